/-
  Rows that were told and are kept: each in a block of its own; an append that leaves the old row as it was.
-/
import Derived.Test.YtgcnappgecdldaaKit
import Derived.ArgAppend
import Derived.Maps.AppendAt
import Derived.Deep.DeepAppendRoom
import Derived.Laws.OwnMore
import Derived.Lib.OwnKind
import Derived.OneCell
set_option linter.unusedVariables false
namespace Go.Proofs.Ytgcnappgecdldaa.K
open Go.RowKit

/-- A row as it was told: its value, its length, its cells. -/
structure TRow where
  v : Value
  n : Nat
  xs : List Value

/-- Rows of the call's own, each in a block of its own. -/
structure TRows (w : World) (B : Nat) (e : TypeId) (sz : Nat) (rs : List TRow) : Prop where
  own : ∀ p ∈ rs, w.ownsRow B e sz p.v p.n p.xs
  apart : rs.Pairwise (fun p q => p.v.ownBlock = none ∨ p.v.ownBlock ≠ q.v.ownBlock)

section
variable {w w' : World} {B e sz : Nat} {rs : List TRow}

theorem TRows.nil (w : World) (B : Nat) (e : TypeId) (sz : Nat) : TRows w B e sz [] := ⟨by simp, .nil⟩
theorem TRows.below (h : TRows w B e sz rs) (hb : Below w.heap.size w w') : TRows w' B e sz rs := ⟨fun p hp => own_below (h.own p hp) hb, h.apart⟩
theorem TRows.same (h : TRows w B e sz rs) (hb : w'.heap = w.heap) : TRows w' B e sz rs := ⟨fun p hp => by have := h.own p hp; unfold World.ownsRow at this ⊢; rw [hb]; exact this, h.apart⟩
theorem TRows.grown (h : TRows w B e sz rs) {row : Option Nat} (hg : w.grownBy w' row) (hne : ∀ p ∈ rs, p.v.ownBlock = none ∨ p.v.ownBlock ≠ row) : TRows w' B e sz rs :=
  ⟨fun p hp => (h.own p hp).kept hg (hne p hp), h.apart⟩
theorem TRows.only (h : TRows w B e sz rs) {fs : List Nat} (ho : Only fs w w') (hne : ∀ p ∈ rs, ∀ b, p.v.ownBlock = some b → b ∉ fs) : TRows w' B e sz rs :=
  ⟨fun p hp => own_only (h.own p hp) ho (hne p hp), h.apart⟩

theorem own_ne_kind {B' e' sz' n n' : Nat} {v v' : Value} {xs xs' : List Value} (h : w.ownsRow B e sz v n xs) (h' : w.ownsRow B' e' sz' v' n' xs') (hne : e ≠ e') : v.ownBlock = none ∨ v.ownBlock ≠ v'.ownBlock := by
  rcases hv : v.ownBlock with _ | g
  · exact .inl rfl
  · right
    intro he
    obtain ⟨c, fz, hc⟩ := Go.Lib.ownsRow_kind h g hv
    obtain ⟨c', fz', hc'⟩ := Go.Lib.ownsRow_kind h' g he.symm
    rw [hc] at hc'
    injection hc' with hc'
    injection hc' with _ ht
    exact hne ht

theorem own_ne_blk {g n : Nat} {t : TypeId} {cs : Array Value} {v : Value} {xs : List Value} (h : w.ownsRow B e sz v n xs) (hb : Blk w g t cs) (hne : e ≠ t) : v.ownBlock = none ∨ v.ownBlock ≠ some g := by
  rcases hv : v.ownBlock with _ | g'
  · exact .inl rfl
  · right
    intro he
    obtain rfl := Option.some.inj he
    obtain ⟨c, fz, hc⟩ := Go.Lib.ownsRow_kind h g' hv
    unfold Blk at hb
    rw [hc] at hb
    injection hb with hb
    injection hb with _ ht
    exact hne ht

/-- Rows that are newly made. -/
theorem TRows.snoc (h : TRows w B e sz rs) (p : TRow) {w1 : World} (hb : Below w.heap.size w w1) (hB : B ≤ w.heap.size) (hp : w1.ownsRow w.heap.size e sz p.v p.n p.xs) : TRows w1 B e sz (rs ++ [p]) := by
  refine ⟨fun q hq => ?_, ?_⟩
  · rcases List.mem_append.1 hq with hq | hq
    · exact own_below (h.own q hq) hb
    · obtain rfl : q = p := by simpa using hq
      exact own_mono hp hB
  · rw [List.pairwise_append]
    refine ⟨h.apart, List.pairwise_singleton _ _, fun a ha b hb' => ?_⟩
    obtain rfl : b = p := by simpa using hb'
    rcases hv : a.v.ownBlock with _ | g
    · exact .inl rfl
    · right
      intro he
      have h1 := ((h.own a ha).lt g hv).2
      have h2 := (hp.lt g he.symm).1
      omega

/-- One row is written: the others stay. -/
theorem TRows.write (h : TRows w B e sz rs) (i : Nat) (p q : TRow) (hi : rs[i]? = some p) (hv : q.v = p.v) (hq : w'.ownsRow B e sz q.v q.n q.xs) (hg : w.grownBy w' p.v.ownBlock) : TRows w' B e sz (rs.set i q) := by
  have hlt : i < rs.length := (List.getElem?_eq_some_iff.1 hi).1
  have hp : rs[i] = p := (List.getElem?_eq_some_iff.1 hi).2
  have hpw := List.pairwise_iff_getElem.1 h.apart
  have hrel : ∀ j, (hj : j < rs.length) → j ≠ i → rs[j].v.ownBlock = none ∨ rs[j].v.ownBlock ≠ p.v.ownBlock := by
    intro j hj hji
    rcases Nat.lt_or_gt_of_ne hji with hlt' | hgt
    · have := hpw j i hj hlt hlt'
      rwa [hp] at this
    · have := hpw i j hlt hj hgt
      rw [hp] at this
      rcases hv : rs[j].v.ownBlock with _ | gj
      · exact .inl rfl
      · right
        rw [hv] at this
        intro he
        rcases this with h0 | h0
        · rw [h0] at he; cases he
        · exact h0 he.symm
  refine ⟨fun r hr => ?_, ?_⟩
  · obtain ⟨j, hj, rfl⟩ := List.mem_iff_getElem.1 hr
    have hj' : j < rs.length := by simpa using hj
    by_cases hji : j = i
    · subst hji
      rw [List.getElem_set_self]
      exact hq
    · rw [List.getElem_set_ne (fun e => hji e.symm)]
      exact (h.own _ (List.getElem_mem hj')).kept hg (hrel j hj' hji)
  · rw [List.pairwise_iff_getElem]
    intro a b ha hb hab
    have ha' : a < rs.length := by simpa using ha
    have hb' : b < rs.length := by simpa using hb
    have e1 : ∀ j, (hj : j < (rs.set i q).length) → (rs.set i q)[j].v = (rs[j]'(by simpa using hj)).v := by
      intro j hj
      by_cases hji : j = i
      · subst hji
        rw [List.getElem_set_self, hv, hp]
      · rw [List.getElem_set_ne (fun e => hji e.symm)]
    rw [e1 a ha, e1 b hb]
    exact hpw a b ha' hb' hab

theorem TRows.get (h : TRows w B e sz rs) (i : Nat) (p : TRow) (hi : rs[i]? = some p) : w.ownsRow B e sz p.v p.n p.xs := h.own p (List.mem_of_getElem? hi)
end

theorem TRows.perm {w : World} {B e sz : Nat} {rs rt : List TRow} (h : TRows w B e sz rs) (hp : rs.Perm rt) : TRows w B e sz rt :=
  ⟨fun p hm => h.own p (hp.mem_iff.2 hm), (hp.pairwise_iff (fun {a b} hab => by
    rcases hb : b.v.ownBlock with _ | g
    · exact .inl rfl
    · right
      intro he
      rcases hab with h0 | h0
      · rw [h0] at he; cases he
      · exact h0 (by rw [hb, he]))).1 h.apart⟩

/-- An append onto a row of the call's own: the new row, and the old one as it was. -/
theorem run_append_keeps {P : Program} (w : World) (base : Nat) (t ty e : TypeId) (i : TypeInfo) (z : Value) (size bytes : Nat) (ht : P.underlying t = some (.slice e)) (hi : P.info? e = some i) (hz : i.zero = some z)
    (hsize : i.size = size) (hby : i.bytes = bytes) (hzs : z.cells.size = size) (hsz : 0 < size)
    (v : Value) (n : Nat) (xs : List Value) (hown : w.ownsRow base e size v n xs)
    (ad : Addr) (m c : Nat) (news : List Value) (hl : news.length = m * size) (hnews : ∀ j u, news[j]? = some u → w.cell? (ad.add j) = some u) (h1 : ∀ u ∈ news, u.oneCell' = true)
    (h63 : n + m ≤ maxLen) (hbytes : (n + m) * bytes ≤ 140737488355328) (hbase : base ≤ w.heap.size) :
    ∃ v' w', (Builtin.append_ #[t, t] ty #[v, .slice (some ad) m c]).run P w = .ok v' w' ∧ w'.ownsRow base e size v' (n + m) (xs ++ news) ∧ w'.ownsRow base e size v n xs ∧ w.grownBy w' v.ownBlock := by
  rcases hown.2 with ⟨rfl, rfl⟩ | ⟨g, cap, cur, rfl, hbg, hg, hnc, hcm, hcs, htake⟩
  · obtain ⟨v', w', hr, h2, h3, _⟩ := run_append_own_at (P := P) w base t ty e i z size bytes ht hi hz hsize hby hzs hsz _ _ xs hown ad m c news hl hnews h1 h63 hbytes hbase
    have hx : xs = [] := List.eq_nil_of_length_eq_zero (by simpa using hown.1)
    subst hx
    exact ⟨v', w', hr, h2, World.ownsRow_nil _ _ _ _, h3⟩
  · by_cases hroom : n + m ≤ cap
    · obtain ⟨w', hr, h2, h3⟩ := run_append_own_spare (P := P) w base t ty e i size ht hi hsize g n cap xs hown ad m c news hl hnews h1 hroom
      refine ⟨_, w', hr, h2, ?_, h3⟩
      refine ⟨hown.1, .inr ?_⟩
      rcases h2.2 with ⟨h0, _⟩ | ⟨g', cap', cur', hv, hb', hg', hn', hm', hs', ht'⟩
      · cases h0
      · cases hv
        refine ⟨g, cap, cur', rfl, hb', hg', hnc, hm', hs', ?_⟩
        have hlx : xs.length = n * size := hown.1
        have : (cur'.toList.take ((n + m) * size)).take (n * size) = (xs ++ news).take (n * size) := by rw [ht']
        rw [List.take_take, Nat.min_eq_left (Nat.mul_le_mul_right _ (by omega)), ← hlx, List.take_left, hlx] at this
        exact this
    · obtain ⟨v', w', hr, h2, h3⟩ := run_append_arg_grows (P := P) w t ty e i z size bytes ht hi hz hsize hby hzs hsz ⟨g, 0, none⟩ n cap xs hown.1 (hown.cells (g := g) rfl) ad m c news hl hnews (by omega) h63 hbytes
      have hg2 : w.grownBy w' (Value.ownBlock (.slice (some ⟨g, 0, none⟩) n cap)) := ⟨h3.os, h3.tape, h3.output, h3.size, fun k hk _ => h3.block k hk (by simp)⟩
      exact ⟨v', w', hr, own_mono h2 hbase, hown.kept h3 (.inr (by simp [Value.ownBlock])), hg2⟩

theorem wpList_append_keeps {P : Program} {w : World} {ops : Array Oper} {rest : List Oper} {o : Oper} {a : Act} {Q : Exit → Act → World → Prop} (hgd : o.guard = none) (s x : Operand) (t : TypeId)
    (ho : o.op = .call { callee := .builtin .append, args := #[s, x], argTypes := #[t, t] })
    (base : Nat) (e : TypeId) (i : TypeInfo) (z : Value) (size bytes : Nat) (ht : P.underlying t = some (.slice e)) (hi : P.info? e = some i) (hz : i.zero = some z)
    (hsize : i.size = size) (hby : i.bytes = bytes) (hzs : z.cells.size = size) (hsz : 0 < size)
    (v : Value) (n : Nat) (xs : List Value) (hs : a.eval s = v) (hown : w.ownsRow base e size v n xs)
    (ad : Addr) (m c : Nat) (news : List Value) (hx : a.eval x = .slice (some ad) m c) (hl : news.length = m * size) (hnews : ∀ j u, news[j]? = some u → w.cell? (ad.add j) = some u) (h1 : ∀ u ∈ news, u.oneCell' = true)
    (h63 : n + m ≤ maxLen) (hbytes : (n + m) * bytes ≤ 140737488355328) (hbase : base ≤ w.heap.size)
    (h : ∀ v' w', w'.ownsRow base e size v' (n + m) (xs ++ news) → w'.ownsRow base e size v n xs → w.grownBy w' v.ownBlock → wpList P ops Q rest (a.put o.dst v') w') : wpList P ops Q (o :: rest) a w := by
  refine wpList_plain hgd fun K hK => ?_
  obtain ⟨v', w', hr, h2, h3, h4⟩ := run_append_keeps (P := P) w base t o.type e i z size bytes ht hi hz hsize hby hzs hsz v n xs hown ad m c news hl hnews h1 h63 hbytes hbase
  unfold Oper.wp execOp
  simp only [ho, resolve, invoke, builtin, Sem.run_bind, Sem.run_pure, Result.andThen_ok, List.map_toArray, List.map_cons, List.map_nil, hs, hx, hr]
  exact hK _ _ (h v' w' h2 h3 h4)
end Go.Proofs.Ytgcnappgecdldaa.K
