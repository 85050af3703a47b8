/-
  Rows grown beside the rows they came from: an append that leaves the old row and says where the new one lies; grown rows kept while the old ones are written over.
-/
import Derived.Test.YtalabfbnbiagiaaTold
set_option linter.unusedVariables false
namespace Go.Proofs.Ytalabfbnbiagiaa.K
open Go.RowKit

/-- An append onto a row of the call's own: the new row, the old one as it was, and the new one lies in the old one's block or in a new one. -/
theorem run_append_keeps2 {P : Program} (w : World) (base : Nat) (t ty e : TypeId) (i : TypeInfo) (z : Value) (size bytes : Nat) (ht : P.underlying t = some (.slice e)) (hi : P.info? e = some i) (hz : i.zero = some z)
    (hsize : i.size = size) (hby : i.bytes = bytes) (hzs : z.cells.size = size) (hsz : 0 < size)
    (v : Value) (n : Nat) (xs : List Value) (hown : w.ownsRow base e size v n xs)
    (ad : Addr) (m c : Nat) (news : List Value) (hl : news.length = m * size) (hnews : ∀ j u, news[j]? = some u → w.cell? (ad.add j) = some u) (h1 : ∀ u ∈ news, u.oneCell' = true)
    (h63 : n + m ≤ maxLen) (hbytes : (n + m) * bytes ≤ 140737488355328) (hbase : base ≤ w.heap.size) :
    ∃ v' w', (Builtin.append_ #[t, t] ty #[v, .slice (some ad) m c]).run P w = .ok v' w' ∧ w'.ownsRow base e size v' (n + m) (xs ++ news) ∧ w'.ownsRow base e size v n xs ∧ w.grownBy w' v.ownBlock ∧
      (v'.ownBlock = v.ownBlock ∨ ∀ g, v'.ownBlock = some g → w.heap.size ≤ g) := by
  rcases hown.2 with ⟨rfl, rfl⟩ | ⟨g, cap, cur, rfl, hbg, hg, hnc, hcm, hcs, htake⟩
  · have h0 : w.ownsRow w.heap.size e size (.slice none 0 0) 0 xs := ⟨hown.1, .inl ⟨rfl, rfl⟩⟩
    obtain ⟨v', w', hr, h2, h3, _⟩ := run_append_own_at (P := P) w w.heap.size t ty e i z size bytes ht hi hz hsize hby hzs hsz _ _ xs h0 ad m c news hl hnews h1 h63 hbytes (Nat.le_refl _)
    have hx : xs = [] := List.eq_nil_of_length_eq_zero (by simpa using hown.1)
    subst hx
    exact ⟨v', w', hr, own_mono h2 hbase, World.ownsRow_nil _ _ _ _, h3, .inr fun g hg => (h2.lt g hg).1⟩
  · by_cases hroom : n + m ≤ cap
    · obtain ⟨w', hr, h2, h3⟩ := run_append_own_spare (P := P) w base t ty e i size ht hi hsize g n cap xs hown ad m c news hl hnews h1 hroom
      refine ⟨_, w', hr, h2, ?_, h3, .inl rfl⟩
      refine ⟨hown.1, .inr ?_⟩
      rcases h2.2 with ⟨h0, _⟩ | ⟨g', cap', cur', hv, hb', hg', hn', hm', hs', ht'⟩
      · cases h0
      · cases hv
        refine ⟨g, cap, cur', rfl, hb', hg', hnc, hm', hs', ?_⟩
        have hlx : xs.length = n * size := hown.1
        have : (cur'.toList.take ((n + m) * size)).take (n * size) = (xs ++ news).take (n * size) := by rw [ht']
        rw [List.take_take, Nat.min_eq_left (Nat.mul_le_mul_right _ (by omega)), ← hlx, List.take_left, hlx] at this
        exact this
    · obtain ⟨v', w', hr, h2, h3⟩ := run_append_arg_grows (P := P) w t ty e i z size bytes ht hi hz hsize hby hzs hsz ⟨g, 0, none⟩ n cap xs hown.1 (hown.cells (g := g) rfl) ad m c news hl hnews (by omega) h63 hbytes
      have hg2 : w.grownBy w' (Value.ownBlock (.slice (some ⟨g, 0, none⟩) n cap)) := ⟨h3.os, h3.tape, h3.output, h3.size, fun k hk _ => h3.block k hk (by simp)⟩
      exact ⟨v', w', hr, own_mono h2 hbase, hown.kept h3 (.inr (by simp [Value.ownBlock])), hg2, .inr fun g hg => (h2.lt g hg).1⟩

theorem wpList_append_keeps2 {P : Program} {w : World} {ops : Array Oper} {rest : List Oper} {o : Oper} {a : Act} {Q : Exit → Act → World → Prop} (hgd : o.guard = none) (s x : Operand) (t : TypeId)
    (ho : o.op = .call { callee := .builtin .append, args := #[s, x], argTypes := #[t, t] })
    (base : Nat) (e : TypeId) (i : TypeInfo) (z : Value) (size bytes : Nat) (ht : P.underlying t = some (.slice e)) (hi : P.info? e = some i) (hz : i.zero = some z)
    (hsize : i.size = size) (hby : i.bytes = bytes) (hzs : z.cells.size = size) (hsz : 0 < size)
    (v : Value) (n : Nat) (xs : List Value) (hs : a.eval s = v) (hown : w.ownsRow base e size v n xs)
    (ad : Addr) (m c : Nat) (news : List Value) (hx : a.eval x = .slice (some ad) m c) (hl : news.length = m * size) (hnews : ∀ j u, news[j]? = some u → w.cell? (ad.add j) = some u) (h1 : ∀ u ∈ news, u.oneCell' = true)
    (h63 : n + m ≤ maxLen) (hbytes : (n + m) * bytes ≤ 140737488355328) (hbase : base ≤ w.heap.size)
    (h : ∀ v' w', w'.ownsRow base e size v' (n + m) (xs ++ news) → w'.ownsRow base e size v n xs → w.grownBy w' v.ownBlock → (v'.ownBlock = v.ownBlock ∨ ∀ g, v'.ownBlock = some g → w.heap.size ≤ g) → wpList P ops Q rest (a.put o.dst v') w') : wpList P ops Q (o :: rest) a w := by
  refine wpList_plain hgd fun K hK => ?_
  obtain ⟨v', w', hr, h2, h3, h4, h5⟩ := run_append_keeps2 (P := P) w base t o.type e i z size bytes ht hi hz hsize hby hzs hsz v n xs hown ad m c news hl hnews h1 h63 hbytes hbase
  unfold Oper.wp execOp
  simp only [ho, resolve, invoke, builtin, Sem.run_bind, Sem.run_pure, Result.andThen_ok, List.map_toArray, List.map_cons, List.map_nil, hs, hx, hr]
  exact hK _ _ (h v' w' h2 h3 h4 h5)

/-- The grown rows ms of the first rows of rs: each bears, behind as many cells as its old row, the cells that were laid behind; its block is no other old row's. -/
def MRows (w : World) (B : Nat) (e sz k : Nat) (rs : List TRow) (news : Nat → List Value) (ms : List Value) : Prop :=
  ∀ (j : Nat) (p : TRow) (mv : Value), rs[j]? = some p → ms[j]? = some mv → ∃ ys : List Value, ys.length = p.n * sz ∧ (news j).length = k * sz ∧ w.ownsRow B e sz mv (p.n + k) (ys ++ news j) ∧
    ∀ (i : Nat) (q : TRow), rs[i]? = some q → i ≠ j → q.v.ownBlock = none ∨ q.v.ownBlock ≠ mv.ownBlock

section
variable {w w' : World} {B e sz k : Nat} {rs rt : List TRow} {news : Nat → List Value} {ms : List Value}
theorem MRows.nil (w : World) (B e sz k : Nat) (rs : List TRow) (news : Nat → List Value) : MRows w B e sz k rs news [] := by
  intro j p mv _ h; simp at h
theorem MRows.below (h : MRows w B e sz k rs news ms) (hb : Below w.heap.size w w') : MRows w' B e sz k rs news ms := by
  intro j p mv hp hm
  obtain ⟨ys, h1, h2, h3, h4⟩ := h j p mv hp hm
  exact ⟨ys, h1, h2, own_below h3 hb, h4⟩
theorem MRows.other (h : MRows w B e sz k rs news ms) {row : Option Nat} (hg : w.grownBy w' row) (hne : ∀ (j : Nat) (mv : Value), ms[j]? = some mv → mv.ownBlock ≠ row) : MRows w' B e sz k rs news ms := by
  intro j p mv hp hm
  obtain ⟨ys, h1, h2, h3, h4⟩ := h j p mv hp hm
  exact ⟨ys, h1, h2, h3.kept hg (.inr (hne j mv hm)), h4⟩
/-- Row x, the next one, is grown. -/
theorem MRows.snoc (h : MRows w B e sz k rs news ms) (hT : TRows w B e sz rs) {x : Nat} (hx : ms.length = x) {p : TRow} (hp : rs[x]? = some p) {mv : Value} {xs : List Value} (hn : (news x).length = k * sz) (hw : w'.ownsRow B e sz mv (p.n + k) (xs ++ news x)) (hxs : xs.length = p.n * sz)
    (hg : w.grownBy w' p.v.ownBlock) (hat : mv.ownBlock = p.v.ownBlock ∨ ∀ g, mv.ownBlock = some g → w.heap.size ≤ g) : MRows w' B e sz k rs news (ms ++ [mv]) := by
  intro j q u hq hu
  rcases Nat.lt_trichotomy j x with hlt | rfl | hgt
  · rw [List.getElem?_append_left (by omega)] at hu
    obtain ⟨ys, h1, h2, h3, h4⟩ := h j q u hq hu
    refine ⟨ys, h1, h2, h3.kept hg ?_, h4⟩
    rcases h4 x p hp (by omega) with h0 | h0
    · rw [h0]
      rcases hb : u.ownBlock with _ | g
      · exact .inl rfl
      · exact .inr (by simp)
    · exact .inr fun e => h0 e.symm
  · rw [← hx, List.getElem?_append_right (Nat.le_refl _)] at hu
    simp at hu
    subst hu
    rw [hp] at hq
    obtain rfl := Option.some.inj hq
    refine ⟨xs, hxs, hn, hw, fun i q hq hij => ?_⟩
    rcases hqb : q.v.ownBlock with _ | g
    · exact .inl rfl
    · right
      have hgl := ((hT.own q (List.mem_of_getElem? hq)).lt g hqb).2
      rcases hat with h0 | h0
      · rw [h0]
        intro he
        obtain ⟨hi, hqe⟩ := List.getElem?_eq_some_iff.1 hq
        obtain ⟨hj, hpe⟩ := List.getElem?_eq_some_iff.1 hp
        have hpw := List.pairwise_iff_getElem.1 hT.apart
        rcases Nat.lt_or_gt_of_ne hij with h1 | h1
        · have := hpw i j hi hj h1
          rw [hqe, hpe, hqb, ← he] at this
          simp at this
        · have := hpw j i hj hi h1
          rw [hqe, hpe, hqb, ← he] at this
          simp at this
      · intro he
        have := h0 g he.symm
        omega
  · rw [List.getElem?_eq_none (by simp; omega)] at hu
    cases hu
/-- Cell y of the old row x is written: the grown rows stay in what was laid behind. -/
theorem MRows.write (h : MRows w B e sz k rs news ms) {x : Nat} {p q : TRow} (hp : rs[x]? = some p) (hqv : q.v = p.v) (hqn : q.n = p.n) {g y n cap : Nat} (hpv : p.v = .slice (some ⟨g, 0, none⟩) n cap) (hy : y < p.n * sz) (u : Value) (hg : w.grownBy (w.setCell ⟨g, y, none⟩ u) (some g)) :
    MRows (w.setCell ⟨g, y, none⟩ u) B e sz k (rs.set x q) news ms := by
  have hlt : x < rs.length := (List.getElem?_eq_some_iff.1 hp).1
  have hset : ∀ (i : Nat) (r : TRow), (rs.set x q)[i]? = some r → ∃ r0, rs[i]? = some r0 ∧ r0.v = r.v ∧ r0.n = r.n := by
    intro i r hr
    by_cases hi : i = x
    · subst hi
      rw [List.getElem?_set_self hlt] at hr
      obtain rfl := Option.some.inj hr
      exact ⟨p, hp, hqv.symm, hqn.symm⟩
    · rw [List.getElem?_set_ne (fun e => hi e.symm)] at hr
      exact ⟨r, hr, rfl, rfl⟩
  intro j r mv hr hm
  obtain ⟨r0, hr0, ev, en⟩ := hset j r hr
  obtain ⟨ys, h1, h2, h3, h4⟩ := h j r0 mv hr0 hm
  have h4' : ∀ (i : Nat) (q' : TRow), (rs.set x q)[i]? = some q' → i ≠ j → q'.v.ownBlock = none ∨ q'.v.ownBlock ≠ mv.ownBlock := by
    intro i q' hq' hij
    obtain ⟨q0, hq0, e0, _⟩ := hset i q' hq'
    rw [← e0]
    exact h4 i q0 hq0 hij
  by_cases hgm : mv.ownBlock = some g
  · have hjx : j = x := by
      by_cases hjx : j = x
      · exact hjx
      · rcases h4 x p hp (fun e => hjx e.symm) with h0 | h0
        · rw [hpv] at h0; simp [Value.ownBlock] at h0
        · rw [hpv, hgm] at h0; simp [Value.ownBlock] at h0
    subst hjx
    rw [hp] at hr0
    obtain rfl := Option.some.inj hr0
    rcases h3.2 with ⟨rfl, _⟩ | ⟨g', cap', cur, rfl, hrest⟩
    · simp [Value.ownBlock] at hgm
    · simp [Value.ownBlock] at hgm
      subst hgm
      refine ⟨ys.set y u, by simpa [← en] using h1, h2, ?_, h4'⟩
      have := (World.ownsRow.stored h3 y u).1
      rw [List.set_append_left _ _ (by omega)] at this
      rw [← en]
      exact this
  · refine ⟨ys, by rw [← en]; exact h1, h2, ?_, h4'⟩
    rw [← en]
    exact h3.kept hg (.inr hgm)
end
end Go.Proofs.Ytalabfbnbiagiaa.K
