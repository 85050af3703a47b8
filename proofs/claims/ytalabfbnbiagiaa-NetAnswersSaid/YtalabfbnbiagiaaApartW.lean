/-
  Are the answers apart: the call of 'apart'.
-/
import Derived.Test.YtalabfbnbiagiaaOwn
set_option linter.unusedVariables false
set_option linter.unusedSimpArgs false
namespace Go.Proofs.Ytalabfbnbiagiaa.C
open Go.RowKit Go.Proofs.Ytalabfbnbiagiaa.K

theorem set_of_get {α : Type} (l : List α) (x : Nat) (a : α) (h : l[x]? = some a) : l.set x a = l := by
  obtain ⟨hl, rfl⟩ := List.getElem?_eq_some_iff.1 h
  exact List.set_getElem_self hl
theorem grown_set1 (w : World) (g i : Nat) (a : Value) : w.grownBy (w.setCell ⟨g, i, none⟩ a) (some g) := by
  refine ⟨rfl, rfl, rfl, by simp [World.setCell], fun q hq hne => ?_⟩
  exact Below.heap_setCell _ _ _ _ (fun e => hne (by rw [e]))

/-- Only the rows' own blocks (and what is new) may differ. -/
structure Keeps (ks : List TRow) (w w' : World) : Prop where
  os : w'.os = w.os
  tape : w'.tape = w.tape
  output : w'.output = w.output
  size : w.heap.size ≤ w'.heap.size
  block : ∀ b, b < w.heap.size → (∀ p ∈ ks, p.v.ownBlock ≠ some b) → w'.heap[b]? = w.heap[b]?
section
variable {ks : List TRow} {w w1 w2 : World}
theorem Keeps.refl (ks : List TRow) (w : World) : Keeps ks w w := ⟨rfl, rfl, rfl, Nat.le_refl _, fun _ _ _ => rfl⟩
theorem Keeps.below (h : Keeps ks w w1) (k : Below w1.heap.size w1 w2) : Keeps ks w w2 :=
  ⟨k.os.trans h.os, k.tape.trans h.tape, k.output.trans h.output, Nat.le_trans h.size k.size, fun b hb hn => (k.block b (Nat.lt_of_lt_of_le hb h.size)).trans (h.block b hb hn)⟩
theorem Keeps.alloc (h : Keeps ks w w1) (o : Obj) : Keeps ks w (w1.alloc o) := h.below ((Below.refl _ _).alloc (Nat.le_refl _) _)
theorem Keeps.grown (h : Keeps ks w w1) {row : Option Nat} (k : w1.grownBy w2 row) (hr : ∀ g, row = some g → (∃ p ∈ ks, p.v.ownBlock = some g) ∨ w.heap.size ≤ g) : Keeps ks w w2 :=
  ⟨k.os.trans h.os, k.tape.trans h.tape, k.output.trans h.output, Nat.le_trans h.size k.size, fun b hb hn => (k.block b (Nat.lt_of_lt_of_le hb h.size) (by
    intro e
    rcases hr b e.symm with ⟨p, hp, he⟩ | h0
    · exact hn p hp he
    · omega)).trans (h.block b hb hn)⟩
theorem Keeps.setCell (h : Keeps ks w w1) {p : Addr} (hp : (∃ q ∈ ks, q.v.ownBlock = some p.block) ∨ w.heap.size ≤ p.block) (u : Value) : Keeps ks w (w1.setCell p u) :=
  h.grown (row := some p.block) ⟨rfl, rfl, rfl, by simp [World.setCell], fun q hq hne => Below.heap_setCell _ _ _ _ (fun e => hne (by rw [e]))⟩ (by intro g e; cases e; exact hp)
end

/-- What a row tells, beside its value. -/
def tells (p : TRow) : Nat × List Value := (p.n, p.xs)
def telling (L : List Int) : Nat × List Value := (L.length, bs L)
theorem telling_at {rs : List TRow} {Ls : List (List Int)} (h : rs.map tells = Ls.map telling) {j : Nat} {p : TRow} (hp : rs[j]? = some p) : ∃ L, Ls[j]? = some L ∧ p.n = L.length ∧ p.xs = bs L := by
  have := congrArg (fun l => l[j]?) h
  simp only [List.getElem?_map, hp, Option.map_some] at this
  rcases hL : Ls[j]? with _ | L
  · rw [hL] at this; cases this
  · rw [hL] at this
    simp only [Option.map_some, Option.some.injEq, tells, telling, Prod.mk.injEq] at this
    exact ⟨L, rfl, this.1, this.2⟩

/-- What is laid behind row j. -/
def grew (j : Nat) : List Value := [.int .u8 (((7 * (j : Int) + -3 + 1) % 256)), .int .u8 (((7 * (j : Int) + -6 + 1) % 256))]
/-- Row i written over up to y. -/
def marked2 (i y : Nat) : List Value := bs ((List.range y).map fun j : Nat => ((7 * (i : Int) + 3 * (j : Int) + 1) % 256))
theorem marked2_length (i y : Nat) : (marked2 i y).length = y := by unfold marked2; rw [bs_length]; simp
theorem marked2_succ (i y : Nat) : marked2 i (y + 1) = marked2 i y ++ [.int .u8 (((7 * (i : Int) + 3 * (y : Int) + 1) % 256))] := by
  unfold marked2 bs nums
  rw [List.range_succ, List.map_append, List.map_append]
  rfl
theorem marked2_set (i y n : Nat) (xs : List Value) (hx : xs.length = n) (hy : y < n) :
    (marked2 i y ++ xs.drop y).set y (.int .u8 (((7 * (i : Int) + 3 * (y : Int) + 1) % 256))) = marked2 i (y + 1) ++ xs.drop (y + 1) := by
  have hl := marked2_length i y
  rw [List.drop_eq_getElem_cons (by omega), marked2_succ, List.append_assoc, List.set_append_right _ _ (by omega), hl, Nat.sub_self]
  rfl
theorem marked2_at (i n y : Nat) (h : y < n) : (marked2 i n)[y]? = some (.int .u8 (((7 * (i : Int) + 3 * (y : Int) + 1) % 256))) := by
  unfold marked2 bs nums
  simp [h]

set_option maxRecDepth 100000 in
set_option maxHeartbeats 3200000 in
theorem apart_c (w : World) (B : Nat) (hB : B ≤ w.heap.size) (ks ws : List TRow) (Ls : List (List Int)) (m : Nat) (hm : ks.length = m) (hwm : ws.length = m) (hm60 : m ≤ 100) (hks : ks.map tells = Ls.map telling) (hws : ws.map tells = Ls.map telling) (hn64 : ∀ L ∈ Ls, L.length ≤ 5000)
    (Ak : Option Addr) (ck : Nat) (Aw : Option Addr) (cw : Nat) (hku : w.ownsRow B 29 1 (.slice Ak m ck) m (ks.map TRow.v)) (hwu : w.ownsRow B 29 1 (.slice Aw m cw) m (ws.map TRow.v)) (hT : TRows w B 5 1 (ks ++ ws)) :
    Calls Try.prog 27 #[.slice Ak m ck, .slice Aw m cw] w fun e w' => e = .returned (.bool true) ∧ Keeps ks w w' ∧ w'.ownsRow B 29 1 (.slice Aw m cw) m (ws.map TRow.v) ∧ TRows w' B 5 1 ws := by
  obtain ⟨i0, hi, hz0, hz1, hz2⟩ := info_parts info29'
  obtain ⟨i1, hi1, hy0, hy1, hy2⟩ := info_parts info5'
  have hmk := run_make_rowN (P := Try.prog) 37 29 i0 _ Try.underlying37 hi hz0 .i64 .i64 m m (Nat.le_refl _) (by rw [hz2]; omega) (by omega) w
  rw [hz1, Nat.mul_one] at hmk
  have hnb := Blk.new w 29 (madeCells (Value.slice none 0 0).cells m)
  have hms : madeCells (Value.slice none 0 0).cells m = (List.replicate m (Value.slice none 0 0)).toArray := by
    apply Array.ext_getElem?
    intro i
    by_cases hi : i < m
    · rw [show madeCells (Value.slice none 0 0).cells m = madeCells #[Value.slice none 0 0] m from rfl]
      simp [madeCells, hi, Nat.mod_one]
    · rw [Array.getElem?_eq_none (by rw [show madeCells (Value.slice none 0 0).cells m = madeCells #[Value.slice none 0 0] m from rfl, size_madeCells]; omega), Array.getElem?_eq_none (by simp; omega)]
  rw [hms] at hmk hnb
  have HK0 := Lib.hid (And.intro (fun e => absurd (hku.lt w.heap.size e).2 (by omega)) (fun e => absurd (hwu.lt w.heap.size e).2 (by omega)) : Value.ownBlock (.slice Ak m ck) ≠ some w.heap.size ∧ Value.ownBlock (.slice Aw m cw) ≠ some w.heap.size)
  go_enter Try.func27, Try.ntmps27
  go_wp2_with fail
  go_loopw [6] (fun i wr => ∃ (x : Nat) (ms : List Value), x ≤ m ∧ i = .int .i64 x ∧ ms.length = x ∧ Blk wr w.heap.size 29 (ms ++ List.replicate (m - x) (Value.slice none 0 0)).toArray ∧
    wr.ownsRow B 29 1 (.slice Ak m ck) m (ks.map TRow.v) ∧ wr.ownsRow B 29 1 (.slice Aw m cw) m (ws.map TRow.v) ∧ TRows wr B 5 1 (ks ++ ws) ∧ MRows wr B 5 1 2 (ks ++ ws) grew ms ∧ Keeps ks w wr ∧ w.heap.size ≤ wr.heap.size) (fun i _ => m - (intOf i).toNat)
  case atStart =>
    have hba : Below w.heap.size w (w.alloc (.cells (List.replicate m (Value.slice none 0 0)).toArray 29)) := (Below.refl _ _).alloc (Nat.le_refl _) _
    refine ⟨0, [], Nat.zero_le _, rfl, rfl, by simpa using hnb, ?_, ?_, ?_, MRows.nil _ _ _ _ _ _ _, ?_, by simp⟩
    · have := own_below hku hba; simpa using this
    · have := own_below hwu hba; simpa using this
    · have := hT.below hba; simpa using this
    · have := (Keeps.refl ks w).alloc (.cells (List.replicate m (Value.slice none 0 0)).toArray 29); simpa using this
  case round =>
    clear hku hwu hT hmk hnb
    obtain ⟨x, ms, hx, rfl, hml, hbm, hku, hwu, hT, hM, hbel, hsz⟩ := hrel
    by_cases hxm : x < m
    · obtain ⟨gu, cu', e, hgu, hgl⟩ := own_form hku (by omega)
      cases e
      obtain ⟨p, hp⟩ : ∃ p, ks[x]? = some p := ⟨_, List.getElem?_eq_getElem (by omega)⟩
      have hpo := hT.own p (List.mem_append_left _ (List.mem_of_getElem? hp))
      have hpv : (ks.map TRow.v)[x]? = some p.v := by rw [List.getElem?_map, hp]; rfl
      obtain ⟨L, hL, hpn, hpx⟩ := telling_at hks hp
      have hL64 := hn64 L (List.mem_of_getElem? hL)
      obtain ⟨pv, pn, pxs⟩ := p
      simp only at hpo hpv hpn hpx
      obtain ⟨Ap, cp, rfl⟩ := own_slice hpo
      have cx : wr.cell? ⟨gu, x, none⟩ = some (.slice Ap pn cp) := by
        have := hku.cells (g := gu) rfl x _ hpv
        rwa [add_plain, Nat.zero_add] at this
      have hx0 : (0 : Int) ≤ (x : Int) := by omega
      have hx1 : (x : Int) < (m : Int) := by omega
      have HH := Lib.hid (And.intro hbm (And.intro hku (And.intro hwu (And.intro hT hM))))
      have HP := Lib.hid (And.intro hp (And.intro hpo (And.intro hpn (And.intro hpx hml))))
      have HK := Lib.hid (And.intro hks (And.intro hws (And.intro hn64 (And.intro hm hwm))))
      clear hbm hku hwu hT hM hp hpo hpn hpx hks hws hn64 hpv hL hm hwm hml hms
      go_wp2_with (at_builtin; refine wpList_append_keeps2 (by rfl) _ _ 29 (by rfl) B 5 i1 _ 1 1 Try.underlying29 hi1 hy0 hy1 hy2 rfl (by omega) (.slice Ap pn cp) pn pxs (by rfl) ?c0 ⟨wr.heap.size, 0, none⟩ 2 2 (grew x) (by rfl) rfl ?c2 ?c3 ?c4 ?c5 ?c6 ?_)
      case c0 => exact own_below HP.out.2.1 ((Below.refl _ _).alloc (Nat.le_refl _) _)
      case c2 =>
        intro j u hu
        rw [add_plain, Nat.zero_add, World.cell?_alloc_new]
        simpa [grew] using hu
      case c3 =>
        intro u hu
        simp [grew] at hu
        rcases hu with rfl | rfl <;> rfl
      case c4 => have := HP.out.2.2.1; unfold maxLen; omega
      case c5 => have := HP.out.2.2.1; omega
      case c6 => simp; omega
      intro v' w3 hnew hold hgrow hat
      obtain ⟨A', c', rfl⟩ := own_slice hnew
      have hba : Below wr.heap.size wr (wr.alloc (.cells #[.int .u8 (((7 * (x : Int) + -3 + 1) % 256)), .int .u8 (((7 * (x : Int) + -6 + 1) % 256))] 5)) := (Below.refl _ _).alloc (Nat.le_refl _) _
      have hbm3 : Blk w3 w.heap.size 29 (ms ++ List.replicate (m - x) (Value.slice none 0 0)).toArray := (hgrow.block w.heap.size (HH.out.1.below' hba).lt (by
        rcases own_ne_blk HP.out.2.1 HH.out.1 (by decide) with h0 | h0
        · rw [h0]; simp
        · exact fun e => h0 e.symm)).trans (HH.out.1.below' hba)
      have cm : w3.cell? ⟨w.heap.size, x, none⟩ = some (.slice none 0 0) := by
        rw [hbm3.cell, List.getElem?_toArray, List.getElem?_append_right (by rw [HP.out.2.2.2.2]; exact Nat.le_refl _), HP.out.2.2.2.2, Nat.sub_self, List.getElem?_replicate, if_pos (by omega)]
      have fm := hbm3.frozen x
      have Hgr := Lib.hid (And.intro hgrow (And.intro hnew (And.intro hold (And.intro hat (And.intro hba hbm3)))))
      clear hgrow hnew hold hat hba hbm3
      go_wp2_with fail
      go_roundw
      case rel =>
        obtain ⟨hgrow, hnew, hold, hat, hba, hbm3⟩ := Hgr.out
        obtain ⟨hbm, hku, hwu, hT, hM⟩ := HH.out
        obtain ⟨hp, hpo, hpn, hpx, hml⟩ := HP.out
        have hget : (ks ++ ws)[x]? = some ⟨.slice Ap pn cp, pn, pxs⟩ := by rw [List.getElem?_append_left (by have := (List.getElem?_eq_some_iff.1 hp).1; exact this)]; exact hp
        have hT3 := (hT.below hba).write x ⟨.slice Ap pn cp, pn, pxs⟩ ⟨.slice Ap pn cp, pn, pxs⟩ hget rfl hold hgrow
        rw [set_of_get _ _ _ hget] at hT3
        have hxl : pxs.length = pn * 1 := by rw [hpx, bs_length, hpn, Nat.mul_one]
        have hM3 := (hM.below hba).snoc (hT.below hba) (x := x) hml hget (mv := .slice A' (pn + 2) c') (xs := pxs) rfl (by exact hnew) hxl hgrow (by simpa using hat)
        have hku3 := (own_below hku hba).kept hgrow (own_ne_kind hku hpo (by decide))
        have hwu3 := (own_below hwu hba).kept hgrow (own_ne_kind hwu hpo (by decide))
        have hs3 : w.heap.size < w3.heap.size := hbm3.lt
        have hset := hbm3.set_ x (.slice A' (pn + 2) c')
        have hgs := grown_set1 w3 w.heap.size x (.slice A' (pn + 2) c')
        have e1 : (ms ++ List.replicate (m - x) (Value.slice none 0 0)).toArray.setIfInBounds x (.slice A' (pn + 2) c') = ((ms ++ [Value.slice A' (pn + 2) c']) ++ List.replicate (m - (x + 1)) (Value.slice none 0 0)).toArray := by
          rw [List.setIfInBounds_toArray, List.set_append_right _ _ (by rw [hml]; exact Nat.le_refl _), hml, Nat.sub_self, show m - x = (m - (x + 1)) + 1 by omega, List.replicate_succ, List.set_cons_zero, List.append_assoc]
          rfl
        rw [e1] at hset
        have hmg : ∀ {v : Value} {n : Nat} {xs : List Value}, w3.ownsRow B 5 1 v n xs → v.ownBlock = none ∨ v.ownBlock ≠ some w.heap.size := fun h => own_ne_blk h hbm3 (by decide)
        refine ⟨x + 1, ms ++ [.slice A' (pn + 2) c'], by omega, by go_num, by rw [List.length_append, hml]; rfl, hset, ?_, ?_, ?_, ?_, ?_, ?_⟩
        · refine hku3.kept hgs ?_
          exact .inr HK0.out.1
        · refine hwu3.kept hgs ?_
          exact .inr HK0.out.2
        · exact ⟨fun q hq => (hT3.own q hq).kept hgs (hmg (hT3.own q hq)), hT3.apart⟩
        · exact hM3.other hgs (fun j mv hj e => by
            rcases Nat.lt_or_ge j (ks ++ ws).length with hjl | hjl
            · obtain ⟨ys, _, _, h3, _⟩ := hM3 j _ mv (List.getElem?_eq_getElem hjl) hj
              rcases hmg h3 with h0 | h0
              · rw [h0] at e; cases e
              · exact h0 e
            · have h1 := (List.getElem?_eq_some_iff.1 hj).1
              have h2 := (List.getElem?_eq_some_iff.1 hp).1
              simp only [List.length_append, List.length_singleton] at h1 hjl
              omega)
        · exact ((hbel.alloc _).grown hgrow (fun q e => .inl ⟨_, List.mem_of_getElem? hp, e⟩)).setCell (.inr (Nat.le_refl _)) _
        · simp [World.setCell]; omega
      case measure => simp [intOf]; omega
    · obtain rfl : x = m := by omega
      have hbm1 : Blk wr w.heap.size 29 ms.toArray := by have h1 := hbm; rw [Nat.sub_self, List.replicate_zero, List.append_nil] at h1; exact h1
      have HK := Lib.hid (And.intro hks (And.intro hws (And.intro hn64 (And.intro hm (And.intro hwm hml)))))
      obtain ⟨gm, hgm⟩ : ∃ gm, gm = w.heap.size := ⟨_, rfl⟩
      rw [← hgm] at hbm1
      simp only [← hgm]
      have Hgm := Lib.hid hgm
      clear hbm hks hws hn64 hm hwm hml hms hgm
      generalize wr = wq at hbm1 hku hwu hT hM hbel hsz ⊢
      go_wp2_with fail
      go_loopw [7] (fun i wy => ∃ z : Nat, z ≤ x ∧ i = .int .i64 z ∧ Below wq.heap.size wq wy) (fun i _ => x - (intOf i).toNat)
      case atStart => exact ⟨0, Nat.zero_le _, rfl, Below.refl _ _⟩
      case round =>
        obtain ⟨z, hz, rfl, hbz⟩ := hrel
        by_cases hzx : z < x
        · obtain ⟨gu, cu', e, hgu, hgl⟩ := own_form hku (by omega)
          cases e
          obtain ⟨gv, cv', e, hgv, hgvl⟩ := own_form hwu (by omega)
          cases e
          obtain ⟨p, hp⟩ : ∃ p, ks[z]? = some p := ⟨_, List.getElem?_eq_getElem (by have := HK.out.2.2.2.1; omega)⟩
          obtain ⟨q, hq⟩ : ∃ q, ws[z]? = some q := ⟨_, List.getElem?_eq_getElem (by have := HK.out.2.2.2.2.1; omega)⟩
          have hpo := hT.own p (List.mem_append_left _ (List.mem_of_getElem? hp))
          have hqo := hT.own q (List.mem_append_right _ (List.mem_of_getElem? hq))
          have hpv : (ks.map TRow.v)[z]? = some p.v := by rw [List.getElem?_map, hp]; rfl
          have hqv : (ws.map TRow.v)[z]? = some q.v := by rw [List.getElem?_map, hq]; rfl
          obtain ⟨L, hL, hpn, hpx⟩ := telling_at HK.out.1 hp
          obtain ⟨L', hL', hqn, hqx⟩ := telling_at HK.out.2.1 hq
          rw [hL] at hL'
          obtain rfl := Option.some.inj hL'
          obtain ⟨pv, pn, pxs⟩ := p
          obtain ⟨qv, qn, qxs⟩ := q
          simp only at hpo hpv hqo hqv hpn hqn hpx hqx
          subst hpx hqx
          obtain rfl : pn = qn := by omega
          obtain ⟨Ap, cp, rfl⟩ := own_slice hpo
          obtain ⟨Aq, cq, rfl⟩ := own_slice hqo
          have cx0 : wq.cell? ⟨gu, z, none⟩ = some (.slice Ap pn cp) := by
            have := hku.cells (g := gu) rfl z _ hpv
            rwa [add_plain, Nat.zero_add] at this
          have cy0 : wq.cell? ⟨gv, z, none⟩ = some (.slice Aq pn cq) := by
            have := hwu.cells (g := gv) rfl z _ hqv
            rwa [add_plain, Nat.zero_add] at this
          have cx := (hbz.cell (p := ⟨gu, z, none⟩) hgl).trans cx0
          have cy := (hbz.cell (p := ⟨gv, z, none⟩) hgvl).trans cy0
          have hz0 : (0 : Int) ≤ (z : Int) := by omega
          have hz1 : (z : Int) < (x : Int) := by omega
          have hp64 : pn ≤ 5000 := by rw [hpn]; exact HK.out.2.2.1 L (List.mem_of_getElem? hL)
          have HpL := Lib.hid hpn
          clear hp hq hpv hqv hL hL' hpn hqn
          go_wp2_with fail
          go_region
          go_wp2_with fail
          have hbz1 := below_drewN hbz 1
          go_loopw [8] (fun j wy => ∃ y : Nat, y ≤ pn ∧ j = .int .i64 y ∧ Below wq.heap.size wq wy) (fun j _ => pn - (intOf j).toNat)
          case atStart => exact ⟨0, Nat.zero_le _, rfl, hbz1⟩
          case round =>
            clear hbz hbz1 cx cy
            obtain ⟨y, hy, rfl, hbz⟩ := hrel
            have cx := (hbz.cell (p := ⟨gu, z, none⟩) hgl).trans cx0
            have cy := (hbz.cell (p := ⟨gv, z, none⟩) hgvl).trans cy0
            by_cases hyp : y < pn
            · obtain ⟨gp, cp', e, hgp, hgpl⟩ := own_form hpo (by omega)
              cases e
              obtain ⟨gq, cq', e, hgq, hgql⟩ := own_form hqo (by omega)
              cases e
              have d0 : wr.cell? ⟨gp, y, none⟩ = some (.int .u8 (nth L y)) := (hbz.cell (p := ⟨gp, y, none⟩) hgpl).trans ((World.ownsRow.cellAt hpo y (by omega)).trans (nums_get _ _ _ (by have := HpL.out; omega)))
              have d1 : wr.cell? ⟨gq, y, none⟩ = some (.int .u8 (nth L y)) := (hbz.cell (p := ⟨gq, y, none⟩) hgql).trans ((World.ownsRow.cellAt hqo y (by omega)).trans (nums_get _ _ _ (by have := HpL.out; omega)))
              have y0 : (0 : Int) ≤ (y : Int) := by omega
              have y1 : (y : Int) < (pn : Int) := by omega
              go_wp2_with fail
              go_region
              go_wp2_with fail
              go_roundw
              case rel => exact ⟨y + 1, by omega, by go_num, below_drewN hbz 1⟩
              case measure => simp [intOf]; omega
            · obtain rfl : y = pn := by omega
              go_wp2_with fail
              go_roundw
              case rel => exact ⟨z + 1, by omega, by go_num, hbz⟩
              case measure => simp [intOf]; omega
        · obtain rfl : z = x := by omega
          have hb1 := hbm1.below' hbz
          have hku1 := own_below hku hbz
          have hwu1 := own_below hwu hbz
          have hT1 := hT.below hbz
          have hM1 := hM.below hbz
          have hbel1 := hbel.below hbz
          have hsz1 := Nat.le_trans hsz hbz.size
          clear hbm1 hku hwu hT hM hbel hsz hbz
          generalize wr = wo at hb1 hku1 hwu1 hT1 hM1 hbel1 hsz1 ⊢
          go_wp2_with fail
          have hrn : ∀ p ∈ ks, p.n ≤ 5000 := by
            intro p hp
            obtain ⟨j, hj, rfl⟩ := List.mem_iff_getElem.1 hp
            obtain ⟨L, hL, hn, _⟩ := telling_at HK.out.1 (List.getElem?_eq_getElem hj)
            rw [hn]
            exact HK.out.2.2.1 L (List.mem_of_getElem? hL)
          have hkl : ks.length = z := HK.out.2.2.2.1
          have hml : ms.length = z := HK.out.2.2.2.2.2
          generalize hvs : ks.map TRow.v = vs at hku1
          have Hks0 := Lib.hid hvs
          have hvl : vs.length = z := by rw [← hvs, ← hkl]; simp
          have Hvl := Lib.hid (And.intro hvl hml)
          clear hvl hml
          go_loopw [9] (fun i wx => ∃ (x : Nat) (kt : List TRow), x ≤ z ∧ i = .int .i64 x ∧ kt.map TRow.v = vs ∧ (∀ p ∈ kt, p.n ≤ 5000) ∧ (∀ j p, kt[j]? = some p → j < x → p.xs = marked2 j p.n) ∧
            wx.ownsRow B 29 1 (.slice Ak z ck) z vs ∧ wx.ownsRow B 29 1 (.slice Aw z cw) z (ws.map TRow.v) ∧ TRows wx B 5 1 (kt ++ ws) ∧ MRows wx B 5 1 2 (kt ++ ws) grew ms ∧ Blk wx gm 29 ms.toArray ∧ Keeps ks w wx) (fun i _ => z - (intOf i).toNat)
          case atStart => exact ⟨0, ks, Nat.zero_le _, rfl, hvs, hrn, fun _ _ _ h => absurd h (by omega), hku1, hwu1, hT1, hM1, hb1, hbel1⟩
          case round =>
            clear hku1 hwu1 hT1 hM1 hb1 hbel1 hsz1 hvs hrn hkl
            obtain ⟨x, kt, hx, rfl, hvs, hrn, hmk, hku, hwu, hT, hM, hbm, hbel⟩ := hrel
            have hrl : kt.length = z := by rw [← Hvl.out.1, ← hvs]; simp
            have Hvs := Lib.hid hvs
            have Hrl := Lib.hid hrl
            clear hvs hrl
            by_cases hxm : x < z
            · obtain ⟨gu, cu', e, hgu, hgl⟩ := own_form hku (by omega)
              cases e
              obtain ⟨p, hp⟩ : ∃ p, kt[x]? = some p := ⟨_, List.getElem?_eq_getElem (by have := Hrl.out; omega)⟩
              have hpn := hrn p (List.mem_of_getElem? hp)
              have hpo := hT.own p (List.mem_append_left _ (List.mem_of_getElem? hp))
              have hpv : vs[x]? = some p.v := by rw [← Hvs.out, List.getElem?_map, hp]; rfl
              obtain ⟨pv, pn, pxs⟩ := p
              simp only at hpn hpo hpv
              obtain ⟨Ap, cp, rfl⟩ := own_slice hpo
              have hx0 : (0 : Int) ≤ (x : Int) := by omega
              have hx1 : (x : Int) < (z : Int) := by omega
              have hpl : pxs.length = pn := by have := hpo.1; omega
              have Hp := Lib.hid hp
              have Hpv := Lib.hid hpv
              have Hpl := Lib.hid hpl
              have hget : (kt ++ ws)[x]? = some ⟨.slice Ap pn cp, pn, pxs⟩ := by rw [List.getElem?_append_left (by have := Hrl.out; omega)]; exact hp
              have hTs : TRows wr B 5 1 (kt.set x ⟨.slice Ap pn cp, pn, marked2 x 0 ++ pxs.drop 0⟩ ++ ws) := by
                rw [show marked2 x 0 ++ pxs.drop 0 = pxs from rfl, set_of_get _ _ _ hp]
                exact hT
              have hMs : MRows wr B 5 1 2 (kt.set x ⟨.slice Ap pn cp, pn, marked2 x 0 ++ pxs.drop 0⟩ ++ ws) grew ms := by
                rw [show marked2 x 0 ++ pxs.drop 0 = pxs from rfl, set_of_get _ _ _ hp]
                exact hM
              clear hp hpv hpl hpo hget hT hM
              go_wp2_with fail
              go_loopw [10] (fun j wy => ∃ y : Nat, y ≤ pn ∧ j = .int .i64 y ∧ wy.ownsRow B 29 1 (.slice (some ⟨gu, 0, none⟩) z ck) z vs ∧ wy.ownsRow B 29 1 (.slice Aw z cw) z (ws.map TRow.v) ∧
                TRows wy B 5 1 (kt.set x ⟨.slice Ap pn cp, pn, marked2 x y ++ pxs.drop y⟩ ++ ws) ∧ MRows wy B 5 1 2 (kt.set x ⟨.slice Ap pn cp, pn, marked2 x y ++ pxs.drop y⟩ ++ ws) grew ms ∧ Blk wy gm 29 ms.toArray ∧ Keeps ks w wy) (fun j _ => pn - (intOf j).toNat)
              case atStart => exact ⟨0, Nat.zero_le _, rfl, hku, hwu, hTs, hMs, hbm, hbel⟩
              case round =>
                clear hku hwu hTs hMs hbm hbel
                obtain ⟨y, hy, rfl, hku, hwu, hT, hM, hbm, hbel⟩ := hrel
                have cx : wr.cell? ⟨gu, x, none⟩ = some (.slice Ap pn cp) := by
                  have := hku.cells (g := gu) rfl x _ Hpv.out
                  rwa [add_plain, Nat.zero_add] at this
                have hgt : (kt.set x ⟨.slice Ap pn cp, pn, marked2 x y ++ pxs.drop y⟩ ++ ws)[x]? = some ⟨.slice Ap pn cp, pn, marked2 x y ++ pxs.drop y⟩ := by
                  rw [List.getElem?_append_left (by have := Hrl.out; simp; omega)]; exact List.getElem?_set_self (by have := Hrl.out; omega)
                have hq : wr.ownsRow B 5 1 (.slice Ap pn cp) pn (marked2 x y ++ pxs.drop y) := hT.get x _ hgt
                have Hgt := Lib.hid hgt
                clear hgt
                by_cases hyp : y < pn
                · obtain ⟨gp, cp', e, hgp, hgpl⟩ := own_form hq (by omega)
                  cases e
                  have hxl : (marked2 x y ++ pxs.drop y).length = pn := by have := hq.1; omega
                  obtain ⟨a0, c0⟩ : ∃ a, wr.cell? ⟨gp, y, none⟩ = some a := ⟨_, (World.ownsRow.cellAt hq y (by omega)).trans (List.getElem?_eq_getElem (by omega))⟩
                  have f0 := World.ownsRow.frozenAt hq y
                  have y0 : (0 : Int) ≤ (y : Int) := by omega
                  have y1 : (y : Int) < (pn : Int) := by omega
                  clear hxl
                  go_wp2_with fail
                  go_roundw
                  case rel =>
                    have hq3 := (World.ownsRow.stored hq y (.int .u8 (((7 * (x : Int) + 3 * (y : Int) + 1) % 256)))).1
                    rw [marked2_set x y pn pxs Hpl.out hyp] at hq3
                    have hgr := grown_set1 wr gp y (.int .u8 (((7 * (x : Int) + 3 * (y : Int) + 1) % 256)))
                    have hT3 := hT.write x _ ⟨.slice (some ⟨gp, 0, none⟩) pn cp, pn, marked2 x (y + 1) ++ pxs.drop (y + 1)⟩ Hgt.out rfl hq3 hgr
                    have hM3 := hM.write (q := ⟨.slice (some ⟨gp, 0, none⟩) pn cp, pn, marked2 x (y + 1) ++ pxs.drop (y + 1)⟩) Hgt.out rfl rfl (g := gp) (y := y) rfl (by simp; omega) (.int .u8 (((7 * (x : Int) + 3 * (y : Int) + 1) % 256))) hgr
                    rw [List.set_append_left _ _ (by have := Hrl.out; simp; omega), List.set_set] at hT3 hM3
                    have hbm3 : Blk (wr.setCell ⟨gp, y, none⟩ (.int .u8 (((7 * (x : Int) + 3 * (y : Int) + 1) % 256)))) gm 29 ms.toArray := hbm.far (by
                      rcases own_ne_blk hq hbm (by decide) with h0 | h0
                      · cases h0
                      · intro e; exact h0 (by rw [e]; rfl)) _
                    exact ⟨y + 1, by omega, by go_num, hku.kept hgr (own_ne_kind hku hq (by decide)), hwu.kept hgr (own_ne_kind hwu hq (by decide)), hT3, hM3, hbm3, hbel.setCell (.inl (by
                      have h1 := Hpv.out
                      rw [← Hks0.out, List.getElem?_map] at h1
                      obtain ⟨q, hq1, hq2⟩ := Option.map_eq_some_iff.1 h1
                      exact ⟨q, List.mem_of_getElem? hq1, by rw [hq2]; rfl⟩)) _⟩
                  case measure => simp [intOf]; omega
                · obtain rfl : y = pn := by omega
                  go_wp2_with fail
                  go_roundw
                  case rel =>
                    have hd : pxs.drop y = [] := List.drop_of_length_le (by rw [Hpl.out]; omega)
                    refine ⟨x + 1, kt.set x ⟨.slice Ap y cp, y, marked2 x y ++ pxs.drop y⟩, by omega, by go_num, ?_, ?_, ?_, hku, hwu, hT, hM, hbm, hbel⟩
                    · rw [List.map_set, Hvs.out]
                      exact set_of_get _ _ _ Hpv.out
                    · intro p hp
                      rcases List.mem_or_eq_of_mem_set hp with hp | rfl
                      · exact hrn p hp
                      · exact hpn
                    · intro j p hp hj
                      by_cases hjx : j = x
                      · subst hjx
                        rw [List.getElem?_set_self (by have := Hrl.out; omega)] at hp
                        obtain rfl := Option.some.inj hp
                        show marked2 j y ++ pxs.drop y = marked2 j y
                        rw [hd, List.append_nil]
                      · rw [List.getElem?_set_ne (fun e => hjx e.symm)] at hp
                        exact hmk j p hp (by omega)
                  case measure => simp [intOf]; omega
            · obtain rfl : x = z := by omega
              generalize wr = wc at hku hwu hT hM hbm hbel ⊢
              go_wp2_with fail
              go_loopw [11] (fun i wy => ∃ t : Nat, t ≤ x ∧ i = .int .i64 t ∧ Below wc.heap.size wc wy) (fun i _ => x - (intOf i).toNat)
              case atStart => exact ⟨0, Nat.zero_le _, rfl, Below.refl _ _⟩
              case round =>
                obtain ⟨t, ht, rfl, hbz⟩ := hrel
                by_cases htx : t < x
                · obtain ⟨gu, cu', e, hgu, hgl⟩ := own_form hku (by omega)
                  cases e
                  obtain ⟨p, hp⟩ : ∃ p, kt[t]? = some p := ⟨_, List.getElem?_eq_getElem (by have := Hrl.out; omega)⟩
                  have hpn := hrn p (List.mem_of_getElem? hp)
                  have hpo := hT.own p (List.mem_append_left _ (List.mem_of_getElem? hp))
                  have hpm := hmk t p hp htx
                  have hpv : vs[t]? = some p.v := by rw [← Hvs.out, List.getElem?_map, hp]; rfl
                  have hgt : (kt ++ ws)[t]? = some p := by rw [List.getElem?_append_left (by have := Hrl.out; omega)]; exact hp
                  obtain ⟨mv, hmv⟩ : ∃ mv, ms[t]? = some mv := ⟨_, List.getElem?_eq_getElem (by have := Hvl.out.2; omega)⟩
                  obtain ⟨ys, hyl, _, hmo, _⟩ := hM t p mv hgt hmv
                  obtain ⟨pv, pn, pxs⟩ := p
                  simp only at hpn hpo hpv hpm hyl hmo
                  subst hpm
                  obtain ⟨Ap, cp, rfl⟩ := own_slice hpo
                  obtain ⟨gq, cq, rfl, hgq, hgql⟩ := own_form hmo (by omega)
                  have cx0 : wc.cell? ⟨gu, t, none⟩ = some (.slice Ap pn cp) := by
                    have := hku.cells (g := gu) rfl t _ hpv
                    rwa [add_plain, Nat.zero_add] at this
                  have cx := (hbz.cell (p := ⟨gu, t, none⟩) hgl).trans cx0
                  have cm : wr.cell? ⟨gm, t, none⟩ = some (.slice (some ⟨gq, 0, none⟩) (pn + 2) cq) := (hbz.cell (p := ⟨gm, t, none⟩) hbm.lt).trans (by rw [hbm.cell, List.getElem?_toArray]; exact hmv)
                  have d0 : wr.cell? ⟨gq, pn, none⟩ = some (.int .u8 (((7 * (t : Int) + -3 + 1) % 256))) := (hbz.cell (p := ⟨gq, pn, none⟩) hgql).trans ((World.ownsRow.cellAt hmo pn (by omega)).trans (by rw [List.getElem?_append_right (by omega), hyl, Nat.mul_one, Nat.sub_self]; rfl))
                  have d1 : wr.cell? ⟨gq, pn + 1, none⟩ = some (.int .u8 (((7 * (t : Int) + -6 + 1) % 256))) := (hbz.cell (p := ⟨gq, pn + 1, none⟩) hgql).trans ((World.ownsRow.cellAt hmo (pn + 1) (by omega)).trans (by rw [List.getElem?_append_right (by omega), hyl, Nat.mul_one, show pn + 1 - pn = 1 by omega]; rfl))
                  have hz0 : (0 : Int) ≤ (t : Int) := by omega
                  have hz1 : (t : Int) < (x : Int) := by omega
                  have p2 : (((pn + 2 : Nat)) : Int) = (pn : Int) + 2 := by omega
                  have p3 : (0 : Int) ≤ (pn : Int) := by omega
                  have p4 : (pn : Int) < (pn : Int) + 2 := by omega
                  have p5 : (pn : Int) + 1 < (pn : Int) + 2 := by omega
                  have p6 : ((pn : Int) + 1).toNat = pn + 1 := by omega
                  have p7 : (0 : Int) ≤ (pn : Int) + 1 := by omega
                  clear hp hpv hgt hmv
                  go_wp2_with fail
                  go_loopw [13] (fun j wy => ∃ y : Nat, y ≤ pn ∧ j = .int .i64 y ∧ Below wc.heap.size wc wy) (fun j _ => pn - (intOf j).toNat)
                  case atStart => exact ⟨0, Nat.zero_le _, rfl, hbz⟩
                  case round =>
                    clear hbz cx cm d0 d1
                    obtain ⟨y, hy, rfl, hbz⟩ := hrel
                    have cx := (hbz.cell (p := ⟨gu, t, none⟩) hgl).trans cx0
                    by_cases hyp : y < pn
                    · obtain ⟨gp, cp', e, hgp, hgpl⟩ := own_form hpo (by omega)
                      cases e
                      have c0 : wr.cell? ⟨gp, y, none⟩ = some (.int .u8 (((7 * (t : Int) + 3 * (y : Int) + 1) % 256))) := (hbz.cell (p := ⟨gp, y, none⟩) hgpl).trans ((World.ownsRow.cellAt hpo y (by omega)).trans (marked2_at t pn y hyp))
                      have y0 : (0 : Int) ≤ (y : Int) := by omega
                      have y1 : (y : Int) < (pn : Int) := by omega
                      go_wp2_with fail
                      go_roundw
                      case rel => exact ⟨y + 1, by omega, by go_num, hbz⟩
                      case measure => simp [intOf]; omega
                    · obtain rfl : y = pn := by omega
                      go_wp2_with fail
                      go_roundw
                      case rel => exact ⟨t + 1, by omega, by go_num, hbz⟩
                      case measure => simp [intOf]; omega
                · go_wp2_with fail
                  go_wp2
                  go_ret
                  refine ⟨rfl, hbel.below hbz, own_below hwu hbz, ?_⟩
                  have hT2 := hT.below hbz
                  exact ⟨fun p hp => hT2.own p (List.mem_append_right _ hp), (List.pairwise_append.1 hT2.apart).2.1⟩
end Go.Proofs.Ytalabfbnbiagiaa.C
