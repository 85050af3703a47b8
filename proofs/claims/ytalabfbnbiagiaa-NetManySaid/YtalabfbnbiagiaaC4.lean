/-
  What a net's calls do: New, Open, Send, Bring.
-/
import Derived.Test.YtalabfbnbiagiaaC3
set_option linter.unusedVariables false
set_option linter.unusedSimpArgs false
namespace Go.Proofs.Ytalabfbnbiagiaa.C
open Go.RowKit Go.Proofs.Ytalabfbnbiagiaa.K

def NS.new (i o : Int) : NS := ⟨i, o, fun _ => none, 0⟩
theorem new_good {i o : Int} (h : 1 ≤ i ∧ i ≤ 131072 ∧ 1 ≤ o ∧ o ≤ 131072) : Good (NS.new i o) :=
  ⟨h.1, h.2.1, h.2.2.1, h.2.2.2, Int.le_refl _, fun c C h => (by cases h), fun c C h => (by cases h), fun c C h => (by cases h), fun c C h => (by cases h), fun c C h => (by cases h)⟩

set_option maxRecDepth 100000 in
theorem new_c (w : World) (i o : Int) (h : 1 ≤ i ∧ i ≤ 131072 ∧ 1 ≤ o ∧ o ≤ 131072) (σ : Nat → Nat) (t : Nat) :
    Calls Try.prog 13 #[.int .i64 i, .int .i64 o] w fun e w' => ∃ g, e = .returned (.tuple #[.pointer (some ⟨g, 0, none⟩), .int .i64 0]) ∧ w.heap.size ≤ g ∧ g < w'.heap.size ∧ Below w.heap.size w w' ∧ NetAt w' (upd σ w.heap.size (t + 4)) t g (NS.new i o) := by
  obtain ⟨h1, h2, h3, h4⟩ := h
  have hg := new_good (i := i) (o := o) ⟨h1, h2, h3, h4⟩
  have e1 : ¬ i < 1 := by omega
  have e2 : ¬ (131072 : Int) < i := by omega
  have e3 : ¬ o < 1 := by omega
  have e4 : ¬ (131072 : Int) < o := by omega
  clear h1 h2 h3 h4
  go_enter Try.func13, Try.ntmps13
  go_wp2
  go_ret2
  refine ⟨w.heap.size, rfl, Nat.le_refl _, by simp, (Below.refl _ _).alloc (Nat.le_refl _) _, fun _ => 0, hg, ⟨?_, upd_new (Nat.le_refl _)⟩, fun c C h => (by cases h)⟩
  have := Blk.new w 73 (netCells (NS.new i o) (fun _ => 0)).toArray
  exact this

/-- New, whatever the rooms. -/
def newErr (i o : Int) : Int := if i < 1 ∨ 131072 < i ∨ o < 1 ∨ 131072 < o then 1 else 0
set_option maxRecDepth 100000 in
theorem new_no (w : World) (i o : Int) (h : ¬ (1 ≤ i ∧ i ≤ 131072 ∧ 1 ≤ o ∧ o ≤ 131072)) :
    Calls Try.prog 13 #[.int .i64 i, .int .i64 o] w fun e w' => e = .returned (.tuple #[.pointer none, .int .i64 1]) ∧ w = w' := by
  have hc : i < 1 ∨ (¬ i < 1 ∧ 131072 < i) ∨ (¬ i < 1 ∧ ¬ 131072 < i ∧ o < 1) ∨ (¬ i < 1 ∧ ¬ 131072 < i ∧ ¬ o < 1 ∧ 131072 < o) := by omega
  clear h
  rcases hc with h1 | ⟨h1, h2⟩ | ⟨h1, h2, h3⟩ | ⟨h1, h2, h3, h4⟩
  all_goals
    go_enter Try.func13, Try.ntmps13
    go_wp2
    go_ret2
    exact ⟨rfl, rfl⟩

def NS.open_ (N : NS) (c : Int) : Int × NS := if err N c false = 44 then (0, N.put c.toNat ⟨[], [], [], [], false, false⟩) else if err N c false = 0 then (43, N) else (1, N)

theorem err_false (N : NS) (c : Int) : (err N c false = 1 ∧ (c < 1 ∨ 64 < c)) ∨ (err N c false = 44 ∧ 1 ≤ c ∧ c ≤ 64 ∧ N.cs c.toNat = none) ∨ (err N c false = 0 ∧ 1 ≤ c ∧ c ≤ 64 ∧ ∃ C, N.cs c.toNat = some C) := by
  unfold err
  by_cases h : c < 1 ∨ 64 < c
  · exact .inl ⟨if_pos h, h⟩
  · rw [if_neg h]
    rcases hN : N.cs c.toNat with _ | C
    · exact .inr (.inl ⟨rfl, by omega, by omega, rfl⟩)
    · exact .inr (.inr ⟨by simp, by omega, by omega, C, rfl⟩)
theorem err_true (N : NS) (c : Int) : (err N c true = 1 ∧ (c < 1 ∨ 64 < c)) ∨ (err N c true = 44) ∨ (err N c true = 0 ∧ 1 ≤ c ∧ c ≤ 64 ∧ ∃ C, N.cs c.toNat = some C ∧ C.cut = false ∧ C.closed = false) := by
  unfold err
  by_cases h : c < 1 ∨ 64 < c
  · exact .inl ⟨if_pos h, h⟩
  · rw [if_neg h]
    rcases hN : N.cs c.toNat with _ | C
    · exact .inr (.inl rfl)
    · by_cases hd : C.cut || C.closed
      · exact .inr (.inl (by simp [hd]))
      · refine .inr (.inr ⟨by simp [hd], by omega, by omega, C, rfl, ?_⟩)
        simpa using hd

theorem open_cells {N : NS} {ks : Nat → Nat} {c : Nat} (hc : 1 ≤ c ∧ c ≤ 64) (q : Nat) (C : Cn) :
    (netCells N ks).toArray.setIfInBounds (2 + c) (.pointer (some ⟨q, 0, none⟩)) = (netCells (N.put c C) (fun d => if d = c then q else ks d)).toArray := by
  have e : ((List.range 65).map (ptr ks N.cs)).set c (.pointer (some ⟨q, 0, none⟩)) = (List.range 65).map (ptr (fun d => if d = c then q else ks d) (N.put c C).cs) := by
    apply List.ext_getElem?
    intro d
    by_cases hd : d = c
    · subst hd
      rw [List.getElem?_set_self (by simp; omega), tab_get _ _ _ (by omega)]
      simp [ptr, NS.put_same]
    · rw [List.getElem?_set_ne (fun e => hd e.symm)]
      by_cases h65 : d < 65
      · rw [tab_get _ _ _ h65, tab_get _ _ _ h65]
        simp [ptr, NS.put_other _ _ _ _ hd, hd]
      · rw [List.getElem?_eq_none (by simp; omega), List.getElem?_eq_none (by simp; omega)]
  unfold netCells
  rw [← e, List.setIfInBounds_toArray, show 2 + c = c + 1 + 1 by omega, List.set_cons_succ, List.set_cons_succ, List.set_append_left _ _ (by simp; omega)]
  rfl

theorem opened {w : World} {σ : Nat → Nat} {t g d : Nat} {N : NS} {ks : Nat → Nat} (h : NetIn w σ t g N ks) (hd : 1 ≤ d ∧ d ≤ 64) (hN : N.cs d = none) :
    NetIn (((w.setCell ⟨g, 2 + d, none⟩ (.pointer (some ⟨w.heap.size, 0, none⟩))).alloc (.cells (cnCells (.slice none 0 0) (.slice none 0 0) (.slice none 0 0) (.slice none 0 0) N.i N.o false false) 81)).drew) (upd σ w.heap.size (t + 5 * d + 4)) t g
      (N.put d ⟨[], [], [], [], false, false⟩) (fun e => if e = d then w.heap.size else ks e) := by
  have hlt := h.blk.1.lt
  have hch : Chg (fun x => x = t + 4) σ w (upd σ w.heap.size (t + 5 * d + 4)) (((w.setCell ⟨g, 2 + d, none⟩ (.pointer (some ⟨w.heap.size, 0, none⟩))).alloc (.cells (cnCells (.slice none 0 0) (.slice none 0 0) (.slice none 0 0) (.slice none 0 0) N.i N.o false false) 81)).drew) :=
    ((((Chg.refl _ σ w).upd (Nat.le_refl _) (t + 5 * d + 4)).setCell (.inl (by show upd σ w.heap.size (t + 5 * d + 4) g = t + 4; rw [upd_old hlt, h.blk.2])) _).alloc _).drewN 1
  have hi := h.good.i1
  have ho := h.good.o1
  have hm := h.good.m0
  refine ⟨⟨h.good.i1, h.good.i2, h.good.o1, h.good.o2, h.good.m0, ?_, ?_, ?_, ?_, ?_⟩, ⟨?_, ?_⟩, ?_⟩
  case refine_6 =>
    have := ((h.blk.1.set_ (2 + d) (.pointer (some ⟨w.heap.size, 0, none⟩))).alloc (.cells (cnCells (.slice none 0 0) (.slice none 0 0) (.slice none 0 0) (.slice none 0 0) N.i N.o false false) 81)).drew
    rw [open_cells hd w.heap.size ⟨[], [], [], [], false, false⟩] at this
    exact this
  case refine_7 => exact (upd_old hlt).trans h.blk.2
  case refine_8 =>
    intro c C hc
    by_cases hcd : c = d
    · subst hcd
      rw [NS.put_same] at hc
      obtain rfl := Option.some.inj hc
      refine ⟨.slice none 0 0, .slice none 0 0, .slice none 0 0, .slice none 0 0, ⟨?_, upd_new (by simp)⟩, Row.nil _ _ _ _ _, Row.nil _ _ _ _ _, Row.nil _ _ _ _ _, Row.nil _ _ _ _ _⟩
      have := (Blk.new (w.setCell ⟨g, 2 + c, none⟩ (.pointer (some ⟨w.heap.size, 0, none⟩))) 81 (cnCells (.slice none 0 0) (.slice none 0 0) (.slice none 0 0) (.slice none 0 0) N.i N.o false false)).drew
      rw [show (w.setCell ⟨g, 2 + c, none⟩ (.pointer (some ⟨w.heap.size, 0, none⟩))).heap.size = w.heap.size by simp [World.setCell]] at this
      simp only [if_true]
      exact this
    · rw [NS.put_other _ _ _ _ hcd] at hc
      obtain ⟨v0, v1, v2, v3, hC⟩ := h.conns c C hc
      have := h.good.is c C hc
      refine ⟨v0, v1, v2, v3, ?_⟩
      simp only [hcd, if_false]
      exact hC.chg hch fun j hj => by omega
  all_goals
    intro c C hc
    by_cases hcd : c = d
    · subst hcd
      rw [NS.put_same] at hc
      obtain rfl := Option.some.inj hc
      first | exact hd | (simp; done) | (simp [NS.put]; omega)
    · rw [NS.put_other _ _ _ _ hcd] at hc
      first | exact h.good.is c C hc | exact h.good.way c C hc | exact h.good.inb c C hc | exact h.good.out c C hc | exact h.good.heard c C hc

set_option maxRecDepth 100000 in
set_option maxHeartbeats 1600000 in
theorem open_c (w : World) (σ : Nat → Nat) (t g : Nat) (N : NS) (h : NetAt w σ t g N) (c : Int) (hw : (Lit.int .i64 c).wf = true) :
    Calls Try.prog 14 #[.pointer (some ⟨g, 0, none⟩), .int .i64 c] w fun e w' => e = .returned (.int .i64 (N.open_ c).1) ∧ ∃ σ', NetAt w' σ' t g (N.open_ c).2 ∧ Chg (Of t) σ w σ' w' := by
  obtain ⟨ks, h⟩ := h
  have hg := get_c w σ t g N ks h c hw _ rfl _ rfl
  rcases err_false N c with ⟨he, hc⟩ | ⟨he, hc1, hc2, hN⟩ | ⟨he, hc1, hc2, C, hC⟩
  · rw [he] at hg
    rw [show N.open_ c = (1, N) by simp [NS.open_, he]]
    go_enter Try.func14, Try.ntmps14
    go_wp2_with fail
    refine hg.mono ?_
    rintro e w1 ⟨rfl, rfl⟩
    go_wp2
    go_ret
    exact ⟨rfl, σ, ⟨ks, h⟩, Chg.refl _ _ _⟩
  · rw [he] at hg
    rw [show N.open_ c = (0, N.put c.toNat ⟨[], [], [], [], false, false⟩) by simp [NS.open_, he]]
    obtain ⟨d, rfl⟩ := Int.eq_ofNat_of_zero_le (show 0 ≤ c by omega)
    simp only [Int.toNat_natCast] at *
    have h0 := h.cell0
    have h1 := h.cell1
    have hd := h.cellc d (by omega)
    unfold ptr at hd
    rw [hN] at hd
    simp only [Option.isSome_none, Bool.false_eq_true, if_false] at hd
    have hf := h.blk.1.frozen (2 + d)
    have d1 : (0 : Int) ≤ (d : Int) := by omega
    have d2 : (d : Int) < 65 := by omega
    have hlt := h.blk.1.lt
    have q0 : ¬ (2 + d = 0) := by omega
    have q1 : ¬ (2 + d = 1) := by omega
    have q2 : ¬ (0 = 2 + d) := by omega
    have q3 : ¬ (1 = 2 + d) := by omega
    have hne0 := World.new_ne w _ h0
    have hne1 := World.new_ne w _ h1
    have hne := World.new_ne w _ hd
    have H := Lib.hid h
    clear h
    go_enter Try.func14, Try.ntmps14
    go_wp2_with fail
    refine hg.mono ?_
    rintro e w1 ⟨rfl, rfl⟩
    go_wp2_with fail
    go_region
    go_wp2
    go_ret
    refine ⟨rfl, upd σ w.heap.size (t + 5 * d + 4), ⟨fun e => if e = d then w.heap.size else ks e, ?_⟩, ?_⟩
    · exact opened H.out ⟨by omega, by omega⟩ hN
    · exact ((((Chg.refl (Of t) σ w).upd (Nat.le_refl _) (t + 5 * d + 4)).setCell (.inl (by show Of t (upd σ w.heap.size (t + 5 * d + 4) g); rw [upd_old hlt, H.out.blk.2]; unfold Of; omega)) _).alloc _).drewN 1
  · rw [he] at hg
    rw [show N.open_ c = (43, N) by simp [NS.open_, he]]
    go_enter Try.func14, Try.ntmps14
    go_wp2_with fail
    refine hg.mono ?_
    rintro e w1 ⟨rfl, rfl⟩
    go_wp2
    go_ret
    exact ⟨rfl, σ, ⟨ks, h⟩, Chg.refl _ _ _⟩
end Go.Proofs.Ytalabfbnbiagiaa.C
