/-
  The document's net: gone, Open, Is, Under.
-/
import Derived.Test.YtalabfbnbiagiaaQ1
set_option linter.unusedVariables false
set_option linter.unusedSimpArgs false
namespace Go.Proofs.Ytalabfbnbiagiaa.C
open Go.RowKit Go.Proofs.Ytalabfbnbiagiaa.K

set_option maxRecDepth 100000 in
theorem q_gone (w : World) (σ : Nat → Nat) (t g : Nat) (N : NS) (hN : RefAt w σ t g N) (c : Int) (use : Bool) :
    Calls Try.prog 62 #[.pointer (some ⟨g, 0, none⟩), .int .i64 c, .bool use] w fun e w' => e = .returned (.int .i64 (err N c use)) ∧ Below w.heap.size w w' := by
  obtain ⟨gl, vv, h⟩ := hN
  by_cases hc : 1 ≤ c ∧ c ≤ 64
  · obtain ⟨d, rfl⟩ := Int.eq_ofNat_of_zero_le (show 0 ≤ c by omega)
    have hd : d < 65 := by omega
    obtain ⟨A0, n0, p0, hv0, hp0⟩ := h.vs d 0 (by omega)
    obtain ⟨A1, n1, p1, hv1, hp1⟩ := h.vs d 1 (by omega)
    obtain ⟨A2, n2, p2, hv2, hp2⟩ := h.vs d 2 (by omega)
    obtain ⟨A3, n3, p3, hv3, hp3⟩ := h.vs d 3 (by omega)
    have x0 : w.cell? ⟨gl, d * 7, none⟩ = some (.bool (N.cs d).isSome) := h.l0 hd
    have x1 : w.cell? ⟨gl, d * 7 + 1, none⟩ = some (.bool (closedOf N d)) := h.l1 hd
    have x2 : w.cell? ⟨gl, d * 7 + 2, none⟩ = some (.bool (cutOf N d)) := h.l2 hd
    have x3 : w.cell? ⟨gl, d * 7 + 3, none⟩ = some (.slice A0 n0 p0) := by rw [← hv0]; exact h.lv hd 0 (by omega)
    have x4 : w.cell? ⟨gl, d * 7 + 4, none⟩ = some (.slice A1 n1 p1) := by rw [← hv1]; exact h.lv hd 1 (by omega)
    have x5 : w.cell? ⟨gl, d * 7 + 5, none⟩ = some (.slice A2 n2 p2) := by rw [← hv2]; exact h.lv hd 2 (by omega)
    have x6 : w.cell? ⟨gl, d * 7 + 6, none⟩ = some (.slice A3 n3 p3) := by rw [← hv3]; exact h.lv hd 3 (by omega)
    have c2 := h.c2
    have he : err N (d : Int) use = match N.cs d with | none => 44 | some C => if use && (C.cut || C.closed) then 44 else 0 := by
      unfold err
      rw [if_neg (by omega), Int.toNat_natCast]
      rfl
    have hq := fun W => q_is W (d : Int)
    simp only [decide_eq_true hc] at hq
    have Hq := Lib.hid hq
    have hd0 : (0 : Int) ≤ (d : Int) := by omega
    have hd1 : (d : Int) < 65 := by omega
    have hal : ∀ b0 b1 b2 : Bool, Below w.heap.size w (w.alloc (.cells #[.bool b0, .bool b1, .bool b2, .slice A0 n0 p0, .slice A1 n1 p1, .slice A2 n2 p2, .slice A3 n3 p3] 104)) := fun _ _ _ => (Below.refl _ _).alloc (Nat.le_refl _) _
    have Hal := Lib.hid hal
    rcases hC : N.cs d with _ | C
    · rw [hC] at he x0
      rw [show err N (d : Int) use = 44 from he]
      rw [show closedOf N d = false by unfold closedOf; rw [hC]] at x1
      rw [show cutOf N d = false by unfold cutOf; rw [hC]] at x2
      simp only [Option.isSome_none] at x0
      clear h hv0 hv1 hv2 hv3 he hq hc hC hal
      go_enter Try.func62, Try.ntmps62
      go_wp2_with fail
      refine (Hq.out w).mono ?_
      rintro e w1 ⟨rfl, rfl⟩
      go_wp2
      go_ret
      exact ⟨rfl, Hal.out _ _ _⟩
    · rw [hC] at he x0
      rw [show err N (d : Int) use = (if use && (C.cut || C.closed) then 44 else 0) from he]
      rw [show closedOf N d = C.closed by unfold closedOf; rw [hC]] at x1
      rw [show cutOf N d = C.cut by unfold cutOf; rw [hC]] at x2
      simp only [Option.isSome_some] at x0
      clear h hv0 hv1 hv2 hv3 he hq hc hC hal
      generalize C.closed = b1 at x1 ⊢
      generalize C.cut = b2 at x2 ⊢
      rcases use with _ | _ <;> rcases b1 with _ | _ <;> rcases b2 with _ | _
      all_goals
        go_enter Try.func62, Try.ntmps62
        go_wp2_with fail
        refine (Hq.out w).mono ?_
        rintro e w1 ⟨rfl, rfl⟩
        go_wp2
        go_ret
        exact ⟨rfl, Hal.out _ _ _⟩
  · have he : err N c use = 1 := by unfold err; rw [if_pos (by omega)]
    rw [he]
    have hq := fun W => q_is W c
    simp only [decide_eq_false hc] at hq
    have Hq := Lib.hid hq
    clear h hc he hq
    go_enter Try.func62, Try.ntmps62
    go_wp2_with fail
    refine (Hq.out w).mono ?_
    rintro e w1 ⟨rfl, rfl⟩
    go_wp2
    go_ret
    exact ⟨rfl, Below.refl _ _⟩
set_option maxRecDepth 100000 in
theorem q_is_ (w : World) (σ : Nat → Nat) (t g : Nat) (N : NS) (hN : RefAt w σ t g N) (c : Int) :
    Calls Try.prog 54 #[.pointer (some ⟨g, 0, none⟩), .int .i64 c] w fun e w' => e = .returned (.tuple #[.bool (N.is_ c).1, .bool (N.is_ c).2]) ∧ Below w.heap.size w w' := by
  obtain ⟨gl, vv, h⟩ := hN
  by_cases hc : 1 ≤ c ∧ c ≤ 64
  · obtain ⟨d, rfl⟩ := Int.eq_ofNat_of_zero_le (show 0 ≤ c by omega)
    have hd : d < 65 := by omega
    obtain ⟨A0, n0, p0, hv0, hp0⟩ := h.vs d 0 (by omega)
    obtain ⟨A1, n1, p1, hv1, hp1⟩ := h.vs d 1 (by omega)
    obtain ⟨A2, n2, p2, hv2, hp2⟩ := h.vs d 2 (by omega)
    obtain ⟨A3, n3, p3, hv3, hp3⟩ := h.vs d 3 (by omega)
    have x0 : w.cell? ⟨gl, d * 7, none⟩ = some (.bool (N.cs d).isSome) := h.l0 hd
    have x1 : w.cell? ⟨gl, d * 7 + 1, none⟩ = some (.bool (closedOf N d)) := h.l1 hd
    have x2 : w.cell? ⟨gl, d * 7 + 2, none⟩ = some (.bool (cutOf N d)) := h.l2 hd
    have x3 : w.cell? ⟨gl, d * 7 + 3, none⟩ = some (.slice A0 n0 p0) := by rw [← hv0]; exact h.lv hd 0 (by omega)
    have x4 : w.cell? ⟨gl, d * 7 + 4, none⟩ = some (.slice A1 n1 p1) := by rw [← hv1]; exact h.lv hd 1 (by omega)
    have x5 : w.cell? ⟨gl, d * 7 + 5, none⟩ = some (.slice A2 n2 p2) := by rw [← hv2]; exact h.lv hd 2 (by omega)
    have x6 : w.cell? ⟨gl, d * 7 + 6, none⟩ = some (.slice A3 n3 p3) := by rw [← hv3]; exact h.lv hd 3 (by omega)
    have c2 := h.c2
    have he : N.is_ (d : Int) = match N.cs d with | none => (false, false) | some C => (!C.cut && !C.closed, C.cut) := by
      unfold NS.is_ err
      rw [if_neg (show ¬ ((d : Int) < 1 ∨ 64 < (d : Int)) by omega), Int.toNat_natCast]
      rcases N.cs d with _ | C
      · rfl
      · simp
    have hq := fun W => q_is W (d : Int)
    simp only [decide_eq_true hc] at hq
    have Hq := Lib.hid hq
    have hd0 : (0 : Int) ≤ (d : Int) := by omega
    have hd1 : (d : Int) < 65 := by omega
    have hal : ∀ b0 b1 b2 : Bool, Below w.heap.size w ((w.alloc (.cells #[.bool b0, .bool b1, .bool b2, .slice A0 n0 p0, .slice A1 n1 p1, .slice A2 n2 p2, .slice A3 n3 p3] 104)).drew) := fun _ _ _ => ((Below.refl _ _).alloc (Nat.le_refl _) _).drew
    have Hal := Lib.hid hal
    rcases hC : N.cs d with _ | C
    · rw [hC] at he x0
      rw [show N.is_ (d : Int) = (false, false) from he]
      rw [show closedOf N d = false by unfold closedOf; rw [hC]] at x1
      rw [show cutOf N d = false by unfold cutOf; rw [hC]] at x2
      simp only [Option.isSome_none] at x0
      clear h hv0 hv1 hv2 hv3 he hq hc hC hal
      go_enter Try.func54, Try.ntmps54
      go_wp2_with fail
      refine (Hq.out w).mono ?_
      rintro e w1 ⟨rfl, rfl⟩
      go_wp2_with fail
      go_big_region
      go_wp2
      go_ret2
      exact ⟨rfl, Hal.out _ _ _⟩
    · rw [hC] at he x0
      rw [show N.is_ (d : Int) = (!C.cut && !C.closed, C.cut) from he]
      rw [show closedOf N d = C.closed by unfold closedOf; rw [hC]] at x1
      rw [show cutOf N d = C.cut by unfold cutOf; rw [hC]] at x2
      simp only [Option.isSome_some] at x0
      clear h hv0 hv1 hv2 hv3 he hq hc hC hal
      generalize C.closed = b1 at x1 ⊢
      generalize C.cut = b2 at x2 ⊢
      rcases b1 with _ | _ <;> rcases b2 with _ | _
      all_goals
        go_enter Try.func54, Try.ntmps54
        go_wp2_with fail
        refine (Hq.out w).mono ?_
        rintro e w1 ⟨rfl, rfl⟩
        go_wp2_with fail
        go_big_region
        go_wp2
        go_ret2
        exact ⟨rfl, Hal.out _ _ _⟩
  · have he : N.is_ c = (false, false) := by
      unfold NS.is_ err
      rw [if_pos (show c < 1 ∨ 64 < c by omega)]
      rfl
    rw [he]
    have hq := fun W => q_is W c
    simp only [decide_eq_false hc] at hq
    have Hq := Lib.hid hq
    clear h hc he hq
    go_enter Try.func54, Try.ntmps54
    go_wp2_with fail
    refine (Hq.out w).mono ?_
    rintro e w1 ⟨rfl, rfl⟩
    go_wp2
    go_ret2
    exact ⟨rfl, Below.refl _ _⟩
end Go.Proofs.Ytalabfbnbiagiaa.C
