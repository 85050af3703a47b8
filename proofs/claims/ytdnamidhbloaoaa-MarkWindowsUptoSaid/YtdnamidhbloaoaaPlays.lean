/-
  The laws MarkPlays and MarkHolds walked: what both do to a mark is one function on lists (riseB, riseE, riseL).
-/
import Derived.Test.YtdnamidhbloaoaaRef
import Derived.Test.YtdnamidhbloaoaaOpen
import Derived.Deep.RegionHeld3
import Derived.Deep.DrawnRows
import Derived.WalkSpells
set_option linter.unusedVariables false
namespace Go.Proofs.Ytdnamidhbloaoaa.Mark
open Go.RowKit Go.Proofs.Ytdnamidhbloaoaa.K

/-- May a source's mark be taken? -/
def okS (L : List Int) (s : Int) : Prop := 0 ≤ s ∧ s < (L.length : Int)
def okT (t : Int) : Prop := -1152921504606846976 ≤ t ∧ t ≤ 1152921504606846976
instance (L : List Int) (s : Int) : Decidable (okS L s) := by unfold okS; infer_instance
instance (t : Int) : Decidable (okT t) := by unfold okT; infer_instance
/-- The list behind a Rise; its error; whether the least rose. -/
def riseL (L : List Int) (s t : Int) : List Int := if okS L s ∧ okT t then L.set s.toNat (max (nth L s.toNat) t) else L
def riseE (L : List Int) (s t : Int) : Int := if okS L s then (if okT t then 0 else 22) else 1
def riseB (L : List Int) (s t : Int) : Bool := decide (least L < least (riseL L s t))
theorem riseL_length (L : List Int) (s t : Int) : (riseL L s t).length = L.length := by unfold riseL; split <;> simp

theorem rise_any (w : World) (g b : Nat) (L : List Int) (s t : Int) (h : Marks w g b L) (h1 : 1 ≤ L.length) (h2 : L.length ≤ 1000000) :
    Calls Try.prog 13 #[.pointer (some ⟨g, 0, none⟩), .int .i64 s, .int .i64 t] w fun e w' =>
      e = .returned (.tuple #[.bool (riseB L s t), .int .i64 (riseE L s t)]) ∧ Marks w' g b (riseL L s t) ∧ Only [b] w w' := by
  unfold riseB riseE riseL
  by_cases hs : okS L s
  · obtain ⟨n, rfl⟩ := Int.eq_ofNat_of_zero_le hs.1
    have hn : n < L.length := by have := hs.2; omega
    by_cases ht : okT t
    · rw [if_pos ⟨hs, ht⟩, if_pos hs, if_pos ht, Int.toNat_natCast]
      exact rise_good w g b L n t h hn h2 ht.1 ht.2
    · rw [if_neg (fun hh => ht hh.2), if_pos hs, if_neg ht, show decide (least L < least L) = false by simp]
      refine (rise_time w g b L n t h hn ?_).mono fun e w' ⟨he, hw⟩ => ?_
      · unfold okT at ht; omega
      · subst hw; exact ⟨he, h, Only.refl _ _⟩
  · rw [if_neg (fun hh => hs hh.1), if_neg hs, show decide (least L < least L) = false by simp]
    refine (rise_arg w g b L s t h ?_).mono fun e w' ⟨he, hw⟩ => ?_
    · unfold okS at hs; omega
    · subst hw; exact ⟨he, h, Only.refl _ _⟩

theorem rrise_any (w : World) (g b cap : Nat) (L : List Int) (s t : Int) (h : RMarks w g b cap L) (h1 : 1 ≤ L.length) (h2 : L.length ≤ 1000000) :
    Calls Try.prog 14 #[.pointer (some ⟨g, 0, none⟩), .int .i64 s, .int .i64 t] w fun e w' =>
      e = .returned (.tuple #[.bool (riseB L s t), .int .i64 (riseE L s t)]) ∧ RMarks w' g b cap (riseL L s t) ∧ Only [b] w w' := by
  unfold riseB riseE riseL
  by_cases hs : okS L s
  · obtain ⟨n, rfl⟩ := Int.eq_ofNat_of_zero_le hs.1
    have hn : n < L.length := by have := hs.2; omega
    by_cases ht : okT t
    · rw [if_pos ⟨hs, ht⟩, if_pos hs, if_pos ht, Int.toNat_natCast]
      exact rrise_good w g b cap L n t h hn h2 ht.1 ht.2
    · rw [if_neg (fun hh => ht hh.2), if_pos hs, if_neg ht, show decide (least L < least L) = false by simp]
      refine (rrise_time w g b cap L n t h hn ?_).mono fun e w' ⟨he, hw⟩ => ?_
      · unfold okT at ht; omega
      · subst hw; exact ⟨he, h, Only.refl _ _⟩
  · rw [if_neg (fun hh => hs hh.1), if_neg hs, show decide (least L < least L) = false by simp]
    refine (rrise_arg w g b cap L s t h ?_).mono fun e w' ⟨he, hw⟩ => ?_
    · unfold okS at hs; omega
    · subst hw; exact ⟨he, h, Only.refl _ _⟩

/-- A source's mark as both tell it. -/
def ofF (L : List Int) (s : Int) : Int := if okS L s then nth L s.toNat else -4611686018427387904
theorem of_any (w : World) (g b : Nat) (L : List Int) (s : Int) (h : Marks w g b L) :
    Calls Try.prog 17 #[.pointer (some ⟨g, 0, none⟩), .int .i64 s] w fun e w' => e = .returned (.int .i64 (ofF L s)) ∧ w = w' := by
  unfold ofF
  by_cases hs : okS L s
  · rw [if_pos hs]
    obtain ⟨n, rfl⟩ := Int.eq_ofNat_of_zero_le hs.1
    exact of_good w g b L n h (by have := hs.2; omega)
  · rw [if_neg hs]
    exact of_bad w g b L s h (by unfold okS at hs; omega)
theorem rof_any (w : World) (g b cap : Nat) (L : List Int) (s : Int) (h : RMarks w g b cap L) :
    Calls Try.prog 18 #[.pointer (some ⟨g, 0, none⟩), .int .i64 s] w fun e w' => e = .returned (.int .i64 (ofF L s)) ∧ w = w' := by
  unfold ofF
  by_cases hs : okS L s
  · rw [if_pos hs]
    obtain ⟨n, rfl⟩ := Int.eq_ofNat_of_zero_le hs.1
    exact rof_good w g b cap L n h (by have := hs.2; omega)
  · rw [if_neg hs]
    exact rof_bad w g b cap L s h (by unfold okS at hs; omega)

/-! ### head -/
theorem head_any (w : World) : Calls Try.prog 19 #[] w fun e w' => e = .returned (.bool true) ∧ Below w.heap.size w w' := by
  go_enter Try.func19, Try.ntmps19
  go_wp2_with fail
  refine (new_good 2 _ (by omega) (by omega)).mono ?_
  rintro e w1 ⟨g, b, rfl, hM, hb1, hg, hbb⟩
  have r1 : riseL (List.replicate 2 (-4611686018427387904)) 0 5 = [5, -4611686018427387904] := by decide
  have r2 : riseL [5, -4611686018427387904] 1 3 = [5, 3] := by decide
  have b1 : riseB (List.replicate 2 (-4611686018427387904)) 0 5 = false := by decide
  have b2 : riseB [5, -4611686018427387904] 1 3 = true := by decide
  go_wp2_with fail
  refine (rise_any _ g b _ 0 5 hM (by decide) (by decide)).mono ?_
  rintro e w2 ⟨rfl, hM2, ho2⟩
  rw [r1] at hM2
  rw [b1]
  go_wp2_with fail
  refine (rise_any _ g b _ 1 3 hM2 (by decide) (by decide)).mono ?_
  rintro e w3 ⟨rfl, hM3, ho3⟩
  rw [r2] at hM3
  rw [b2]
  go_wp2_with fail
  refine (least_any _ g b _ hM3 (by decide) (by decide)).mono ?_
  rintro e w4 ⟨rfl, rfl⟩
  rw [show least [5, 3] = 3 by decide]
  go_wp2_with fail
  refine (of_any _ g b _ 0 hM3).mono ?_
  rintro e w4 ⟨rfl, rfl⟩
  rw [show ofF [5, 3] 0 = 5 by decide]
  go_wp2
  go_ret
  exact ⟨rfl, Below.only_ (fs := [b]) hb1 (ho2.trans ho3) hb1.size (by simpa using hbb)⟩
end Go.Proofs.Ytdnamidhbloaoaa.Mark
