-- Written by a program for the seat Ytnceikookipdnaa (several functions in one namespace).
import Derived.Test.YtnceikookipdnaaPAll2x0
import Derived.Test.YtnceikookipdnaaPAll2x1
import Derived.Test.YtnceikookipdnaaPAll2x2
import Derived.Test.YtnceikookipdnaaPAll2x3
import Derived.Test.YtnceikookipdnaaPAll2x4
import Derived.Test.YtnceikookipdnaaPAll2x6
namespace Go.Proofs.Ytnceikookipdnaa.PAll2
open Go.RowKit Go.Proofs.YtnceikookipdnaaW.PrintWords Go.Proofs.YtnceikookipdnaaW.PrintLast Go.Proofs.YtnceikookipdnaaW.PrintMore
attribute [local go_sem] max2_int min2_int max_two min_two max_three min_three max_four min_four   -- for this text's walks alone
set_option linter.unusedVariables false
set_option linter.unusedSimpArgs false

/-! ### spatelaw4_PaneMarks: function 12 -/
mutual
def spatelaw4_PaneMarks.j0 : Nat → Int → Int → Int → List Int → List Int → List Int → Bool → Int → Int → Int → Option (Bool)
  | 0, _, _, _, _, _, _, _, _, _, _ => none
  | k + 1, x1, x2, x9, x10, x12, x14, x79, x224000, x224001, x224002 => if x79 = true then (some false) else ((pane_First.f x224000 x224001 x224002 x2).bind fun t239 => (if x224001 = 0 then (none) else (if (Int.tmod t239 x224001) = 0 then ((pane_Closed.f x224000 x224001 x224002 t239 x2).bind fun t240 => (if t240 = true then (spatelaw4_PaneMarks.j1 k x1 x2 x10 x12 x14 t239 true x224000 x224001 x224002) else ((pane_Closed.f x224000 x224001 x224002 (wrap64 (t239 - x224001)) x2).bind fun t241 => (if t241 = true then ((pane_First.f x224000 x224001 x224002 x9).bind fun t242 => (spatelaw4_PaneMarks.j1 k x1 x2 x10 x12 x14 t239 (decide (t242 < t239)) x224000 x224001 x224002)) else (spatelaw4_PaneMarks.j1 k x1 x2 x10 x12 x14 t239 true x224000 x224001 x224002))))) else (spatelaw4_PaneMarks.j1 k x1 x2 x10 x12 x14 t239 true x224000 x224001 x224002))))
def spatelaw4_PaneMarks.j1 : Nat → Int → Int → List Int → List Int → List Int → Int → Bool → Int → Int → Int → Option (Bool)
  | 0, _, _, _, _, _, _, _, _, _, _ => none
  | k + 1, x1, x2, x10, x12, x14, x16, x110, x224000, x224001, x224002 => if x110 = true then (some false) else (if 0 ≤ (wrap64 ((x10.length : Int) - (x12.length : Int))) then (if (wrap64 ((x10.length : Int) - (x12.length : Int))) ≤ (x10.length : Int) then ((spatelaw4_Same.f k x12 (x10.drop ((wrap64 ((x10.length : Int) - (x12.length : Int))) : Int).toNat)).bind fun t247 => (if t247 = true then (if 0 ≤ (wrap64 ((x12.length : Int) - (x14.length : Int))) then (if (wrap64 ((x12.length : Int) - (x14.length : Int))) ≤ (x12.length : Int) then ((spatelaw4_Same.f k x14 (x12.drop ((wrap64 ((x12.length : Int) - (x14.length : Int))) : Int).toNat)).bind fun t252 => (spatelaw4_PaneMarks.j2 k x1 x2 x10 x12 x16 (!t252) x224000 x224001 x224002)) else (none)) else (none)) else (spatelaw4_PaneMarks.j2 k x1 x2 x10 x12 x16 true x224000 x224001 x224002))) else (none)) else (none))
def spatelaw4_PaneMarks.j2 : Nat → Int → Int → List Int → List Int → Int → Bool → Int → Int → Int → Option (Bool)
  | 0, _, _, _, _, _, _, _, _, _ => none
  | k + 1, x1, x2, x10, x12, x16, x132, x224000, x224001, x224002 => if x132 = true then (some false) else (spatelaw4_PaneMarks.l0 k x1 x2 x10 x12 x16 0 x224000 x224001 x224002)
def spatelaw4_PaneMarks.l0 : Nat → Int → Int → List Int → List Int → Int → Int → Int → Int → Int → Option (Bool)
  | 0, _, _, _, _, _, _, _, _, _ => none
  | k + 1, x1, x2, x10, x12, x16, x17, x224000, x224001, x224002 => if x17 < (x10.length : Int) then (if 0 ≤ x17 then ((pane_End.f x224000 x224001 x224002 (rd x10 x17)).bind fun t260 => (if ((decide ((rd x10 x17) ≥ x16)) != (decide (x17 ≥ (wrap64 ((x10.length : Int) - (x12.length : Int)))))) = true then (some false) else ((pane_Closed.f x224000 x224001 x224002 (rd x10 x17) x2).bind fun t263 => (if (t263 != (decide ((wrap64 (t260 + x224002)) ≤ x2))) = true then (some false) else ((pane_Closed.f x224000 x224001 x224002 (rd x10 x17) (wrap64 (t260 + x224002))).bind fun t265 => (if t265 = true then ((pane_Closed.f x224000 x224001 x224002 (rd x10 x17) (wrap64 ((wrap64 (t260 + x224002)) - 1))).bind fun t267 => (if t267 = true then (some false) else (spatelaw4_PaneMarks.l0 k x1 x2 x10 x12 x16 (wrap64 (x17 + 1)) x224000 x224001 x224002))) else (some false))))))) else (none)) else ((pane_Open.f k x224000 x224001 x224002 x1 (-4611686018427387904)).bind fun bt253 => (if bt253.2 = 0 then ((spatelaw4_Same.f k bt253.1 x10).bind fun t257 => (if t257 = true then ((spatelaw4_head.f k).bind fun t258 => (some t258)) else (some false))) else (some false)))
end
def spatelaw4_PaneMarks.f (k : Nat) (a0_0 : Int) (a0_1 : Int) (a0_2 : Int) (a1 : Int) (a2 : Int) (a3 : Int) : Option (Bool) := (spatelaw4_right.f a0_0 a0_1 a0_2).bind fun t224 => (if t224 = true then ((spatelaw4_within.f a1).bind fun t226 => ((pane_Starts.f k a0_0 a0_1 a0_2 t226).bind fun bt227 => ((pane_Open.f k a0_0 a0_1 a0_2 t226 (wrap64 (t226 + (Int.tmod a2 4398046511104)))).bind fun bt231 => ((pane_Open.f k a0_0 a0_1 a0_2 t226 (wrap64 ((wrap64 (t226 + (Int.tmod a2 4398046511104))) + (mx 0 (Int.tmod a3 4398046511104))))).bind fun bt235 => (if bt227.2 = 0 then (if bt231.2 = 0 then (if bt235.2 = 0 then (if (bt231.1.length : Int) > (bt227.1.length : Int) then (spatelaw4_PaneMarks.j0 k t226 (wrap64 (t226 + (Int.tmod a2 4398046511104))) (wrap64 ((wrap64 (t226 + (Int.tmod a2 4398046511104))) + (mx 0 (Int.tmod a3 4398046511104)))) bt227.1 bt231.1 bt235.1 true a0_0 a0_1 a0_2) else (spatelaw4_PaneMarks.j0 k t226 (wrap64 (t226 + (Int.tmod a2 4398046511104))) (wrap64 ((wrap64 (t226 + (Int.tmod a2 4398046511104))) + (mx 0 (Int.tmod a3 4398046511104)))) bt227.1 bt231.1 bt235.1 (decide ((bt235.1.length : Int) > (bt231.1.length : Int))) a0_0 a0_1 a0_2)) else (spatelaw4_PaneMarks.j0 k t226 (wrap64 (t226 + (Int.tmod a2 4398046511104))) (wrap64 ((wrap64 (t226 + (Int.tmod a2 4398046511104))) + (mx 0 (Int.tmod a3 4398046511104)))) bt227.1 bt231.1 bt235.1 true a0_0 a0_1 a0_2)) else (spatelaw4_PaneMarks.j0 k t226 (wrap64 (t226 + (Int.tmod a2 4398046511104))) (wrap64 ((wrap64 (t226 + (Int.tmod a2 4398046511104))) + (mx 0 (Int.tmod a3 4398046511104)))) bt227.1 bt231.1 bt235.1 true a0_0 a0_1 a0_2)) else (spatelaw4_PaneMarks.j0 k t226 (wrap64 (t226 + (Int.tmod a2 4398046511104))) (wrap64 ((wrap64 (t226 + (Int.tmod a2 4398046511104))) + (mx 0 (Int.tmod a3 4398046511104)))) bt227.1 bt231.1 bt235.1 true a0_0 a0_1 a0_2)))))) else ((spatelaw4_head.f k).bind fun t225 => (some t225)))
theorem spatelaw4_PaneMarks.mono_l : ∀ k, (∀ y0 y1 y2 y3 y4 y5 y6 y7 y8 y9, LeO (spatelaw4_PaneMarks.j0 k y0 y1 y2 y3 y4 y5 y6 y7 y8 y9) (spatelaw4_PaneMarks.j0 (k + 1) y0 y1 y2 y3 y4 y5 y6 y7 y8 y9)) ∧ (∀ y0 y1 y2 y3 y4 y5 y6 y7 y8 y9, LeO (spatelaw4_PaneMarks.j1 k y0 y1 y2 y3 y4 y5 y6 y7 y8 y9) (spatelaw4_PaneMarks.j1 (k + 1) y0 y1 y2 y3 y4 y5 y6 y7 y8 y9)) ∧ (∀ y0 y1 y2 y3 y4 y5 y6 y7 y8, LeO (spatelaw4_PaneMarks.j2 k y0 y1 y2 y3 y4 y5 y6 y7 y8) (spatelaw4_PaneMarks.j2 (k + 1) y0 y1 y2 y3 y4 y5 y6 y7 y8)) ∧ (∀ y0 y1 y2 y3 y4 y5 y6 y7 y8, LeO (spatelaw4_PaneMarks.l0 k y0 y1 y2 y3 y4 y5 y6 y7 y8) (spatelaw4_PaneMarks.l0 (k + 1) y0 y1 y2 y3 y4 y5 y6 y7 y8))
  | 0 => ⟨fun _ _ _ _ _ _ _ _ _ _ r h => by simp [spatelaw4_PaneMarks.j0] at h, fun _ _ _ _ _ _ _ _ _ _ r h => by simp [spatelaw4_PaneMarks.j1] at h, fun _ _ _ _ _ _ _ _ _ r h => by simp [spatelaw4_PaneMarks.j2] at h, fun _ _ _ _ _ _ _ _ _ r h => by simp [spatelaw4_PaneMarks.l0] at h⟩
  | k + 1 => by
    obtain ⟨ih0, ih1, ih2, ih3⟩ := spatelaw4_PaneMarks.mono_l k
    refine ⟨?_, ?_, ?_, ?_⟩
    · intro y0 y1 y2 y3 y4 y5 y6 y7 y8 y9
      unfold spatelaw4_PaneMarks.j0
      repeat' first
      | (with_reducible exact ih0 _ _ _ _ _ _ _ _ _ _)
      | (with_reducible exact ih1 _ _ _ _ _ _ _ _ _ _)
      | (with_reducible exact ih2 _ _ _ _ _ _ _ _ _)
      | (with_reducible exact ih3 _ _ _ _ _ _ _ _ _)
      | (with_reducible exact pane_Open.mono _ _ _ _ _ _)
      | (with_reducible exact pane_Starts.mono _ _ _ _ _)
      | (with_reducible exact spatelaw4_Same.mono _ _ _)
      | (with_reducible exact spatelaw4_head.mono _)
      | (with_reducible exact LeO.refl _)
      | (with_reducible exact LeO.none _)
      | (with_reducible refine LeO.ite ?_ ?_)
      | (with_reducible refine LeO.bind ?_ (fun _ => ?_))
      | exact ih0 _ _ _ _ _ _ _ _ _ _
      | exact ih1 _ _ _ _ _ _ _ _ _ _
      | exact ih2 _ _ _ _ _ _ _ _ _
      | exact ih3 _ _ _ _ _ _ _ _ _
      | exact pane_Open.mono _ _ _ _ _ _
      | exact pane_Starts.mono _ _ _ _ _
      | exact spatelaw4_Same.mono _ _ _
      | exact spatelaw4_head.mono _
      | exact LeO.none _
      | refine LeO.ite ?_ ?_
      | refine LeO.bind ?_ (fun _ => ?_)
    · intro y0 y1 y2 y3 y4 y5 y6 y7 y8 y9
      unfold spatelaw4_PaneMarks.j1
      repeat' first
      | (with_reducible exact ih0 _ _ _ _ _ _ _ _ _ _)
      | (with_reducible exact ih1 _ _ _ _ _ _ _ _ _ _)
      | (with_reducible exact ih2 _ _ _ _ _ _ _ _ _)
      | (with_reducible exact ih3 _ _ _ _ _ _ _ _ _)
      | (with_reducible exact pane_Open.mono _ _ _ _ _ _)
      | (with_reducible exact pane_Starts.mono _ _ _ _ _)
      | (with_reducible exact spatelaw4_Same.mono _ _ _)
      | (with_reducible exact spatelaw4_head.mono _)
      | (with_reducible exact LeO.refl _)
      | (with_reducible exact LeO.none _)
      | (with_reducible refine LeO.ite ?_ ?_)
      | (with_reducible refine LeO.bind ?_ (fun _ => ?_))
      | exact ih0 _ _ _ _ _ _ _ _ _ _
      | exact ih1 _ _ _ _ _ _ _ _ _ _
      | exact ih2 _ _ _ _ _ _ _ _ _
      | exact ih3 _ _ _ _ _ _ _ _ _
      | exact pane_Open.mono _ _ _ _ _ _
      | exact pane_Starts.mono _ _ _ _ _
      | exact spatelaw4_Same.mono _ _ _
      | exact spatelaw4_head.mono _
      | exact LeO.none _
      | refine LeO.ite ?_ ?_
      | refine LeO.bind ?_ (fun _ => ?_)
    · intro y0 y1 y2 y3 y4 y5 y6 y7 y8
      unfold spatelaw4_PaneMarks.j2
      repeat' first
      | (with_reducible exact ih0 _ _ _ _ _ _ _ _ _ _)
      | (with_reducible exact ih1 _ _ _ _ _ _ _ _ _ _)
      | (with_reducible exact ih2 _ _ _ _ _ _ _ _ _)
      | (with_reducible exact ih3 _ _ _ _ _ _ _ _ _)
      | (with_reducible exact pane_Open.mono _ _ _ _ _ _)
      | (with_reducible exact pane_Starts.mono _ _ _ _ _)
      | (with_reducible exact spatelaw4_Same.mono _ _ _)
      | (with_reducible exact spatelaw4_head.mono _)
      | (with_reducible exact LeO.refl _)
      | (with_reducible exact LeO.none _)
      | (with_reducible refine LeO.ite ?_ ?_)
      | (with_reducible refine LeO.bind ?_ (fun _ => ?_))
      | exact ih0 _ _ _ _ _ _ _ _ _ _
      | exact ih1 _ _ _ _ _ _ _ _ _ _
      | exact ih2 _ _ _ _ _ _ _ _ _
      | exact ih3 _ _ _ _ _ _ _ _ _
      | exact pane_Open.mono _ _ _ _ _ _
      | exact pane_Starts.mono _ _ _ _ _
      | exact spatelaw4_Same.mono _ _ _
      | exact spatelaw4_head.mono _
      | exact LeO.none _
      | refine LeO.ite ?_ ?_
      | refine LeO.bind ?_ (fun _ => ?_)
    · intro y0 y1 y2 y3 y4 y5 y6 y7 y8
      unfold spatelaw4_PaneMarks.l0
      repeat' first
      | (with_reducible exact ih0 _ _ _ _ _ _ _ _ _ _)
      | (with_reducible exact ih1 _ _ _ _ _ _ _ _ _ _)
      | (with_reducible exact ih2 _ _ _ _ _ _ _ _ _)
      | (with_reducible exact ih3 _ _ _ _ _ _ _ _ _)
      | (with_reducible exact pane_Open.mono _ _ _ _ _ _)
      | (with_reducible exact pane_Starts.mono _ _ _ _ _)
      | (with_reducible exact spatelaw4_Same.mono _ _ _)
      | (with_reducible exact spatelaw4_head.mono _)
      | (with_reducible exact LeO.refl _)
      | (with_reducible exact LeO.none _)
      | (with_reducible refine LeO.ite ?_ ?_)
      | (with_reducible refine LeO.bind ?_ (fun _ => ?_))
      | exact ih0 _ _ _ _ _ _ _ _ _ _
      | exact ih1 _ _ _ _ _ _ _ _ _ _
      | exact ih2 _ _ _ _ _ _ _ _ _
      | exact ih3 _ _ _ _ _ _ _ _ _
      | exact pane_Open.mono _ _ _ _ _ _
      | exact pane_Starts.mono _ _ _ _ _
      | exact spatelaw4_Same.mono _ _ _
      | exact spatelaw4_head.mono _
      | exact LeO.none _
      | refine LeO.ite ?_ ?_
      | refine LeO.bind ?_ (fun _ => ?_)
theorem spatelaw4_PaneMarks.mono : ∀ a0 a1 a2 a3 a4 a5 k, LeO (spatelaw4_PaneMarks.f k a0 a1 a2 a3 a4 a5) (spatelaw4_PaneMarks.f (k + 1) a0 a1 a2 a3 a4 a5) := by
  intro a0 a1 a2 a3 a4 a5 k
  obtain ⟨ih0, ih1, ih2, ih3⟩ := spatelaw4_PaneMarks.mono_l k
  unfold spatelaw4_PaneMarks.f
  repeat' first
      | (with_reducible exact ih0 _ _ _ _ _ _ _ _ _ _)
      | (with_reducible exact ih1 _ _ _ _ _ _ _ _ _ _)
      | (with_reducible exact ih2 _ _ _ _ _ _ _ _ _)
      | (with_reducible exact ih3 _ _ _ _ _ _ _ _ _)
      | (with_reducible exact pane_Open.mono _ _ _ _ _ _)
      | (with_reducible exact pane_Starts.mono _ _ _ _ _)
      | (with_reducible exact spatelaw4_Same.mono _ _ _)
      | (with_reducible exact spatelaw4_head.mono _)
      | (with_reducible exact LeO.refl _)
      | (with_reducible exact LeO.none _)
      | (with_reducible refine LeO.ite ?_ ?_)
      | (with_reducible refine LeO.bind ?_ (fun _ => ?_))
      | exact ih0 _ _ _ _ _ _ _ _ _ _
      | exact ih1 _ _ _ _ _ _ _ _ _ _
      | exact ih2 _ _ _ _ _ _ _ _ _
      | exact ih3 _ _ _ _ _ _ _ _ _
      | exact pane_Open.mono _ _ _ _ _ _
      | exact pane_Starts.mono _ _ _ _ _
      | exact spatelaw4_Same.mono _ _ _
      | exact spatelaw4_head.mono _
      | exact LeO.none _
      | refine LeO.ite ?_ ?_
      | refine LeO.bind ?_ (fun _ => ?_)
def spatelaw4_PaneMarks.T19 : Bool × List (List Nat × List Nat) := (true, [([], []), ([], []), ([], []), ([1, 2], [1, 2]), ([3], [3]), ([0, 4], [0, 4]), ([], []), ([6], [6]), ([5, 7], [5, 7]), ([8, 5, 0, 1, 2, 3, 4, 5, 6, 7, 8], [8])])
def spatelaw4_PaneMarks.B19 : List Nat := [0, 0, 0, 6, 14, 31, 0, 64, 255, 511]
theorem spatelaw4_PaneMarks.tab19 : rtab .any (opsOf Try.f12 19) = spatelaw4_PaneMarks.T19 := by kernel_rfl
theorem spatelaw4_PaneMarks.bits19 : waitsOk spatelaw4_PaneMarks.T19.2 spatelaw4_PaneMarks.B19 = true := by kernel_rfl
def spatelaw4_PaneMarks.T20 : Bool × List (List Nat × List Nat) := (true, [([], []), ([], []), ([0, 1], [0, 1]), ([2], [2]), ([], []), ([3, 4], [3, 4]), ([], []), ([], []), ([7], [7]), ([], []), ([9], [9]), ([8, 10], [8, 10]), ([6, 11], [6, 11]), ([5, 12], [5, 12]), ([13], [13]), ([14], [14]), ([14], [14]), ([14], [14]), ([16, 17, 14], [14, 16, 17]), ([18, 14], [14, 18]), ([14], [14]), ([15, 19, 20, 14, 14], [14, 15, 19, 20]), ([14], [14]), ([14], [14]), ([22, 23, 14], [14, 22, 23]), ([21, 24, 14], [14, 21, 24]), ([14, 25], [14, 25]), ([26, 21], [26]), ([27], [27]), ([27], [27]), ([27], [27]), ([29, 30, 27], [27, 29, 30]), ([31, 27], [27, 31]), ([27], [27]), ([28, 32, 33, 27, 27], [27, 28, 32, 33]), ([34, 27], [27, 34]), ([27, 35], [27, 35]), ([36, 34], [36]), ([37], [37]), ([37], [37]), ([37], [37]), ([39, 40, 37], [37, 39, 40]), ([41, 37], [37, 41]), ([37], [37]), ([43, 37], [37, 43]), ([38, 42, 44, 37, 37], [37, 38, 42, 44]), ([37, 45], [37, 45])])
def spatelaw4_PaneMarks.B20 : List Nat := [0, 0, 3, 7, 0, 31, 0, 0, 128, 0, 512, 1920, 4032, 8191, 16383, 32767, 32767, 32767, 229375, 491519, 32767, 2097151, 32767, 32767, 12615679, 33554431, 67108863, 134217727, 268435455, 268435455, 268435455, 1879048191, 4026531839, 268435455, 17179869183, 34359738367, 68719476735, 137438953471, 274877906943, 274877906943, 274877906943, 1924145348607, 4123168604159, 274877906943, 9070970929151, 35184372088831, 70368744177663]
theorem spatelaw4_PaneMarks.tab20 : rtab .any (opsOf Try.f12 20) = spatelaw4_PaneMarks.T20 := by kernel_rfl
theorem spatelaw4_PaneMarks.bits20 : waitsOk spatelaw4_PaneMarks.T20.2 spatelaw4_PaneMarks.B20 = true := by kernel_rfl
abbrev ba0 : Array Bool := #[false, false, false, false, false, false, false, false, false, false]
abbrev ba1 : Array Bool := #[false, true, false, false, false, false, false, false, false, false]
abbrev ba2 : Array Bool := #[false, true, true, false, false, false, false, false, false, false]
abbrev ba3 : Array Bool := #[false, true, true, true, false, false, false, false, false, false]
abbrev ba4 : Array Bool := #[false, true, true, true, false, false, true, false, false, false]
abbrev ba5 : Array Bool := #[true, true, true, true, false, false, true, false, false, false]
abbrev ba6 : Array Bool := #[true, true, true, true, true, false, true, false, false, false]
abbrev ba7 : Array Bool := #[true, true, true, true, true, false, true, true, false, false]
abbrev ba8 : Array Bool := #[true, true, true, true, true, true, true, true, false, false]
abbrev ba9 : Array Bool := #[true, true, true, true, true, true, true, true, true, false]
abbrev ba10 : Array Bool := #[true, true, true, true, true, true, true, true, true, true]
abbrev ba11 : Array Bool := #[false, false, false, false, false, false, false, false, false, false, false, false, false, false, false, false, false, false, false, false, false, false, false, false, false, false, false, false, false, false, false, false, false, false, false, false, false, false, false, false, false, false, false, false, false, false, false]
abbrev ba12 : Array Bool := #[true, false, false, false, false, false, false, false, false, false, false, false, false, false, false, false, false, false, false, false, false, false, false, false, false, false, false, false, false, false, false, false, false, false, false, false, false, false, false, false, false, false, false, false, false, false, false]
abbrev ba13 : Array Bool := #[true, true, false, false, false, false, false, false, false, false, false, false, false, false, false, false, false, false, false, false, false, false, false, false, false, false, false, false, false, false, false, false, false, false, false, false, false, false, false, false, false, false, false, false, false, false, false]
abbrev ba14 : Array Bool := #[true, true, true, false, false, false, false, false, false, false, false, false, false, false, false, false, false, false, false, false, false, false, false, false, false, false, false, false, false, false, false, false, false, false, false, false, false, false, false, false, false, false, false, false, false, false, false]
abbrev ba15 : Array Bool := #[true, true, true, false, true, false, false, false, false, false, false, false, false, false, false, false, false, false, false, false, false, false, false, false, false, false, false, false, false, false, false, false, false, false, false, false, false, false, false, false, false, false, false, false, false, false, false]
abbrev ba16 : Array Bool := #[true, true, true, false, true, false, true, false, false, false, false, false, false, false, false, false, false, false, false, false, false, false, false, false, false, false, false, false, false, false, false, false, false, false, false, false, false, false, false, false, false, false, false, false, false, false, false]
abbrev ba17 : Array Bool := #[true, true, true, false, true, false, true, true, false, false, false, false, false, false, false, false, false, false, false, false, false, false, false, false, false, false, false, false, false, false, false, false, false, false, false, false, false, false, false, false, false, false, false, false, false, false, false]
abbrev ba18 : Array Bool := #[true, true, true, false, true, false, true, true, true, false, false, false, false, false, false, false, false, false, false, false, false, false, false, false, false, false, false, false, false, false, false, false, false, false, false, false, false, false, false, false, false, false, false, false, false, false, false]
abbrev ba19 : Array Bool := #[true, true, true, false, true, false, true, true, true, true, false, false, false, false, false, false, false, false, false, false, false, false, false, false, false, false, false, false, false, false, false, false, false, false, false, false, false, false, false, false, false, false, false, false, false, false, false]
abbrev ba20 : Array Bool := #[true, true, true, false, true, false, true, true, true, true, true, false, false, false, false, false, false, false, false, false, false, false, false, false, false, false, false, false, false, false, false, false, false, false, false, false, false, false, false, false, false, false, false, false, false, false, false]
abbrev ba21 : Array Bool := #[true, true, true, false, true, false, true, true, true, true, true, true, false, false, false, false, false, false, false, false, false, false, false, false, false, false, false, false, false, false, false, false, false, false, false, false, false, false, false, false, false, false, false, false, false, false, false]
abbrev ba22 : Array Bool := #[true, true, true, false, true, false, true, true, true, true, true, true, true, false, false, false, false, false, false, false, false, false, false, false, false, false, false, false, false, false, false, false, false, false, false, false, false, false, false, false, false, false, false, false, false, false, false]
abbrev ba23 : Array Bool := #[true, true, true, true, true, false, true, true, true, true, true, true, true, false, false, false, false, false, false, false, false, false, false, false, false, false, false, false, false, false, false, false, false, false, false, false, false, false, false, false, false, false, false, false, false, false, false]
abbrev ba24 : Array Bool := #[true, true, true, true, true, true, true, true, true, true, true, true, true, false, false, false, false, false, false, false, false, false, false, false, false, false, false, false, false, false, false, false, false, false, false, false, false, false, false, false, false, false, false, false, false, false, false]
abbrev ba25 : Array Bool := #[true, true, true, true, true, true, true, true, true, true, true, true, true, true, false, false, false, false, false, false, false, false, false, false, false, false, false, false, false, false, false, false, false, false, false, false, false, false, false, false, false, false, false, false, false, false, false]
abbrev ba26 : Array Bool := #[true, true, true, true, true, true, true, true, true, true, true, true, true, true, true, false, false, false, false, false, false, false, false, false, false, false, false, false, false, false, false, false, false, false, false, false, false, false, false, false, false, false, false, false, false, false, false]
abbrev ba27 : Array Bool := #[true, true, true, true, true, true, true, true, true, true, true, true, true, true, true, true, false, false, false, false, false, false, false, false, false, false, false, false, false, false, false, false, false, false, false, false, false, false, false, false, false, false, false, false, false, false, false]
abbrev ba28 : Array Bool := #[true, true, true, true, true, true, true, true, true, true, true, true, true, true, true, true, true, false, false, false, false, false, false, false, false, false, false, false, false, false, false, false, false, false, false, false, false, false, false, false, false, false, false, false, false, false, false]
abbrev ba29 : Array Bool := #[true, true, true, true, true, true, true, true, true, true, true, true, true, true, true, true, true, true, false, false, false, false, false, false, false, false, false, false, false, false, false, false, false, false, false, false, false, false, false, false, false, false, false, false, false, false, false]
abbrev ba30 : Array Bool := #[true, true, true, true, true, true, true, true, true, true, true, true, true, true, true, true, true, true, true, false, false, false, false, false, false, false, false, false, false, false, false, false, false, false, false, false, false, false, false, false, false, false, false, false, false, false, false]
abbrev ba31 : Array Bool := #[true, true, true, true, true, true, true, true, true, true, true, true, true, true, true, true, true, true, true, true, false, false, false, false, false, false, false, false, false, false, false, false, false, false, false, false, false, false, false, false, false, false, false, false, false, false, false]
abbrev ba32 : Array Bool := #[true, true, true, true, true, true, true, true, true, true, true, true, true, true, true, true, true, true, true, true, true, false, false, false, false, false, false, false, false, false, false, false, false, false, false, false, false, false, false, false, false, false, false, false, false, false, false]
abbrev ba33 : Array Bool := #[true, true, true, true, true, true, true, true, true, true, true, true, true, true, true, true, true, true, true, true, true, true, false, false, false, false, false, false, false, false, false, false, false, false, false, false, false, false, false, false, false, false, false, false, false, false, false]
abbrev ba34 : Array Bool := #[true, true, true, true, true, true, true, true, true, true, true, true, true, true, true, true, true, true, true, true, true, true, true, false, false, false, false, false, false, false, false, false, false, false, false, false, false, false, false, false, false, false, false, false, false, false, false]
abbrev ba35 : Array Bool := #[true, true, true, true, true, true, true, true, true, true, true, true, true, true, true, true, true, true, true, true, true, true, true, true, false, false, false, false, false, false, false, false, false, false, false, false, false, false, false, false, false, false, false, false, false, false, false]
abbrev ba36 : Array Bool := #[true, true, true, true, true, true, true, true, true, true, true, true, true, true, true, true, true, true, true, true, true, true, true, true, true, false, false, false, false, false, false, false, false, false, false, false, false, false, false, false, false, false, false, false, false, false, false]
abbrev ba37 : Array Bool := #[true, true, true, true, true, true, true, true, true, true, true, true, true, true, true, true, true, true, true, true, true, true, true, true, true, true, false, false, false, false, false, false, false, false, false, false, false, false, false, false, false, false, false, false, false, false, false]
abbrev ba38 : Array Bool := #[true, true, true, true, true, true, true, true, true, true, true, true, true, true, true, true, true, true, true, true, true, true, true, true, true, true, true, false, false, false, false, false, false, false, false, false, false, false, false, false, false, false, false, false, false, false, false]
abbrev ba39 : Array Bool := #[true, true, true, true, true, true, true, true, true, true, true, true, true, true, true, true, true, true, true, true, true, true, true, true, true, true, true, true, false, false, false, false, false, false, false, false, false, false, false, false, false, false, false, false, false, false, false]
abbrev ba40 : Array Bool := #[true, true, true, true, true, true, true, true, true, true, true, true, true, true, true, true, true, true, true, true, true, true, true, true, true, true, true, true, true, false, false, false, false, false, false, false, false, false, false, false, false, false, false, false, false, false, false]
abbrev ba41 : Array Bool := #[true, true, true, true, true, true, true, true, true, true, true, true, true, true, true, true, true, true, true, true, true, true, true, true, true, true, true, true, true, true, false, false, false, false, false, false, false, false, false, false, false, false, false, false, false, false, false]
abbrev ba42 : Array Bool := #[true, true, true, true, true, true, true, true, true, true, true, true, true, true, true, true, true, true, true, true, true, true, true, true, true, true, true, true, true, true, true, false, false, false, false, false, false, false, false, false, false, false, false, false, false, false, false]
abbrev ba43 : Array Bool := #[true, true, true, true, true, true, true, true, true, true, true, true, true, true, true, true, true, true, true, true, true, true, true, true, true, true, true, true, true, true, true, true, false, false, false, false, false, false, false, false, false, false, false, false, false, false, false]
abbrev ba44 : Array Bool := #[true, true, true, true, true, true, true, true, true, true, true, true, true, true, true, true, true, true, true, true, true, true, true, true, true, true, true, true, true, true, true, true, true, false, false, false, false, false, false, false, false, false, false, false, false, false, false]
abbrev ba45 : Array Bool := #[true, true, true, true, true, true, true, true, true, true, true, true, true, true, true, true, true, true, true, true, true, true, true, true, true, true, true, true, true, true, true, true, true, true, false, false, false, false, false, false, false, false, false, false, false, false, false]
abbrev ba46 : Array Bool := #[true, true, true, true, true, true, true, true, true, true, true, true, true, true, true, true, true, true, true, true, true, true, true, true, true, true, true, true, true, true, true, true, true, true, true, false, false, false, false, false, false, false, false, false, false, false, false]
abbrev ba47 : Array Bool := #[true, true, true, true, true, true, true, true, true, true, true, true, true, true, true, true, true, true, true, true, true, true, true, true, true, true, true, true, true, true, true, true, true, true, true, true, false, false, false, false, false, false, false, false, false, false, false]
abbrev ba48 : Array Bool := #[true, true, true, true, true, true, true, true, true, true, true, true, true, true, true, true, true, true, true, true, true, true, true, true, true, true, true, true, true, true, true, true, true, true, true, true, true, false, false, false, false, false, false, false, false, false, false]
abbrev ba49 : Array Bool := #[true, true, true, true, true, true, true, true, true, true, true, true, true, true, true, true, true, true, true, true, true, true, true, true, true, true, true, true, true, true, true, true, true, true, true, true, true, true, false, false, false, false, false, false, false, false, false]
abbrev ba50 : Array Bool := #[true, true, true, true, true, true, true, true, true, true, true, true, true, true, true, true, true, true, true, true, true, true, true, true, true, true, true, true, true, true, true, true, true, true, true, true, true, true, true, false, false, false, false, false, false, false, false]
abbrev ba51 : Array Bool := #[true, true, true, true, true, true, true, true, true, true, true, true, true, true, true, true, true, true, true, true, true, true, true, true, true, true, true, true, true, true, true, true, true, true, true, true, true, true, true, true, false, false, false, false, false, false, false]
abbrev ba52 : Array Bool := #[true, true, true, true, true, true, true, true, true, true, true, true, true, true, true, true, true, true, true, true, true, true, true, true, true, true, true, true, true, true, true, true, true, true, true, true, true, true, true, true, true, false, false, false, false, false, false]
abbrev ba53 : Array Bool := #[true, true, true, true, true, true, true, true, true, true, true, true, true, true, true, true, true, true, true, true, true, true, true, true, true, true, true, true, true, true, true, true, true, true, true, true, true, true, true, true, true, true, false, false, false, false, false]
abbrev ba54 : Array Bool := #[true, true, true, true, true, true, true, true, true, true, true, true, true, true, true, true, true, true, true, true, true, true, true, true, true, true, true, true, true, true, true, true, true, true, true, true, true, true, true, true, true, true, true, false, false, false, false]
abbrev ba55 : Array Bool := #[true, true, true, true, true, true, true, true, true, true, true, true, true, true, true, true, true, true, true, true, true, true, true, true, true, true, true, true, true, true, true, true, true, true, true, true, true, true, true, true, true, true, true, true, false, false, false]
abbrev ba56 : Array Bool := #[true, true, true, true, true, true, true, true, true, true, true, true, true, true, true, true, true, true, true, true, true, true, true, true, true, true, true, true, true, true, true, true, true, true, true, true, true, true, true, true, true, true, true, true, true, false, false]
abbrev ba57 : Array Bool := #[true, true, true, true, true, true, true, true, true, true, true, true, true, true, true, true, true, true, true, true, true, true, true, true, true, true, true, true, true, true, true, true, true, true, true, true, true, true, true, true, true, true, true, true, true, true, false]
abbrev ba58 : Array Bool := #[true, true, true, true, true, true, true, true, true, true, true, true, true, true, true, true, true, true, true, true, true, true, true, true, true, true, true, true, true, true, true, true, true, true, true, true, true, true, true, true, true, true, true, true, true, true, true]
abbrev ba59 : Array Bool := #[true, true, true, true, true, true, true, true, true, true, true, true, true, true, true, false, true, false, false, false, false, false, false, false, false, false, false, false, false, false, false, false, false, false, false, false, false, false, false, false, false, false, false, false, false, false, false]
abbrev ba60 : Array Bool := #[true, true, true, true, true, true, true, true, true, true, true, true, true, true, true, false, true, true, false, false, false, false, false, false, false, false, false, false, false, false, false, false, false, false, false, false, false, false, false, false, false, false, false, false, false, false, false]
abbrev ba61 : Array Bool := #[true, true, true, true, true, true, true, true, true, true, true, true, true, true, true, false, true, true, true, false, false, false, false, false, false, false, false, false, false, false, false, false, false, false, false, false, false, false, false, false, false, false, false, false, false, false, false]
abbrev ba62 : Array Bool := #[true, true, true, true, true, true, true, true, true, true, true, true, true, true, true, false, true, true, true, false, true, false, false, false, false, false, false, false, false, false, false, false, false, false, false, false, false, false, false, false, false, false, false, false, false, false, false]
abbrev ba63 : Array Bool := #[true, true, true, true, true, true, true, true, true, true, true, true, true, true, true, false, true, true, true, false, true, false, true, false, false, false, false, false, false, false, false, false, false, false, false, false, false, false, false, false, false, false, false, false, false, false, false]
abbrev ba64 : Array Bool := #[true, true, true, true, true, true, true, true, true, true, true, true, true, true, true, false, true, true, true, false, true, false, true, true, false, false, false, false, false, false, false, false, false, false, false, false, false, false, false, false, false, false, false, false, false, false, false]
abbrev ba65 : Array Bool := #[true, true, true, true, true, true, true, true, true, true, true, true, true, true, true, false, true, true, true, false, true, false, true, true, true, false, false, false, false, false, false, false, false, false, false, false, false, false, false, false, false, false, false, false, false, false, false]
abbrev ba66 : Array Bool := #[true, true, true, true, true, true, true, true, true, true, true, true, true, true, true, true, true, true, true, false, true, false, true, true, true, false, false, false, false, false, false, false, false, false, false, false, false, false, false, false, false, false, false, false, false, false, false]
abbrev ba67 : Array Bool := #[true, true, true, true, true, true, true, true, true, true, true, true, true, true, true, true, true, true, true, true, true, false, true, true, true, false, false, false, false, false, false, false, false, false, false, false, false, false, false, false, false, false, false, false, false, false, false]
abbrev ba68 : Array Bool := #[true, true, true, true, true, true, true, true, true, true, true, true, true, true, true, true, true, true, true, true, true, true, true, true, true, true, true, true, false, true, false, false, false, false, false, false, false, false, false, false, false, false, false, false, false, false, false]
abbrev ba69 : Array Bool := #[true, true, true, true, true, true, true, true, true, true, true, true, true, true, true, true, true, true, true, true, true, true, true, true, true, true, true, true, false, true, true, false, false, false, false, false, false, false, false, false, false, false, false, false, false, false, false]
abbrev ba70 : Array Bool := #[true, true, true, true, true, true, true, true, true, true, true, true, true, true, true, true, true, true, true, true, true, true, true, true, true, true, true, true, false, true, true, true, false, false, false, false, false, false, false, false, false, false, false, false, false, false, false]
abbrev ba71 : Array Bool := #[true, true, true, true, true, true, true, true, true, true, true, true, true, true, true, true, true, true, true, true, true, true, true, true, true, true, true, true, false, true, true, true, false, true, false, false, false, false, false, false, false, false, false, false, false, false, false]
abbrev ba72 : Array Bool := #[true, true, true, true, true, true, true, true, true, true, true, true, true, true, true, true, true, true, true, true, true, true, true, true, true, true, true, true, true, true, true, true, false, true, false, false, false, false, false, false, false, false, false, false, false, false, false]
abbrev ba73 : Array Bool := #[true, true, true, true, true, true, true, true, true, true, true, true, true, true, true, true, true, true, true, true, true, true, true, true, true, true, true, true, true, true, true, true, true, true, true, true, true, true, false, true, false, false, false, false, false, false, false]
abbrev ba74 : Array Bool := #[true, true, true, true, true, true, true, true, true, true, true, true, true, true, true, true, true, true, true, true, true, true, true, true, true, true, true, true, true, true, true, true, true, true, true, true, true, true, false, true, true, false, false, false, false, false, false]
abbrev ba75 : Array Bool := #[true, true, true, true, true, true, true, true, true, true, true, true, true, true, true, true, true, true, true, true, true, true, true, true, true, true, true, true, true, true, true, true, true, true, true, true, true, true, false, true, true, true, false, false, false, false, false]
abbrev ba76 : Array Bool := #[true, true, true, true, true, true, true, true, true, true, true, true, true, true, true, true, true, true, true, true, true, true, true, true, true, true, true, true, true, true, true, true, true, true, true, true, true, true, false, true, true, true, false, true, false, false, false]
abbrev ba77 : Array Bool := #[true, true, true, true, true, true, true, true, true, true, true, true, true, true, true, true, true, true, true, true, true, true, true, true, true, true, true, true, true, true, true, true, true, true, true, true, true, true, false, true, true, true, false, true, true, false, false]
abbrev ba78 : Array Bool := #[true, true, true, true, true, true, true, true, true, true, true, true, true, true, true, true, true, true, true, true, true, true, true, true, true, true, true, true, true, true, true, true, true, true, true, true, true, true, true, true, true, true, false, true, true, false, false]
theorem pR {P : Program} {md : Region.Mode} {ops : Array Oper} {Q : Exit → Act → World → Prop} {S : World → Prop} {ds : List Nat} (i : Nat) (n : Tmp) (l' : Array Bool) {oi : Oper} {fuel : Nat} {l : Array Bool} {a : Act} {w : World} (hi : ops[i]? = some oi) (hN : oi.dst = some n) (hc : anyB md ops l l' i = true)
    (hQ : ∀ c a w, Q (.panic c) (a.put oi.dst undef) w → Q (.panic c) a w) (hy : Yields P ops oi undef a) {a' : Act} (ha : a.put (some n) undef = a') (h : wpAnyLast P md ops Q S ds fuel l' a' w) : wpAnyLast P md ops Q S ds (fuel + 1) l a w := pure_ l' hi hN hc hQ hy ha h
theorem pL {P : Program} {md : Region.Mode} {ops : Array Oper} {Q : Exit → Act → World → Prop} {S : World → Prop} {ds : List Nat} (i : Nat) (n : Tmp) (l' : Array Bool) {oi : Oper} {v : Value} {fuel : Nat} {l : Array Bool} {a : Act} {w : World} (hi : ops[i]? = some oi) (hN : oi.dst = some n) (hc : anyB md ops l l' i = true)
    (hQ : ∀ c a w, Q (.panic c) (a.put oi.dst v) w → Q (.panic c) a w) (hy : Yields P ops oi v a) {a' : Act} (ha : a.put (some n) v = a') (h : wpAnyLast P md ops Q S ds fuel l' a' w) : wpAnyLast P md ops Q S ds (fuel + 1) l a w := pure_ l' hi hN hc hQ hy ha h
theorem sq1 {α : Type} (xs : List α) (i : Nat) (a : α) : xs.toArray.setIfInBounds i a = (xs.set i a).toArray := List.setIfInBounds_toArray ..
theorem sq2 {α : Type} (a b : α) (l : List α) : (a :: l).set 0 b = b :: l := List.set_cons_zero ..
theorem sq3 {α : Type} (a b : α) (l : List α) (n : Nat) : (a :: l).set (n + 1) b = a :: l.set n b := List.set_cons_succ ..
end Go.Proofs.Ytnceikookipdnaa.PAll2
