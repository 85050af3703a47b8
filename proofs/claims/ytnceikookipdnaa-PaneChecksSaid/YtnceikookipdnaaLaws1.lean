/-
  The laws PaneNames, PaneChecks, PaneStarts, PaneEnds, PaneCounts on the printed functions, and the calls that come of them: each returns true, and nothing that was there has changed.
-/
import Derived.Test.YtnceikookipdnaaMath
import Derived.Test.YtnceikookipdnaaPAllx4
import Derived.Test.YtnceikookipdnaaPAllx6
set_option linter.unusedVariables false
set_option linter.unusedSimpArgs false
namespace Go.Proofs.Ytnceikookipdnaa.Math
open Go.RowKit Go.Proofs.Ytnceikookipdnaa.PAll Go.Proofs.YtnceikookipdnaaW.PrintWords Go.Proofs.YtnceikookipdnaaW.PrintLast

theorem names_walk (w : World) : Calls Try.prog 3 #[] w fun e w' => e = .returned (.bool true) ∧ Below w.heap.size w w' := by
  refine spatelaw4_PaneNames.calls 200 true w ?_
  unfold spatelaw4_PaneNames.f
  rw [head_eq 200 (by omega)]
  rfl

theorem checks_walk (s d l : Int) (h0 : (Lit.int .i64 s).wf = true) (h1 : (Lit.int .i64 d).wf = true) (h2 : (Lit.int .i64 l).wf = true) (w : World) :
    Calls Try.prog 4 #[.agg #[.int .i64 s, .int .i64 d, .int .i64 l]] w fun e w' => e = .returned (.bool true) ∧ Below w.heap.size w w' := by
  refine spatelaw4_PaneChecks.calls 200 s d l true w ?_
  unfold spatelaw4_PaneChecks.f
  rw [rcheck_eq, check_eq]
  simp only [Option.bind_some, if_true]
  rw [head_eq 200 (by omega)]
  rfl

theorem starts_walk (s d l : Int) (h0 : (Lit.int .i64 s).wf = true) (h1 : (Lit.int .i64 d).wf = true) (h2 : (Lit.int .i64 l).wf = true) (t : Int) (h3 : (Lit.int .i64 t).wf = true) (w : World) :
    Calls Try.prog 5 #[.agg #[.int .i64 s, .int .i64 d, .int .i64 l], .int .i64 t] w fun e w' => e = .returned (.bool true) ∧ Below w.heap.size w w' := by
  refine spatelaw4_PaneStarts.calls 200 s d l t true w ?_
  obtain ⟨xs, e, hx, h⟩ := starts_same s d l t
  unfold spatelaw4_PaneStarts.f
  rw [(h 200 (by omega)).1, (h 200 (by omega)).2]
  simp only [Option.bind_some]
  rw [same_eq xs (by omega) 200 (by omega)]
  simp only [Option.bind_some, if_true]
  rw [head_eq 200 (by omega)]
  rfl

theorem ends_walk (s d l : Int) (h0 : (Lit.int .i64 s).wf = true) (h1 : (Lit.int .i64 d).wf = true) (h2 : (Lit.int .i64 l).wf = true) (a : Int) (h3 : (Lit.int .i64 a).wf = true) (m : Int) (h4 : (Lit.int .i64 m).wf = true) (w : World) :
    Calls Try.prog 8 #[.agg #[.int .i64 s, .int .i64 d, .int .i64 l], .int .i64 a, .int .i64 m] w fun e w' => e = .returned (.bool true) ∧ Below w.heap.size w w' := by
  refine spatelaw4_PaneEnds.calls 300 s d l a m true w ?_
  have hj : ∀ b : Bool, (b = false → Right s d l ∧ -4611686018427387904 ≤ m ∧ m ≤ 4611686018427387904) → spatelaw4_PaneEnds.j0 300 a m b s d l = some true := by
    intro b hb
    show spatelaw4_PaneEnds.j0 (299 + 1) a m b s d l = some true
    simp only [spatelaw4_PaneEnds.j0]
    cases b with
    | true => rw [if_pos rfl, head_eq 299 (by omega)]; rfl
    | false =>
      obtain ⟨hr, m0, m1⟩ := hb rfl
      have s1 := hr.s1
      have s2 := hr.s2
      have d1 := hr.d1
      have d2 := hr.d2
      have l1 := hr.l1
      have l2 := hr.l2
      rw [if_neg (by decide)]
      unfold pane_End.f spateref4_End.f pane_Closed.f pane_End.f spateref4_Closed.f pane_First.f spateref4_First.f
      simp only [Option.bind_some, if_true, beq_self_eq_true]
      rw [if_neg (by omega), wrap_in (n := m - s) (by omega) (by omega), wrap_in (n := m - s - l) (by omega) (by omega), floor_eq _ d d1 d2 (by omega) (by omega), below_eq _ d d1 d2 (by omega) (by omega)]
      simp only [Option.bind_some, if_true]
      rw [head_eq 299 (by omega)]; rfl
  unfold spatelaw4_PaneEnds.f
  rw [rcheck_eq, check_eq]
  simp only [Option.bind_some]
  by_cases hr : Right s d l
  · rw [if_pos hr, if_pos rfl]
    split
    · exact hj true (by simp)
    · split
      · exact hj true (by simp)
      · split
        · exact hj true (by simp)
        · exact hj _ fun _ => ⟨hr, by omega, by omega⟩
  · rw [if_neg hr, if_neg (by decide)]
    exact hj true (by simp)

/-! ### PaneCounts -/
theorem starts_get (s d t : Int) (i : Nat) (h : i < cnt s d t) : rd (starts s d t) i = d * ((t - s) / d + 1 + (i : Int)) := by
  unfold rd
  rw [Int.toNat_natCast, List.getD_eq_getElem?_getD, List.getElem?_eq_getElem (by rw [starts_length]; exact h)]
  simp [starts]

theorem cnt_later (s d l t : Int) (h : Right s d l) : cnt s d (t + d) = cnt s d t := by
  have h1 : (t + d) / d = t / d + 1 := by rw [Int.add_ediv_of_dvd_right (Int.dvd_refl d), Int.ediv_self (by have := h.d1; omega)]
  have h2 : (t + d - s) / d = (t - s) / d + 1 := by
    rw [show t + d - s = (t - s) + d by omega, Int.add_ediv_of_dvd_right (Int.dvd_refl d), Int.ediv_self (by have := h.d1; omega)]
  unfold cnt
  rw [h1, h2]; congr 1; omega

theorem counts_l0 {s d l t : Int} (h : Right s d l) (h0 : Tm t) (F : Nat) (hF : 200 ≤ F) : ∀ m i : Nat, i + m = cnt s d t →
    spatelaw4_PaneCounts.l0 (F + m + 1) (starts s d t) (starts s d (t + d)) i s d l = some true := by
  intro m
  obtain ⟨hN, h64⟩ := cnt_le h t
  have hc := cnt_later s d l t h
  have hd1 := h.d1
  have hd2 := h.d2
  have hs1 := h.s1
  have hs2 := h.s2
  have t0 := h0.lo
  have t1 := h0.hi
  have f2 := div_facts (t - s) d h.d1
  have f1 := div_facts t d h.d1
  have h2 : (t + d - s) / d = (t - s) / d + 1 := by
    rw [show t + d - s = (t - s) + d by omega, Int.add_ediv_of_dvd_right (Int.dvd_refl d), Int.ediv_self (by omega)]
  induction m with
  | zero =>
    intro i hi
    simp only [spatelaw4_PaneCounts.l0]
    rw [if_neg (by rw [starts_length]; omega), head_eq _ (by omega)]; rfl
  | succ m ih =>
    intro i hi
    obtain ⟨G, hG⟩ : ∃ G, G = F + m + 1 := ⟨_, rfl⟩
    rw [show F + (m + 1) + 1 = G + 1 by omega]
    have g1 := starts_get s d t i (by omega)
    have g2 := starts_get s d (t + d) i (by omega)
    rw [h2] at g2
    have hm : d * ((t - s) / d + 1 + 1 + (i : Int)) = d * ((t - s) / d + 1 + (i : Int)) + d := by rw [← mul_add_one']; congr 1; omega
    have hle : d * ((t - s) / d + 1 + (i : Int)) ≤ d * (t / d) := mul_le hd1 (by omega)
    have hge : d * ((t - s) / d) ≤ d * ((t - s) / d + 1 + (i : Int)) := mul_le hd1 (by omega)
    have hmod : Int.tmod (d * ((t - s) / d + 1 + (i : Int))) d = 0 := Int.mul_tmod_right _ _
    simp only [spatelaw4_PaneCounts.l0]
    rw [if_pos (by rw [starts_length]; omega), if_pos (by omega), if_neg (by omega), g1, g2, hmod, if_pos rfl, if_pos (by rw [starts_length]; omega), hm, wrap_in (n := d * ((t - s) / d + 1 + (i : Int)) + d) (by omega) (by omega), if_pos rfl, wrap_in (n := (i : Int) + 1) (by omega) (by omega)]
    have hrest := ih (i + 1) (by omega)
    rw [← hG] at hrest
    by_cases hi0 : (i : Int) > 0
    · have g3 := starts_get s d t (i - 1) (by omega)
      have hp : ((i - 1 : Nat) : Int) = (i : Int) - 1 := by omega
      rw [hp] at g3
      have hm3 : d * ((t - s) / d + 1 + ((i : Int) - 1)) + d = d * ((t - s) / d + 1 + (i : Int)) := by rw [← mul_add_one']; congr 1; omega
      rw [if_pos hi0, wrap_in (n := (i : Int) - 1) (by omega) (by omega), if_pos (by omega), if_pos (by rw [starts_length]; omega), g3, hm3, wrap_in (n := d * ((t - s) / d + 1 + (i : Int))) (by omega) (by omega), if_pos rfl]
      exact hrest
    · rw [if_neg hi0]
      exact hrest

theorem tm_within (t : Int) : Tm (Int.tmod t 576460752303423488) := by
  have := tmod_bounds t 576460752303423488 (by omega)
  exact ⟨by omega, by omega⟩

theorem counts_walk (s d l : Int) (h0 : (Lit.int .i64 s).wf = true) (h1 : (Lit.int .i64 d).wf = true) (h2 : (Lit.int .i64 l).wf = true) (t : Int) (h3 : (Lit.int .i64 t).wf = true) (w : World) :
    Calls Try.prog 6 #[.agg #[.int .i64 s, .int .i64 d, .int .i64 l], .int .i64 t] w fun e w' => e = .returned (.bool true) ∧ Below w.heap.size w w' := by
  refine spatelaw4_PaneCounts.calls 1000 s d l t true w ?_
  unfold spatelaw4_PaneCounts.f
  rw [rightf_eq]
  simp only [Option.bind_some]
  by_cases h : Right s d l
  · rw [decide_eq_true h, if_pos rfl]
    unfold spatelaw4_within.f
    simp only [Option.bind_some]
    have hb := tmod_bounds t 576460752303423488 (by omega)
    generalize Int.tmod t 576460752303423488 = u at hb ⊢
    have hu : Tm u := ⟨by omega, by omega⟩
    have hd2 := h.d2
    have hd1 := h.d1
    have hs1 := h.s1
    have hs2 := h.s2
    have hu2 : Tm (u + d) := ⟨by omega, by omega⟩
    rw [starts_eq h hu 1000 (by omega), wrap_in (n := u + d) (by omega) (by omega), starts_eq h hu2 1000 (by omega)]
    simp only [Option.bind_some, if_true]
    rw [starts_length, starts_length, cnt_later s d l u h, show ((cnt s d u : Int) != (cnt s d u : Int)) = false by simp]
    obtain ⟨hN, h64⟩ := cnt_le h u
    have hl0 := counts_l0 h hu (998 - cnt s d u - 1) (by omega) (cnt s d u) 0 (by omega)
    rw [show 998 - cnt s d u - 1 + cnt s d u + 1 = 998 by omega, show ((0 : Nat) : Int) = 0 from rfl] at hl0
    have hj1 : spatelaw4_PaneCounts.j1 999 (starts s d u) (starts s d (u + d)) false s d l = some true := by
      show spatelaw4_PaneCounts.j1 (998 + 1) (starts s d u) (starts s d (u + d)) false s d l = some true
      simp only [spatelaw4_PaneCounts.j1]
      rw [if_neg (by decide)]
      exact hl0
    show spatelaw4_PaneCounts.j0 (999 + 1) (starts s d u) (starts s d (u + d)) false s d l = some true
    simp only [spatelaw4_PaneCounts.j0]
    have hq : Int.tdiv s d = s / d := Int.tdiv_eq_ediv_of_nonneg (by omega)
    have f := div_facts s d hd1
    have f1 := div_facts u d hd1
    have f2 := div_facts (u - s) d hd1
    have q0 : 0 ≤ s / d := Int.ediv_nonneg (by omega) (by omega)
    have q1 : s / d ≤ s := Int.ediv_le_self _ (by omega)
    rw [if_neg (by decide), if_neg (by omega), starts_length, hq, wrap_in (n := s / d) (by omega) (by omega), wrap_in (n := s / d + 1) (by omega) (by omega)]
    by_cases hc : (cnt s d u : Int) = s / d
    · rw [if_pos hc]; exact hj1
    · rw [if_neg hc]
      have a1 : d * (s / d) < d * (u / d - (u - s) / d + 1) := by rw [Int.mul_add, Int.mul_sub, Int.mul_one]; omega
      have a2 : d * (u / d - (u - s) / d) < d * (s / d + 2) := by rw [Int.mul_add, Int.mul_sub]; omega
      have b1 := lt_of_mul hd1 a1
      have b2 := lt_of_mul hd1 a2
      have hc1 : (cnt s d u : Int) = s / d + 1 := by omega
      rw [if_pos hc1]
      have hne : ¬ Int.tmod s d = 0 := by
        intro he
        rw [Int.tmod_eq_emod_of_nonneg (by omega)] at he
        have e1 := div_mul s d
        have a3 : d * (u / d - (u - s) / d) < d * (s / d + 1) := by rw [Int.mul_add, Int.mul_sub, Int.mul_one]; omega
        have := lt_of_mul hd1 a3
        omega
      rw [show (Int.tmod s d == 0) = false by simpa using hne]
      exact hj1
  · rw [decide_eq_false h, if_neg (by decide), check_eq, if_neg h]
    simp only [Option.bind_some, if_true]
    rw [head_eq 1000 (by omega)]
    rfl

end Go.Proofs.Ytnceikookipdnaa.Math
