/-
  The law PaneTimes on the printed functions: a window has its times and no others.
-/
import Derived.Test.YtnceikookipdnaaLaws2
import Derived.Test.YtnceikookipdnaaPAll2x9d
set_option linter.unusedVariables false
set_option linter.unusedSimpArgs false
namespace Go.Proofs.Ytnceikookipdnaa.Math2
open Go.RowKit Go.Proofs.Ytnceikookipdnaa.PAll2 Go.Proofs.YtnceikookipdnaaW.PrintWords Go.Proofs.YtnceikookipdnaaW.PrintLast

theorem has_l0 (xs : List Int) (a : Int) (hl : xs.length ≤ 1000) (F : Nat) : ∀ n i : Nat, i + n = xs.length → spatelaw4_has.l0 (F + n + 1) a xs i = some (decide (a ∈ xs.drop i)) := by
  intro n
  induction n with
  | zero =>
    intro i hi
    simp only [spatelaw4_has.l0]
    rw [if_neg (by omega), List.drop_of_length_le (by omega)]
    simp
  | succ n ih =>
    intro i hi
    obtain ⟨G, hG⟩ : ∃ G, G = F + n + 1 := ⟨_, rfl⟩
    rw [show F + (n + 1) + 1 = G + 1 by omega]
    have hi' : i < xs.length := by omega
    simp only [spatelaw4_has.l0]
    rw [if_pos (by omega), if_pos (by omega), rd_at xs i hi', List.drop_eq_getElem_cons hi']
    by_cases hc : xs[i] = a
    · rw [if_pos hc]
      simp [hc]
    · have e := ih (i + 1) (by omega)
      rw [show ((i + 1 : Nat) : Int) = (i : Int) + 1 by omega] at e
      rw [if_neg hc, wrap_in (n := (i : Int) + 1) (by omega) (by omega), hG, e]
      have : ¬ a = xs[i] := fun e => hc e.symm
      congr 1
      rw [decide_eq_decide, List.mem_cons]
      exact ⟨Or.inr, fun h => h.resolve_left this⟩

theorem mem_starts {s d l : Int} (h : Right s d l) (u a : Int) (hm : ∃ q, a = d * q) : a ∈ starts s d u ↔ a ≤ u ∧ u < a + s := by
  obtain ⟨q, rfl⟩ := hm
  have hd1 := h.d1
  obtain ⟨hN, h64⟩ := cnt_le h u
  have f1 := div_facts u d hd1
  have f2 := div_facts (u - s) d hd1
  simp only [starts, List.mem_map, List.mem_range]
  constructor
  · rintro ⟨i, hi, e⟩
    have m1 : d * ((u - s) / d + 1 + (i : Int)) ≤ d * (u / d) := mul_le hd1 (by omega)
    have m2 : d * ((u - s) / d + 1) ≤ d * ((u - s) / d + 1 + (i : Int)) := mul_le hd1 (by omega)
    rw [mul_add_one'] at m2
    omega
  · rintro ⟨h1, h2⟩
    have l1 : d * ((u - s) / d) < d * q := by omega
    have l2 : d * q < d * (u / d + 1) := by rw [mul_add_one']; omega
    have l1 := lt_of_mul hd1 l1
    have l2 := lt_of_mul hd1 l2
    refine ⟨(q - (u - s) / d - 1).toNat, by omega, ?_⟩
    congr 1
    omega

theorem has_eq {s d l u : Int} (a : Int) (h : Right s d l) (hu : Tm u) (hm : ∃ q, a = d * q) (k : Nat) (hk : 400 ≤ k) : spatelaw4_has.f k s d l u a = some (decide (a ≤ u ∧ u < a + s)) := by
  obtain ⟨hN, h64⟩ := cnt_le h u
  have hl := starts_length s d u
  unfold spatelaw4_has.f
  rw [starts_eq h hu k (by omega)]
  simp only [Option.bind_some]
  obtain ⟨F, rfl⟩ : ∃ F, k = F + (starts s d u).length + 1 := ⟨k - (starts s d u).length - 1, by omega⟩
  have e := has_l0 (starts s d u) a (by omega) F (starts s d u).length 0 (by omega)
  have e2 : decide (a ∈ starts s d u) = decide (a ≤ u ∧ u < a + s) := decide_eq_decide.mpr (mem_starts h u a hm)
  rw [List.drop_zero, e2] at e
  exact e

theorem starts_mul (s d u : Int) : ∀ a ∈ starts s d u, ∃ q, a = d * q := by
  intro a ha
  simp only [starts, List.mem_map] at ha
  obtain ⟨i, _, rfl⟩ := ha
  exact ⟨_, rfl⟩

theorem times_l0 {s d l t b : Int} (h : Right s d l) (ht0 : -576460752303423488 ≤ t) (ht1 : t ≤ 576460752303423488) (F : Nat) : ∀ n i : Nat, i + n = (starts s d t).length →
    spatelaw4_PaneTimes.l0 (F + 2 * n + 401) t b (starts s d t) i s d l = some true := by
  intro n
  have ht : Tm t := ⟨by omega, by omega⟩
  obtain ⟨hN, h64⟩ := cnt_le h t
  have hl := starts_length s d t
  have s1 := h.s1
  have s2 := h.s2
  induction n with
  | zero =>
    intro i hi
    obtain ⟨G, hG⟩ : ∃ G, F + 2 * 0 + 401 = G + 1 := ⟨F + 400, by omega⟩
    rw [hG]
    simp only [spatelaw4_PaneTimes.l0]
    rw [if_neg (by omega), head_eq _ (by omega)]
    rfl
  | succ n ih =>
    intro i hi
    obtain ⟨G, hG⟩ : ∃ G, F + 2 * (n + 1) + 401 = G + 1 + 1 := ⟨F + 2 * n + 401, by omega⟩
    have hG2 : G = F + 2 * n + 401 := by omega
    rw [hG]
    have hi' : i < (starts s d t).length := by omega
    have hmem := List.getElem_mem hi'
    have hb := starts_bound h ht _ hmem
    have hm := starts_mul s d t _ hmem
    simp only [spatelaw4_PaneTimes.l0]
    have hrd0 := rd_at _ i hi'
    rw [if_pos (by omega), if_pos (by omega), rd_at _ i hi']
    generalize (starts s d t)[i] = a at hb hm hrd0 ⊢
    unfold pane_End.f
    simp only [Option.bind_some]
    rw [wrap_in (n := a + s) (by omega) (by omega), if_neg (by omega), if_neg (by omega), wrap_in (n := a + s - a) (by omega) (by omega), if_pos (by omega), wrap_in (n := a + s - 1) (by omega) (by omega), wrap_in (n := a - 1) (by omega) (by omega)]
    rw [has_eq a h (u := a) ⟨by omega, by omega⟩ hm _ (by omega), has_eq a h (u := a + s - 1) ⟨by omega, by omega⟩ hm _ (by omega), has_eq a h (u := a + s) ⟨by omega, by omega⟩ hm _ (by omega), has_eq a h (u := a - 1) ⟨by omega, by omega⟩ hm _ (by omega)]
    rw [decide_eq_true (show a ≤ a ∧ a < a + s by omega), decide_eq_true (show a ≤ a + s - 1 ∧ a + s - 1 < a + s by omega), decide_eq_false (show ¬ (a ≤ a + s ∧ a + s < a + s) by omega), decide_eq_false (show ¬ (a ≤ a - 1 ∧ a - 1 < a + s) by omega)]
    simp only [Option.bind_some, if_true]
    have hj : spatelaw4_PaneTimes.j1 (G + 1) t b (starts s d t) i (a + s) false s d l = some true := by
      simp only [spatelaw4_PaneTimes.j1]
      have hrd : rd (starts s d t) i = a := hrd0
      rw [if_neg (by decide), if_pos (by omega), if_pos (by omega), wrap_in (n := 2 * s) (by omega) (by omega), if_neg (by omega), hrd]
      have hb2 := tmod_bounds b (2 * s) (by omega)
      generalize Int.tmod b (2 * s) = u at hb2 ⊢
      rw [wrap_in (n := a + u) (by omega) (by omega), has_eq a h (u := a + u) ⟨by omega, by omega⟩ hm _ (by omega), wrap_in (n := (i : Int) + 1) (by omega) (by omega), hG2]
      simp only [Option.bind_some]
      have hrest := ih (i + 1) (by omega)
      by_cases hc : a + u ≥ a
      · rw [if_pos hc]
        have : (decide (a ≤ a + u ∧ a + u < a + s) != decide (a + u < a + s)) = false := by
          have e : (a ≤ a + u ∧ a + u < a + s) ↔ a + u < a + s := by omega
          have e2 : decide (a ≤ a + u ∧ a + u < a + s) = decide (a + u < a + s) := decide_eq_decide.mpr e
          rw [e2]; simp
        rw [this, if_neg (by decide)]
        exact hrest
      · rw [if_neg hc, decide_eq_false (by omega), show (false != false) = false by rfl, if_neg (by decide)]
        exact hrest
    rw [if_neg (by decide)]
    exact hj

theorem times_pure (s d l t b : Int) : spatelaw4_PaneTimes.f 2000 s d l t b = some true := by
  unfold spatelaw4_PaneTimes.f
  rw [rightf_eq]
  simp only [Option.bind_some]
  by_cases h : Right s d l
  · rw [decide_eq_true h, if_pos rfl]
    unfold spatelaw4_within.f
    simp only [Option.bind_some]
    have hb := tmod_bounds t 576460752303423488 (by omega)
    generalize Int.tmod t 576460752303423488 = u at hb ⊢
    rw [starts_eq h ⟨by omega, by omega⟩ 2000 (by omega)]
    simp only [Option.bind_some, if_true]
    obtain ⟨hN, h64⟩ := cnt_le h u
    have hl := starts_length s d u
    have e := times_l0 (b := b) h (show -576460752303423488 ≤ u by omega) (by omega) (2000 - 2 * (starts s d u).length - 401) (starts s d u).length 0 (by omega)
    rw [show 2000 - 2 * (starts s d u).length - 401 + 2 * (starts s d u).length + 401 = 2000 by omega, show ((0 : Nat) : Int) = 0 from rfl] at e
    exact e
  · rw [decide_eq_false h, if_neg (by decide), head_eq 2000 (by omega)]
    rfl

end Go.Proofs.Ytnceikookipdnaa.Math2
