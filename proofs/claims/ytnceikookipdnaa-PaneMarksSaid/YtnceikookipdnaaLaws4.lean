/-
  The law PaneMarks on the printed functions: under a greater mark nothing opens again.
-/
import Derived.Test.YtnceikookipdnaaLaws2
import Derived.Test.YtnceikookipdnaaPAll2x7d
set_option linter.unusedVariables false
set_option linter.unusedSimpArgs false
namespace Go.Proofs.Ytnceikookipdnaa.Math2
open Go.RowKit Go.Proofs.Ytnceikookipdnaa.PAll2 Go.Proofs.YtnceikookipdnaaW.PrintWords Go.Proofs.YtnceikookipdnaaW.PrintLast

theorem starts_mul' (s d u : Int) : ∀ a ∈ starts s d u, ∃ q, a = d * q := by
  intro a ha
  simp only [starts, List.mem_map] at ha
  obtain ⟨i, _, rfl⟩ := ha
  exact ⟨_, rfl⟩

/-! ### PaneMarks -/
theorem dw_drop (p : Int → Bool) (xs : List Int) (h : xs.Pairwise fun a b => p b = true → p a = true) :
    ∃ c, c ≤ xs.length ∧ xs.dropWhile p = xs.drop c ∧ ∀ i (hi : i < xs.length), p xs[i] = true ↔ i < c := by
  induction xs with
  | nil => exact ⟨0, by simp, rfl, fun i hi => absurd hi (by simp)⟩
  | cons a xs ih =>
    rw [List.pairwise_cons] at h
    rw [List.dropWhile_cons]
    by_cases hp : p a = true
    · obtain ⟨c, h1, h2, h3⟩ := ih h.2
      refine ⟨c + 1, by simp; omega, by rw [if_pos hp, h2]; rfl, ?_⟩
      intro i hi
      cases i with
      | zero => simp [hp]
      | succ i =>
        have := h3 i (by simp at hi; omega)
        simp only [List.getElem_cons_succ]
        rw [this]; omega
    · refine ⟨0, by simp, by rw [if_neg hp]; rfl, ?_⟩
      intro i hi
      cases i with
      | zero => simp [hp]
      | succ i =>
        simp only [List.getElem_cons_succ]
        have hi' : i < xs.length := by simp at hi; omega
        constructor
        · intro hq
          exact absurd (h.1 xs[i] (List.getElem_mem hi') hq) hp
        · intro hq; omega

theorem first_eq {s d l m : Int} (h : Right s d l) (h0 : -5000000000000000000 ≤ m) (h1 : m ≤ 5000000000000000000) : pane_First.f s d l m = some (d * ((m - s - l) / d + 1)) := by
  have s1 := h.s1
  have s2 := h.s2
  have l1 := h.l1
  have l2 := h.l2
  have d1 := h.d1
  have d2 := h.d2
  have f := div_facts (m - s - l) d d1
  unfold pane_First.f
  rw [if_neg (by omega), wrap_in (n := m - s) (by omega) (by omega), wrap_in (n := m - s - l) (by omega) (by omega), floor_eq _ d d1 d2 (by omega) (by omega)]
  simp only [Option.bind_some]
  rw [wrap_in (by omega) (by omega), mul_add_one']

theorem marks_l0 {s d l t m : Int} (h : Right s d l) (ht0 : -576460752303423488 ≤ t) (ht1 : t ≤ 576460752303423488) (hm0 : -600000000000000000 ≤ m) (hm1 : m ≤ 600000000000000000) (c : Nat) (hc : c ≤ (starts s d t).length)
    (hcl : ∀ i (hi : i < (starts s d t).length), cl s l m (starts s d t)[i] = true ↔ i < c) (ys : List Int) (hys : ys.length = (starts s d t).length - c) (F : Nat) : ∀ n i : Nat, i + n = (starts s d t).length →
    spatelaw4_PaneMarks.l0 (F + n + 601) t m (starts s d t) ys (d * ((m - s - l) / d + 1)) i s d l = some true := by
  intro n
  have ht : Tm t := ⟨by omega, by omega⟩
  obtain ⟨hN, h64⟩ := cnt_le h t
  have hl := starts_length s d t
  have s1 := h.s1
  have s2 := h.s2
  have l1 := h.l1
  have l2 := h.l2
  have d1 := h.d1
  have f := div_facts (m - s - l) d d1
  induction n with
  | zero =>
    intro i hi
    obtain ⟨G, hG⟩ : ∃ G, F + 0 + 601 = G + 1 := ⟨F + 600, by omega⟩
    rw [hG]
    simp only [spatelaw4_PaneMarks.l0]
    rw [if_neg (by omega), open_eq _ h ht _ (by omega)]
    simp only [Option.bind_some, if_true]
    have hall : (starts s d t).dropWhile (cl s l (-4611686018427387904)) = starts s d t := by
      rw [drop_filter _ _ (starts_cl h t _), List.filter_eq_self]
      intro a ha
      have := starts_bound h ht a ha
      simp only [cl, Bool.not_eq_true', decide_eq_false_iff_not]
      omega
    rw [hall, same_eq _ (by omega) _ (by omega)]
    simp only [Option.bind_some, if_true]
    rw [head_eq _ (by omega)]
    rfl
  | succ n ih =>
    intro i hi
    obtain ⟨G, hG⟩ : ∃ G, F + (n + 1) + 601 = G + 1 := ⟨F + n + 601, by omega⟩
    have hG2 : G = F + n + 601 := by omega
    rw [hG]
    have hi' : i < (starts s d t).length := by omega
    have hmem := List.getElem_mem hi'
    have hb := starts_bound h ht _ hmem
    obtain ⟨q, hq⟩ := starts_mul' s d t _ hmem
    have hci := hcl i hi'
    simp only [spatelaw4_PaneMarks.l0]
    rw [if_pos (by omega), if_pos (by omega), rd_at _ i hi']
    generalize (starts s d t)[i] = a at hb hq hci ⊢
    have hfirst : a ≥ d * ((m - s - l) / d + 1) ↔ ¬ cl s l m a = true := by
      simp only [cl, decide_eq_true_eq]
      subst hq
      constructor
      · intro h1 h2
        rw [mul_add_one'] at h1
        omega
      · intro h1
        have l1 : d * ((m - s - l) / d) < d * q := by omega
        have l1 := lt_of_mul d1 l1
        exact mul_le d1 (by omega)
    unfold pane_End.f
    simp only [Option.bind_some]
    rw [hys, wrap_in (n := ((starts s d t).length : Int) - (((starts s d t).length - c : Nat) : Int)) (by omega) (by omega), wrap_in (n := a + s) (by omega) (by omega), wrap_in (n := a + s + l) (by omega) (by omega), wrap_in (n := a + s + l - 1) (by omega) (by omega)]
    have e1 : decide (a ≥ d * ((m - s - l) / d + 1)) = decide ((i : Int) ≥ ((starts s d t).length : Int) - (((starts s d t).length - c : Nat) : Int)) := by
      rw [decide_eq_decide, hfirst, hci]
      omega
    rw [e1]
    simp only [bne_self_eq_false, Bool.false_eq_true, if_false]
    rw [closed_eq h (by omega) (by omega), closed_eq h (by omega) (by omega), closed_eq h (by omega) (by omega)]
    simp only [Option.bind_some]
    have e2 : (cl s l m a != decide (a + s + l ≤ m)) = false := by simp [cl]
    have e3 : cl s l (a + s + l) a = true := by simp [cl]
    have e4 : cl s l (a + s + l - 1) a = false := by simp [cl]; omega
    rw [e2, e3, e4, if_neg (by decide), if_pos rfl, if_neg (by decide), wrap_in (n := (i : Int) + 1) (by omega) (by omega), hG2]
    exact ih (i + 1) (by omega)

theorem marks_pure (s d l t m more : Int) : spatelaw4_PaneMarks.f 2000 s d l t m more = some true := by
  unfold spatelaw4_PaneMarks.f
  rw [rightf_eq]
  simp only [Option.bind_some]
  by_cases h : Right s d l
  · rw [decide_eq_true h, if_pos rfl]
    unfold spatelaw4_within.f
    simp only [Option.bind_some]
    have hb := tmod_bounds t 576460752303423488 (by omega)
    have hb1 := tmod_bounds m 4398046511104 (by omega)
    have hb2 := tmod_bounds more 4398046511104 (by omega)
    have hmx : 0 ≤ mx 0 (Int.tmod more 4398046511104) ∧ mx 0 (Int.tmod more 4398046511104) ≤ 4398046511104 := by unfold mx; omega
    generalize Int.tmod t 576460752303423488 = t at hb ⊢
    generalize Int.tmod m 4398046511104 = u at hb1 ⊢
    generalize mx 0 (Int.tmod more 4398046511104) = v at hmx ⊢
    rw [wrap_in (n := t + u) (by omega) (by omega), wrap_in (n := t + u + v) (by omega) (by omega)]
    have ht : Tm t := ⟨by omega, by omega⟩
    obtain ⟨hN, h64⟩ := cnt_le h t
    have hl := starts_length s d t
    rw [starts_eq h ht 2000 (by omega), open_eq _ h ht 2000 (by omega), open_eq _ h ht 2000 (by omega)]
    simp only [Option.bind_some, if_true]
    obtain ⟨c1, h1, e1, k1⟩ := dw_drop _ _ (starts_cl h t (t + u))
    obtain ⟨c2, h2, e2, k2⟩ := dw_drop _ _ (starts_cl h t (t + u + v))
    have h12 : c1 ≤ c2 := by
      rcases Nat.lt_or_ge c2 c1 with hlt | hge
      · exfalso
        have hi : c2 < (starts s d t).length := by omega
        have a1 := (k1 c2 hi).2 hlt
        have a2 : ¬ cl s l (t + u + v) (starts s d t)[c2] = true := fun hq => by have := (k2 c2 hi).1 hq; omega
        simp only [cl, decide_eq_true_eq] at a1 a2
        omega
      · exact hge
    rw [e1, e2]
    have s1 := h.s1
    have s2 := h.s2
    have l1 := h.l1
    have l2 := h.l2
    have d1 := h.d1
    have d2 := h.d2
    have n1 : ((starts s d t).drop c1).length = (starts s d t).length - c1 := List.length_drop
    have n2 : ((starts s d t).drop c2).length = (starts s d t).length - c2 := List.length_drop
    rw [if_neg (by omega), decide_eq_false (by omega)]
    obtain ⟨xs, hxs⟩ : ∃ xs, xs = starts s d t := ⟨_, rfl⟩
    show spatelaw4_PaneMarks.j0 (1999 + 1) t (t + u) (t + u + v) (starts s d t) ((starts s d t).drop c1) ((starts s d t).drop c2) false s d l = some true
    simp only [spatelaw4_PaneMarks.j0]
    have f1 := div_facts (t + u - s - l) d d1
    have f2 := div_facts (t + u + v - s - l) d d1
    have hmono : (t + u - s - l) / d ≤ (t + u + v - s - l) / d := Int.ediv_le_ediv (by omega) (by omega)
    have hmono2 : d * ((t + u - s - l) / d + 1) ≤ d * ((t + u + v - s - l) / d + 1) := mul_le d1 (by omega)
    have hx1 : d * ((t + u - s - l) / d + 1) = d * ((t + u - s - l) / d) + d := mul_add_one' _ _
    rw [if_neg (by decide), first_eq h (by omega) (by omega)]
    simp only [Option.bind_some]
    rw [if_neg (by omega), Int.mul_tmod_right, if_pos rfl, closed_eq h (by omega) (by omega), wrap_in (n := d * ((t + u - s - l) / d + 1) - d) (by omega) (by omega), closed_eq h (by omega) (by omega), first_eq h (by omega) (by omega)]
    simp only [Option.bind_some]
    have b1 : cl s l (t + u) (d * ((t + u - s - l) / d + 1)) = false := by simp only [cl, decide_eq_false_iff_not]; omega
    have b2 : cl s l (t + u) (d * ((t + u - s - l) / d + 1) - d) = true := by simp only [cl, decide_eq_true_eq]; omega
    rw [b1, b2, if_neg (by decide), if_pos rfl, decide_eq_false (by omega)]
    show spatelaw4_PaneMarks.j1 (1998 + 1) t (t + u) (starts s d t) ((starts s d t).drop c1) ((starts s d t).drop c2) (d * ((t + u - s - l) / d + 1)) false s d l = some true
    simp only [spatelaw4_PaneMarks.j1]
    rw [if_neg (by decide), n1, n2, wrap_in (n := ((starts s d t).length : Int) - (((starts s d t).length - c1 : Nat) : Int)) (by omega) (by omega), wrap_in (n := (((starts s d t).length - c1 : Nat) : Int) - (((starts s d t).length - c2 : Nat) : Int)) (by omega) (by omega),
      if_pos (by omega), if_pos (by omega), show (((starts s d t).length : Int) - (((starts s d t).length - c1 : Nat) : Int)).toNat = c1 by omega, same_eq _ (by omega) _ (by omega)]
    simp only [Option.bind_some, if_true]
    rw [if_pos (by omega), if_pos (by omega), show ((((starts s d t).length - c1 : Nat) : Int) - (((starts s d t).length - c2 : Nat) : Int)).toNat = c2 - c1 by omega, List.drop_drop, show c1 + (c2 - c1) = c2 by omega, same_eq _ (by omega) _ (by omega)]
    simp only [Option.bind_some, Bool.not_true]
    show spatelaw4_PaneMarks.j2 (1997 + 1) t (t + u) (starts s d t) ((starts s d t).drop c1) (d * ((t + u - s - l) / d + 1)) false s d l = some true
    simp only [spatelaw4_PaneMarks.j2]
    rw [if_neg (by decide)]
    have e := marks_l0 (m := t + u) h (show -576460752303423488 ≤ t by omega) (by omega) (by omega) (by omega) c1 h1 k1 _ n1 (1997 - (starts s d t).length - 601) (starts s d t).length 0 (by omega)
    rw [show 1997 - (starts s d t).length - 601 + (starts s d t).length + 601 = 1997 by omega, show ((0 : Nat) : Int) = 0 from rfl] at e
    exact e
  · rw [decide_eq_false h, if_neg (by decide), head_eq 2000 (by omega)]
    rfl

end Go.Proofs.Ytnceikookipdnaa.Math2
