/-
  pane.Open on the printed functions: those of Starts from the first open one on; the reference's Open: those that are open. The law PaneOpens.
-/
import Derived.Test.YtnceikookipdnaaMath2
set_option linter.unusedVariables false
set_option linter.unusedSimpArgs false
namespace Go.Proofs.Ytnceikookipdnaa.Math2
open Go.RowKit Go.Proofs.Ytnceikookipdnaa.PAll2 Go.Proofs.YtnceikookipdnaaW.PrintWords Go.Proofs.YtnceikookipdnaaW.PrintLast

/-- A window is closed under a mark. -/
def cl (s l m : Int) (a : Int) : Bool := decide (a + s + l ≤ m)

theorem closed_eq {s d l a m : Int} (h : Right s d l) (h0 : -3000000000000000000 ≤ a) (h1 : a ≤ 3000000000000000000) : pane_Closed.f s d l a m = some (cl s l m a) := by
  have s1 := h.s1
  have s2 := h.s2
  have l1 := h.l1
  have l2 := h.l2
  unfold pane_Closed.f pane_End.f cl
  simp only [Option.bind_some]
  rw [wrap_in (n := a + s) (by omega) (by omega), wrap_in (n := a + s + l) (by omega) (by omega)]

theorem rclosed_eq {s d l a m : Int} (h : Right s d l) (h0 : -3000000000000000000 ≤ a) (h1 : a ≤ 3000000000000000000) : spateref4_Closed.f s d l a m = some (cl s l m a) := by
  have s1 := h.s1
  have s2 := h.s2
  have l1 := h.l1
  have l2 := h.l2
  unfold spateref4_Closed.f cl
  rw [wrap_in (n := a + s) (by omega) (by omega), wrap_in (n := a + s + l) (by omega) (by omega)]

theorem rd_at (xs : List Int) (i : Nat) (h : i < xs.length) : rd xs i = xs[i] := by
  unfold rd
  rw [Int.toNat_natCast, List.getD_eq_getElem?_getD, List.getElem?_eq_getElem h]
  rfl

theorem open_l0 {s d l m : Int} (h : Right s d l) (xs : List Int) (hl : xs.length ≤ 1000) (hx : ∀ a ∈ xs, -3000000000000000000 ≤ a ∧ a ≤ 3000000000000000000) (F : Nat) : ∀ n i : Nat, i + n = xs.length →
    pane_Open.l0 (F + 2 * n + 3) m xs [] xs xs.length i s d l = some ((xs.drop i).dropWhile (cl s l m), 0) := by
  intro n
  induction n with
  | zero =>
    intro i hi
    obtain ⟨G, hG⟩ : ∃ G, F + 2 * 0 + 3 = G + 1 := ⟨F + 2, by omega⟩
    rw [hG]
    simp only [pane_Open.l0]
    rw [if_neg (by omega), List.drop_of_length_le (by omega)]
    rfl
  | succ n ih =>
    intro i hi
    obtain ⟨G, hG⟩ : ∃ G, F + 2 * (n + 1) + 3 = G + 1 + 1 := ⟨F + 2 * n + 3, by omega⟩
    have hG2 : G = F + 2 * n + 3 := by omega
    rw [hG]
    have hi' : i < xs.length := by omega
    have hb := hx xs[i] (List.getElem_mem hi')
    simp only [pane_Open.l0]
    rw [if_pos (by omega), if_pos (by omega), if_pos (by omega), rd_at xs i hi']
    simp only [pane_Open.l1]
    rw [if_pos (by omega), closed_eq h hb.1 hb.2]
    simp only [Option.bind_some]
    rw [List.drop_eq_getElem_cons hi', List.dropWhile_cons]
    by_cases hc : cl s l m xs[i] = true
    · rw [if_pos hc, if_pos hc, wrap_in (n := (i : Int) + 1) (by omega) (by omega), hG2]
      exact ih (i + 1) (by omega)
    · rw [if_neg hc, if_neg hc, wrap_in (n := 0 + 1) (by omega) (by omega), hG2]
      show pane_Open.l1 ((F + 2 * n + 2) + 1) m xs [] i xs[i] xs xs.length i (0 + 1) s d l = _
      simp only [pane_Open.l1]
      rw [if_neg (by omega), if_pos (by omega), if_pos (by omega), Int.toNat_natCast]
      simp only [Option.bind_some, List.nil_append]
      rw [if_pos (by simp; omega), List.drop_eq_getElem_cons hi']

theorem starts_bound {s d l t : Int} (h : Right s d l) (ht : Tm t) : ∀ a ∈ starts s d t, t - s < a ∧ a ≤ t := by
  intro a ha
  have hd1 := h.d1
  obtain ⟨hN, h64⟩ := cnt_le h t
  simp only [starts, List.mem_map, List.mem_range] at ha
  obtain ⟨i, hi, rfl⟩ := ha
  have f1 := div_facts t d hd1
  have f2 := div_facts (t - s) d hd1
  have m1 : d * ((t - s) / d + 1 + (i : Int)) ≤ d * (t / d) := mul_le hd1 (by omega)
  have m2 : d * ((t - s) / d + 1) ≤ d * ((t - s) / d + 1 + (i : Int)) := mul_le hd1 (by omega)
  rw [mul_add_one'] at m2
  omega

theorem starts_big {s d l t : Int} (h : Right s d l) (ht : Tm t) : ∀ a ∈ starts s d t, -3000000000000000000 ≤ a ∧ a ≤ 3000000000000000000 := by
  intro a ha
  have := starts_bound h ht a ha
  have := h.s2
  have := ht.lo
  have := ht.hi
  omega

theorem open_eq {s d l t : Int} (m : Int) (h : Right s d l) (ht : Tm t) (k : Nat) (hk : 400 ≤ k) : pane_Open.f k s d l t m = some ((starts s d t).dropWhile (cl s l m), 0) := by
  obtain ⟨hN, h64⟩ := cnt_le h t
  unfold pane_Open.f
  rw [starts_eq h ht k (by omega)]
  simp only [Option.bind_some, if_true]
  have hl := starts_length s d t
  obtain ⟨F, rfl⟩ : ∃ F, k = F + 2 * (starts s d t).length + 3 := ⟨k - 2 * (starts s d t).length - 3, by omega⟩
  simpa using open_l0 (m := m) h (starts s d t) (by omega) (starts_big h ht) F _ 0 (by omega)

theorem open_late {s d l t : Int} (m : Int) (h : Right s d l) (ht : ¬ Tm t) (k : Nat) (hk : 400 ≤ k) : pane_Open.f k s d l t m = some ([], 22) := by
  unfold pane_Open.f
  rw [starts_late h ht k (by omega)]
  simp

theorem open_wrong {s d l t : Int} (m : Int) (h : ¬ Right s d l) (k : Nat) : pane_Open.f k s d l t m = some ([], 23) := by
  unfold pane_Open.f
  rw [starts_wrong h k]
  simp

theorem ropen_l0 {s d l m : Int} (h : Right s d l) (xs : List Int) (hl : xs.length ≤ 1000) (hx : ∀ a ∈ xs, -3000000000000000000 ≤ a ∧ a ≤ 3000000000000000000) (F : Nat) : ∀ n i : Nat, i + n = xs.length → ∀ acc : List Int, acc.length ≤ i →
    spateref4_Open.l0 (F + n + 1) m xs acc i s d l = some (acc ++ (xs.drop i).filter (fun a => !cl s l m a), 0) := by
  intro n
  induction n with
  | zero =>
    intro i hi acc ha
    simp only [spateref4_Open.l0]
    rw [if_neg (by omega), List.drop_of_length_le (by omega)]
    simp
  | succ n ih =>
    intro i hi acc ha
    obtain ⟨G, hG⟩ : ∃ G, G = F + n + 1 := ⟨_, rfl⟩
    rw [show F + (n + 1) + 1 = G + 1 by omega]
    have hi' : i < xs.length := by omega
    have hb := hx xs[i] (List.getElem_mem hi')
    simp only [spateref4_Open.l0]
    rw [if_pos (by omega), if_pos (by omega), rd_at xs i hi', rclosed_eq h hb.1 hb.2]
    simp only [Option.bind_some]
    rw [List.drop_eq_getElem_cons hi', List.filter_cons, wrap_in (n := (i : Int) + 1) (by omega) (by omega), hG]
    by_cases hc : cl s l m xs[i] = true
    · rw [if_pos hc, hc, if_neg (by decide)]
      exact ih (i + 1) (by omega) acc (by omega)
    · rw [if_neg hc, if_pos (by omega), Bool.eq_false_iff.mpr hc, if_pos (by decide)]
      have := ih (i + 1) (by omega) (acc ++ [xs[i]]) (by simp; omega)
      rw [List.append_assoc] at this
      exact this

theorem ropen_eq {s d l t : Int} (m : Int) (h : Right s d l) (ht : Tm t) (k : Nat) (hk : 400 ≤ k) : spateref4_Open.f k s d l t m = some ((starts s d t).filter (fun a => !cl s l m a), 0) := by
  obtain ⟨hN, h64⟩ := cnt_le h t
  unfold spateref4_Open.f
  rw [rstarts_eq h ht k (by omega)]
  simp only [Option.bind_some, if_true]
  have hl := starts_length s d t
  obtain ⟨F, rfl⟩ : ∃ F, k = F + (starts s d t).length + 1 := ⟨k - (starts s d t).length - 1, by omega⟩
  simpa using ropen_l0 (m := m) h (starts s d t) (by omega) (starts_big h ht) F _ 0 (by omega) [] (by simp)

theorem ropen_late {s d l t : Int} (m : Int) (h : Right s d l) (ht : ¬ Tm t) (k : Nat) (hk : 400 ≤ k) : spateref4_Open.f k s d l t m = some ([], 22) := by
  unfold spateref4_Open.f
  rw [rstarts_late h ht k (by omega)]
  simp

theorem ropen_wrong {s d l t : Int} (m : Int) (h : ¬ Right s d l) (k : Nat) : spateref4_Open.f k s d l t m = some ([], 23) := by
  unfold spateref4_Open.f
  rw [rstarts_wrong h k]
  simp

/-! ### From the first one on all are open -/
theorem drop_filter (p : Int → Bool) (xs : List Int) (h : xs.Pairwise fun a b => p b = true → p a = true) : xs.dropWhile p = xs.filter (fun a => !p a) := by
  induction xs with
  | nil => rfl
  | cons a xs ih =>
    rw [List.pairwise_cons] at h
    rw [List.dropWhile_cons, List.filter_cons]
    by_cases hp : p a = true
    · rw [if_pos hp, hp, if_neg (by decide)]
      exact ih h.2
    · rw [if_neg hp, Bool.eq_false_iff.mpr hp, if_pos (by decide)]
      congr 1
      symm
      rw [List.filter_eq_self]
      intro b hb
      have : ¬ p b = true := fun hb' => hp (h.1 b hb hb')
      rw [Bool.eq_false_iff.mpr this]
      rfl

theorem starts_rise {s d l : Int} (h : Right s d l) (t : Int) : (starts s d t).Pairwise (· < ·) := by
  unfold starts
  rw [List.pairwise_map]
  refine List.Pairwise.imp ?_ List.pairwise_lt_range
  intro i j hij
  exact Int.mul_lt_mul_of_pos_left (by omega) (by have := h.d1; omega)

theorem starts_cl {s d l : Int} (h : Right s d l) (t m : Int) : (starts s d t).Pairwise fun a b => cl s l m b = true → cl s l m a = true := by
  refine List.Pairwise.imp ?_ (starts_rise h t)
  intro a b hab hb
  simp only [cl, decide_eq_true_eq] at hb ⊢
  omega

theorem dropWhile_le (p : Int → Bool) (xs : List Int) : (xs.dropWhile p).length ≤ xs.length := by
  induction xs with
  | nil => simp
  | cons a xs ih => rw [List.dropWhile_cons]; split <;> simp <;> omega

/-- Open and the reference's tell the same. -/
theorem open_same (s d l t m : Int) : ∃ xs e, xs.length ≤ 64 ∧ ∀ k, 400 ≤ k → pane_Open.f k s d l t m = some (xs, e) ∧ spateref4_Open.f k s d l t m = some (xs, e) := by
  by_cases h : Right s d l
  · by_cases ht : Tm t
    · refine ⟨(starts s d t).dropWhile (cl s l m), 0, ?_, fun k hk => ⟨open_eq m h ht k hk, ?_⟩⟩
      · have := dropWhile_le (cl s l m) (starts s d t)
        rw [starts_length] at this
        have := (cnt_le h t).2
        omega
      · rw [ropen_eq m h ht k hk, drop_filter _ _ (starts_cl h t m)]
    · exact ⟨[], 22, by simp, fun k hk => ⟨open_late m h ht k hk, ropen_late m h ht k hk⟩⟩
  · exact ⟨[], 23, by simp, fun k hk => ⟨open_wrong m h k, ropen_wrong m h k⟩⟩

theorem opens_walk (s d l : Int) (h0 : (Lit.int .i64 s).wf = true) (h1 : (Lit.int .i64 d).wf = true) (h2 : (Lit.int .i64 l).wf = true) (t : Int) (h3 : (Lit.int .i64 t).wf = true) (m : Int) (h4 : (Lit.int .i64 m).wf = true) (w : World) :
    Calls Try.prog 9 #[.agg #[.int .i64 s, .int .i64 d, .int .i64 l], .int .i64 t, .int .i64 m] w fun e w' => e = .returned (.bool true) ∧ Below w.heap.size w w' := by
  refine spatelaw4_PaneOpens.calls 1000 s d l t m true w ?_
  have hj : ∀ b : Bool, spatelaw4_PaneOpens.j0 1000 t m b s d l = some true := by
    intro b
    show spatelaw4_PaneOpens.j0 (999 + 1) t m b s d l = some true
    simp only [spatelaw4_PaneOpens.j0]
    cases b with
    | true => rw [if_pos rfl, head_eq 999 (by omega)]; rfl
    | false =>
      rw [if_neg (by decide)]
      obtain ⟨xs, e, hx, h⟩ := open_same s d l t m
      rw [(h 999 (by omega)).1, (h 999 (by omega)).2]
      simp only [Option.bind_some]
      rw [same_eq xs (by omega) 999 (by omega)]
      simp only [Option.bind_some, if_true]
      rw [head_eq 999 (by omega)]
      rfl
  unfold spatelaw4_PaneOpens.f
  split
  · exact hj _
  · exact hj _

end Go.Proofs.Ytnceikookipdnaa.Math2
