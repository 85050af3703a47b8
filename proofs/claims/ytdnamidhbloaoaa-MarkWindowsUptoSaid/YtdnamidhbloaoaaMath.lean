/-
  Plain laws on the printed functions of pane (chapter 4): what Starts, Closed, First and the references' functions come to for a view that is right. No memory and no program in sight.
-/
import Derived.Test.YtdnamidhbloaoaaPFnx4
import Derived.OpenShut
set_option linter.unusedVariables false
set_option linter.unusedSimpArgs false
namespace Go.Proofs.Ytdnamidhbloaoaa.Math2
open Go.RowKit Go.Proofs.Ytdnamidhbloaoaa.PFn Go.Proofs.YtdnamidhbloaoaaW.PrintWords Go.Proofs.YtdnamidhbloaoaaW.PrintLast

theorem wrap_in {n : Int} (h0 : -9223372036854775808 ≤ n) (h1 : n ≤ 9223372036854775807) : wrap64 n = n := by
  unfold wrap64; omega

/-- A view that is right. -/
structure Right (s d l : Int) : Prop where
  s1 : 1 ≤ s
  s2 : s ≤ 1099511627776
  d1 : 1 ≤ d
  d2 : d ≤ 1099511627776
  l1 : 0 ≤ l
  l2 : l ≤ 1099511627776
  sd : s ≤ 64 * d

theorem right_iff (s d l : Int) : Right s d l ↔ (1 ≤ s ∧ s ≤ 1099511627776 ∧ 1 ≤ d ∧ d ≤ 1099511627776 ∧ 0 ≤ l ∧ l ≤ 1099511627776 ∧ s ≤ 64 * d) :=
  ⟨fun h => ⟨h.s1, h.s2, h.d1, h.d2, h.l1, h.l2, h.sd⟩, fun ⟨a, b, c, d, e, f, g⟩ => ⟨a, b, c, d, e, f, g⟩⟩

instance (s d l : Int) : Decidable (Right s d l) := decidable_of_iff _ (right_iff s d l).symm

theorem check_eq (s d l : Int) : pane_Check.f s d l = some (if Right s d l then 0 else 23) := by
  unfold pane_Check.f
  by_cases h : Right s d l
  · have hw : wrap64 (64 * d) = 64 * d := wrap_in (by have := h.d1; omega) (by have := h.d2; omega)
    have h' := h
    obtain ⟨a, b, c, e, f, g, i⟩ := h'
    rw [if_pos h, if_neg (by omega), if_neg (by omega), if_neg (by omega), if_neg (by omega), if_neg (by omega), if_neg (by omega), hw, if_neg (by omega)]
  · rw [if_neg h]
    split; · rfl
    split; · rfl
    split; · rfl
    split; · rfl
    split; · rfl
    split; · rfl
    split; · rfl
    · rename_i h1 h2 h3 h4 h5 h6 h7
      have hw : wrap64 (64 * d) = 64 * d := wrap_in (by omega) (by omega)
      rw [hw] at h7
      exact absurd ⟨by omega, by omega, by omega, by omega, by omega, by omega, by omega⟩ h

theorem rcheck_eq (s d l : Int) : spateref4_Check.f s d l = pane_Check.f s d l := rfl

/-! ### Division -/
theorem tmod_pos (n d : Int) (hd : 1 ≤ d) : (if Int.tmod n d < 0 then Int.tmod n d + d else Int.tmod n d) = n % d := by
  rw [Int.tmod_eq_emod]
  have h0 := Int.emod_nonneg n (show d ≠ 0 by omega)
  have h1 := Int.emod_lt_of_pos n (show 0 < d by omega)
  by_cases hn : 0 ≤ n ∨ d ∣ n
  · rw [if_pos hn, show ((0 : Nat) : Int) = 0 from rfl, Int.sub_zero, if_neg (by omega)]
  · rw [if_neg hn]
    have : (d.natAbs : Int) = d := by omega
    rw [this]
    have hne : n % d ≠ 0 := fun e => hn (.inr (Int.dvd_of_emod_eq_zero e))
    split <;> omega

theorem tmod_bounds (n d : Int) (hd : 1 ≤ d) : -d ≤ Int.tmod n d ∧ Int.tmod n d < d := by
  have h0 := Int.emod_nonneg n (show d ≠ 0 by omega)
  have h1 := Int.emod_lt_of_pos n (show 0 < d by omega)
  have := tmod_pos n d hd
  split at this <;> omega

theorem div_mul (n d : Int) : n - n % d = d * (n / d) := by have := Int.mul_ediv_add_emod n d; omega

theorem floor_eq (n d : Int) (hd : 1 ≤ d) (hd2 : d ≤ 1099511627776) (h0 : -9000000000000000000 ≤ n) (h1 : n ≤ 9000000000000000000) :
    pane_floor.f n d = some (d * (n / d)) := by
  have hb := tmod_bounds n d hd
  have ht := tmod_pos n d hd
  have hm := div_mul n d
  unfold pane_floor.f
  rw [if_neg (by omega)]
  split
  · rename_i hlt
    rw [if_pos hlt] at ht
    rw [wrap_in (n := Int.tmod n d + d) (by omega) (by omega), ht, hm, wrap_in (by omega) (by omega)]
  · rename_i hlt
    rw [if_neg hlt] at ht
    rw [ht, hm, wrap_in (by omega) (by omega)]

theorem below_eq (n d : Int) (hd : 1 ≤ d) (hd2 : d ≤ 1099511627776) (h0 : -9000000000000000000 ≤ n) (h1 : n ≤ 9000000000000000000) :
    spateref4_below.f n d = some (d * (n / d)) := by
  have hb := tmod_bounds n d hd
  have ht := tmod_pos n d hd
  have hm := div_mul n d
  have ha := Int.tmod_add_mul_tdiv n d
  have e0 := Int.emod_nonneg n (show d ≠ 0 by omega)
  have e1 := Int.emod_lt_of_pos n (show 0 < d by omega)
  have hq : -9000000000000000000 ≤ Int.tdiv n d ∧ Int.tdiv n d ≤ 9000000000000000000 := by
    have hab : (Int.tdiv n d).natAbs ≤ n.natAbs := by rw [Int.natAbs_tdiv]; exact Nat.div_le_self _ _
    omega
  unfold spateref4_below.f
  rw [if_neg (by omega), wrap_in (n := Int.tdiv n d) (by omega) (by omega)]
  split
  · rename_i hlt
    rw [if_pos hlt] at ht
    have e : (Int.tdiv n d - 1) * d = d * (n / d) := by
      rw [Int.sub_mul, Int.one_mul, Int.mul_comm]; omega
    have hq1 : -9000000000000000000 < Int.tdiv n d := by
      rcases Int.lt_or_le (-9000000000000000000) (Int.tdiv n d) with h | h
      · exact h
      · exfalso
        have h9 : Int.tdiv n d = -9000000000000000000 := by omega
        rw [h9] at ha
        omega
    rw [wrap_in (n := Int.tdiv n d - 1) (by omega) (by omega), e, wrap_in (by omega) (by omega)]
  · rename_i hlt
    rw [if_neg hlt] at ht
    have e : Int.tdiv n d * d = d * (n / d) := by rw [Int.mul_comm]; omega
    rw [e, wrap_in (by omega) (by omega)]


theorem mul_add_one' (a b : Int) : a * (b + 1) = a * b + a := by rw [Int.mul_add, Int.mul_one]

/-! ### Starts -/
/-- How many windows a time has. -/
def cnt (s d t : Int) : Nat := (t / d - (t - s) / d).toNat
/-- The windows of a time, rising. -/
def starts (s d t : Int) : List Int := (List.range (cnt s d t)).map fun i : Nat => d * ((t - s) / d + 1 + (i : Int))

theorem starts_length (s d t : Int) : (starts s d t).length = cnt s d t := by simp [starts]

theorem div_facts (n d : Int) (hd : 1 ≤ d) : d * (n / d) ≤ n ∧ n < d * (n / d) + d := by
  have h0 := Int.emod_nonneg n (show d ≠ 0 by omega)
  have h1 := Int.emod_lt_of_pos n (show 0 < d by omega)
  have := div_mul n d
  omega

theorem lt_of_mul {d a b : Int} (hd : 1 ≤ d) (h : d * a < d * b) : a < b := Int.lt_of_mul_lt_mul_left h (by omega)
theorem le_of_mul {d a b : Int} (hd : 1 ≤ d) (h : d * a ≤ d * b) : a ≤ b := Int.le_of_mul_le_mul_left h (by omega)
theorem mul_le {d a b : Int} (hd : 1 ≤ d) (h : a ≤ b) : d * a ≤ d * b := Int.mul_le_mul_of_nonneg_left h (by omega)

theorem cnt_le {s d l : Int} (h : Right s d l) (t : Int) : ((cnt s d t : Nat) : Int) = t / d - (t - s) / d ∧ cnt s d t ≤ 64 := by
  have f1 := div_facts t d h.d1
  have f2 := div_facts (t - s) d h.d1
  have hs := h.s1
  have hsd := h.sd
  have hd := h.d1
  have m1 : (t - s) / d ≤ t / d := Int.ediv_le_ediv (by omega) (by omega)
  have m2 : t / d - (t - s) / d ≤ 64 := by
    have : d * (t / d - (t - s) / d) < d * 65 := by rw [Int.mul_sub]; omega
    have := lt_of_mul hd this
    omega
  unfold cnt
  omega

theorem starts_take (s d t : Int) (i : Nat) (h : i < cnt s d t) : (starts s d t).take (i + 1) = (starts s d t).take i ++ [d * ((t - s) / d + 1 + (i : Int))] := by
  have hl : i < (starts s d t).length := by rw [starts_length]; exact h
  rw [List.take_succ_eq_append_getElem hl]
  congr 1
  simp [starts]

theorem set_at (A B : List Int) (x v : Int) (i : Nat) (h : A.length = i) : (A ++ x :: B).set i v = A ++ v :: B := by
  subst h; simp

/-- The bounds of a time. -/
structure Tm (t : Int) : Prop where
  lo : -1152921504606846976 ≤ t
  hi : t ≤ 1152921504606846976

theorem l1_eq {s d l t : Int} (h : Right s d l) (ht : Tm t) (F : Nat) : ∀ m i : Nat, i + m = cnt s d t →
    pane_Starts.l1 (F + m + 1) (d * (t / d)) (cnt s d t) ((starts s d t).take i ++ List.replicate m 0) (cnt s d t) i s d l = some (starts s d t, 0) := by
  intro m
  obtain ⟨hN, h64⟩ := cnt_le h t
  have f1 := div_facts t d h.d1
  have hd1 := h.d1
  have hd2 := h.d2
  have t0 := ht.lo
  have t1 := ht.hi
  induction m with
  | zero =>
    intro i hi
    simp only [pane_Starts.l1]
    rw [if_neg (by omega)]
    simp
    rw [List.take_of_length_le (by rw [starts_length]; omega)]
  | succ m ih =>
    intro i hi
    have e := ih (i + 1) (by omega)
    rw [starts_take s d t i (by omega)] at e
    have hlen : ((starts s d t).take i).length = i := by rw [List.length_take, starts_length]; omega
    have hmul : ((cnt s d t : Int) - 1 - i) * d = d * (t / d) - d * ((t - s) / d + 1 + (i : Int)) := by
      rw [hN, Int.mul_comm, ← Int.mul_sub]; congr 1; omega
    have hb : 0 ≤ ((cnt s d t : Int) - 1 - i) * d ∧ ((cnt s d t : Int) - 1 - i) * d ≤ 64 * d :=
      ⟨Int.mul_nonneg (by omega) (by omega), Int.mul_le_mul_of_nonneg_right (by omega) (by omega)⟩
    obtain ⟨G, hG⟩ : ∃ G, G = F + m + 1 := ⟨_, rfl⟩
    rw [show F + (m + 1) + 1 = G + 1 by omega]
    simp only [pane_Starts.l1]
    rw [if_pos (by omega), if_pos (by omega), if_pos (by simp [hlen]; omega)]
    rw [wrap_in (n := (cnt s d t : Int) - 1) (by omega) (by omega), wrap_in (n := (cnt s d t : Int) - 1 - i) (by omega) (by omega), wrap_in (n := ((cnt s d t : Int) - 1 - i) * d) (by omega) (by omega),
      wrap_in (n := d * (t / d) - ((cnt s d t : Int) - 1 - i) * d) (by omega) (by omega), wrap_in (n := (i : Int) + 1) (by omega) (by omega), Int.toNat_natCast, List.replicate_succ, set_at _ _ _ _ _ hlen]
    have ev : d * (t / d) - ((cnt s d t : Int) - 1 - i) * d = d * ((t - s) / d + 1 + (i : Int)) := by omega
    rw [ev]
    simp only [List.append_assoc, List.singleton_append] at e
    rw [hG]
    exact e

theorem l0_eq {s d l t : Int} (h : Right s d l) (ht : Tm t) (F : Nat) : ∀ m i : Nat, i + m = cnt s d t →
    pane_Starts.l0 (F + m + 1) t (d * (t / d)) i i s d l = pane_Starts.j2 F (d * (t / d)) (cnt s d t) s d l := by
  intro m
  obtain ⟨hN, h64⟩ := cnt_le h t
  have f1 := div_facts t d h.d1
  have f2 := div_facts (t - s) d h.d1
  have hd1 := h.d1
  have hd2 := h.d2
  have hs1 := h.s1
  have hs2 := h.s2
  have t0 := ht.lo
  have t1 := ht.hi
  induction m with
  | zero =>
    intro i hi
    have hmul : (i : Int) * d = d * (t / d) - d * ((t - s) / d) := by
      rw [show (i : Int) = t / d - (t - s) / d by omega, Int.mul_comm, Int.mul_sub]
    have hb : 0 ≤ (i : Int) * d ∧ (i : Int) * d ≤ 64 * d := ⟨Int.mul_nonneg (by omega) (by omega), Int.mul_le_mul_of_nonneg_right (by omega) (by omega)⟩
    simp only [pane_Starts.l0]
    rw [if_pos (by omega), wrap_in (n := (i : Int) * d) (by omega) (by omega), wrap_in (n := d * (t / d) - (i : Int) * d) (by omega) (by omega), wrap_in (by omega) (by omega), if_pos (by omega), show i = cnt s d t by omega]
  | succ m ih =>
    intro i hi
    have hmul : (i : Int) * d ≤ d * (t / d) - d * ((t - s) / d) - d := by
      have : (i : Int) * d ≤ (t / d - (t - s) / d - 1) * d := Int.mul_le_mul_of_nonneg_right (by omega) (by omega)
      rw [Int.sub_mul, Int.sub_mul, Int.one_mul, Int.mul_comm (t / d) d, Int.mul_comm ((t - s) / d) d] at this
      exact this
    have hb : 0 ≤ (i : Int) * d ∧ (i : Int) * d ≤ 64 * d := ⟨Int.mul_nonneg (by omega) (by omega), Int.mul_le_mul_of_nonneg_right (by omega) (by omega)⟩
    simp only [pane_Starts.l0]
    rw [if_pos (by omega), wrap_in (n := (i : Int) * d) (by omega) (by omega), wrap_in (n := d * (t / d) - (i : Int) * d) (by omega) (by omega), wrap_in (by omega) (by omega), if_neg (by omega), wrap_in (n := (i : Int) + 1) (by omega) (by omega)]
    exact ih (i + 1) (by omega)

theorem starts_eq {s d l t : Int} (h : Right s d l) (ht : Tm t) (k : Nat) (hk : 140 ≤ k) : pane_Starts.f k s d l t = some (starts s d t, 0) := by
  obtain ⟨hN, h64⟩ := cnt_le h t
  obtain ⟨F, rfl⟩ : ∃ F, k = (((F + cnt s d t + 1) + 1) + cnt s d t + 1) + 1 := ⟨k - (2 * cnt s d t + 4), by omega⟩
  have t0 := ht.lo
  have t1 := ht.hi
  unfold pane_Starts.f
  rw [check_eq, if_pos h]
  simp only [Option.bind_some, if_true]
  rw [if_neg (by omega), decide_eq_false (by omega)]
  simp only [pane_Starts.j0]
  rw [if_neg (by decide), floor_eq t d h.d1 h.d2 (by omega) (by omega)]
  simp only [Option.bind_some]
  have e := l0_eq h ht (F + cnt s d t + 1 + 1) (cnt s d t) 0 (by omega)
  rw [show ((0 : Nat) : Int) = 0 from rfl] at e
  rw [e]
  simp only [pane_Starts.j2]
  rw [if_pos (by omega), Int.toNat_natCast, if_pos (by omega)]
  have e2 := l1_eq h ht F (cnt s d t) 0 (by omega)
  simpa using e2

theorem starts_late {s d l t : Int} (h : Right s d l) (ht : ¬ Tm t) (k : Nat) (hk : 140 ≤ k) : pane_Starts.f k s d l t = some ([], 22) := by
  obtain ⟨F, rfl⟩ : ∃ F, k = F + 1 := ⟨k - 1, by omega⟩
  unfold pane_Starts.f
  rw [check_eq, if_pos h]
  simp only [Option.bind_some, if_true]
  by_cases h0 : t < -1152921504606846976
  · rw [if_pos h0]; simp [pane_Starts.j0]
  · have : t > 1152921504606846976 := by
      rcases Int.lt_or_le 1152921504606846976 t with h1 | h1
      · exact h1
      · exact absurd ⟨by omega, h1⟩ ht
    rw [if_neg h0, decide_eq_true this]; simp [pane_Starts.j0]

theorem starts_wrong {s d l t : Int} (h : ¬ Right s d l) (k : Nat) : pane_Starts.f k s d l t = some ([], 23) := by
  unfold pane_Starts.f
  rw [check_eq, if_neg h]
  simp

/-! ### The reference's Starts -/
theorem rl0_eq {s d l t : Int} (h : Right s d l) (ht : Tm t) (F : Nat) : ∀ m i : Nat, i + m = cnt s d t →
    spateref4_Starts.l0 (F + m + 1) t ((starts s d t).take i) (d * ((t - s) / d + 1 + (i : Int))) s d l = some (starts s d t, 0) := by
  intro m
  obtain ⟨hN, h64⟩ := cnt_le h t
  have f1 := div_facts t d h.d1
  have f2 := div_facts (t - s) d h.d1
  have hd1 := h.d1
  have hd2 := h.d2
  have t0 := ht.lo
  have t1 := ht.hi
  induction m with
  | zero =>
    intro i hi
    have e : (t - s) / d + 1 + (i : Int) = t / d + 1 := by omega
    have hm : d * (t / d + 1) = d * (t / d) + d := by rw [Int.mul_add, Int.mul_one]
    simp only [spateref4_Starts.l0]
    rw [e, hm, if_neg (by omega), List.take_of_length_le (by rw [starts_length]; omega)]
  | succ m ih =>
    intro i hi
    have hle : d * ((t - s) / d + 1 + (i : Int)) ≤ d * (t / d) := mul_le hd1 (by omega)
    have hge : d * ((t - s) / d) ≤ d * ((t - s) / d + 1 + (i : Int)) := mul_le hd1 (by omega)
    have hs2 := h.s2
    have hm : d * ((t - s) / d + 1 + (i : Int)) + d = d * ((t - s) / d + 1 + ((i + 1 : Nat) : Int)) := by
      rw [← mul_add_one']; congr 1; omega
    simp only [spateref4_Starts.l0]
    rw [if_pos (by omega), if_pos (by rw [List.length_take, starts_length]; omega), wrap_in (by omega) (by omega), hm, ← starts_take s d t i (by omega)]
    exact ih (i + 1) (by omega)

theorem rstarts_eq {s d l t : Int} (h : Right s d l) (ht : Tm t) (k : Nat) (hk : 140 ≤ k) : spateref4_Starts.f k s d l t = some (starts s d t, 0) := by
  obtain ⟨hN, h64⟩ := cnt_le h t
  obtain ⟨F, rfl⟩ : ∃ F, k = (F + cnt s d t + 1) + 1 := ⟨k - (cnt s d t + 2), by omega⟩
  have t0 := ht.lo
  have t1 := ht.hi
  have hs1 := h.s1
  have hs2 := h.s2
  have hd1 := h.d1
  have hd2 := h.d2
  have f2 := div_facts (t - s) d h.d1
  unfold spateref4_Starts.f
  rw [rcheck_eq, check_eq, if_pos h]
  simp only [Option.bind_some, if_true]
  rw [if_neg (by omega), decide_eq_false (by omega)]
  simp only [spateref4_Starts.j0]
  rw [if_neg (by decide), wrap_in (n := t - s) (by omega) (by omega), below_eq (t - s) d h.d1 h.d2 (by omega) (by omega)]
  simp only [Option.bind_some]
  rw [wrap_in (by omega) (by omega), ← mul_add_one']
  have e := rl0_eq h ht F (cnt s d t) 0 (by omega)
  simp only [List.take_zero, show ((0 : Nat) : Int) = 0 from rfl, Int.add_zero] at e
  exact e

theorem rstarts_late {s d l t : Int} (h : Right s d l) (ht : ¬ Tm t) (k : Nat) (hk : 140 ≤ k) : spateref4_Starts.f k s d l t = some ([], 22) := by
  obtain ⟨F, rfl⟩ : ∃ F, k = F + 1 := ⟨k - 1, by omega⟩
  unfold spateref4_Starts.f
  rw [rcheck_eq, check_eq, if_pos h]
  simp only [Option.bind_some, if_true]
  by_cases h0 : t < -1152921504606846976
  · rw [if_pos h0]; simp [spateref4_Starts.j0]
  · have : t > 1152921504606846976 := by
      rcases Int.lt_or_le 1152921504606846976 t with h1 | h1
      · exact h1
      · exact absurd ⟨by omega, h1⟩ ht
    rw [if_neg h0, decide_eq_true this]; simp [spateref4_Starts.j0]

theorem rstarts_wrong {s d l t : Int} (h : ¬ Right s d l) (k : Nat) : spateref4_Starts.f k s d l t = some ([], 23) := by
  unfold spateref4_Starts.f
  rw [rcheck_eq, check_eq, if_neg h]
  simp

/-- Starts and the reference's tell the same. -/
theorem starts_same (s d l t : Int) : ∃ xs e, xs.length ≤ 64 ∧ ∀ k, 140 ≤ k → pane_Starts.f k s d l t = some (xs, e) ∧ spateref4_Starts.f k s d l t = some (xs, e) := by
  by_cases h : Right s d l
  · by_cases ht : Tm t
    · exact ⟨starts s d t, 0, by rw [starts_length]; exact (cnt_le h t).2, fun k hk => ⟨starts_eq h ht k hk, rstarts_eq h ht k hk⟩⟩
    · exact ⟨[], 22, by simp, fun k hk => ⟨starts_late h ht k hk, rstarts_late h ht k hk⟩⟩
  · exact ⟨[], 23, by simp, fun k hk => ⟨starts_wrong h k, rstarts_wrong h k⟩⟩

theorem mono_le {α : Type} {f : Nat → Option α} (hm : ∀ k, LeO (f k) (f (k + 1))) {k m : Nat} (h : k ≤ m) {r : α} (e : f k = some r) : f m = some r := by
  induction h with
  | refl => exact e
  | step _ ih => exact hm _ r ih

/-- A window is closed under a mark. -/
def cl (s l m : Int) (a : Int) : Bool := decide (a + s + l ≤ m)

theorem closed_eq {s d l a m : Int} (h : Right s d l) (h0 : -3000000000000000000 ≤ a) (h1 : a ≤ 3000000000000000000) : pane_Closed.f s d l a m = some (cl s l m a) := by
  have s1 := h.s1
  have s2 := h.s2
  have l1 := h.l1
  have l2 := h.l2
  unfold pane_Closed.f pane_End.f cl
  simp only [Option.bind_some]
  rw [wrap_in (n := a + s) (by omega) (by omega), wrap_in (n := a + s + l) (by omega) (by omega)]

theorem rclosed_eq {s d l a m : Int} (h : Right s d l) (h0 : -3000000000000000000 ≤ a) (h1 : a ≤ 3000000000000000000) : spateref4_Closed.f s d l a m = some (cl s l m a) := by
  have s1 := h.s1
  have s2 := h.s2
  have l1 := h.l1
  have l2 := h.l2
  unfold spateref4_Closed.f cl
  rw [wrap_in (n := a + s) (by omega) (by omega), wrap_in (n := a + s + l) (by omega) (by omega)]

theorem rd_at (xs : List Int) (i : Nat) (h : i < xs.length) : rd xs i = xs[i] := by
  unfold rd
  rw [Int.toNat_natCast, List.getD_eq_getElem?_getD, List.getElem?_eq_getElem h]
  rfl

theorem open_l0 {s d l m : Int} (h : Right s d l) (xs : List Int) (hl : xs.length ≤ 1000) (hx : ∀ a ∈ xs, -3000000000000000000 ≤ a ∧ a ≤ 3000000000000000000) (F : Nat) : ∀ n i : Nat, i + n = xs.length →
    pane_Open.l0 (F + 2 * n + 3) m xs [] xs xs.length i s d l = some ((xs.drop i).dropWhile (cl s l m), 0) := by
  intro n
  induction n with
  | zero =>
    intro i hi
    obtain ⟨G, hG⟩ : ∃ G, F + 2 * 0 + 3 = G + 1 := ⟨F + 2, by omega⟩
    rw [hG]
    simp only [pane_Open.l0]
    rw [if_neg (by omega), List.drop_of_length_le (by omega)]
    rfl
  | succ n ih =>
    intro i hi
    obtain ⟨G, hG⟩ : ∃ G, F + 2 * (n + 1) + 3 = G + 1 + 1 := ⟨F + 2 * n + 3, by omega⟩
    have hG2 : G = F + 2 * n + 3 := by omega
    rw [hG]
    have hi' : i < xs.length := by omega
    have hb := hx xs[i] (List.getElem_mem hi')
    simp only [pane_Open.l0]
    rw [if_pos (by omega), if_pos (by omega), if_pos (by omega), rd_at xs i hi']
    simp only [pane_Open.l1]
    rw [if_pos (by omega), closed_eq h hb.1 hb.2]
    simp only [Option.bind_some]
    rw [List.drop_eq_getElem_cons hi', List.dropWhile_cons]
    by_cases hc : cl s l m xs[i] = true
    · rw [if_pos hc, if_pos hc, wrap_in (n := (i : Int) + 1) (by omega) (by omega), hG2]
      exact ih (i + 1) (by omega)
    · rw [if_neg hc, if_neg hc, wrap_in (n := 0 + 1) (by omega) (by omega), hG2]
      show pane_Open.l1 ((F + 2 * n + 2) + 1) m xs [] i xs[i] xs xs.length i (0 + 1) s d l = _
      simp only [pane_Open.l1]
      rw [if_neg (by omega), if_pos (by omega), if_pos (by omega), Int.toNat_natCast]
      simp only [Option.bind_some, List.nil_append]
      rw [if_pos (by simp; omega), List.drop_eq_getElem_cons hi']

theorem starts_bound {s d l t : Int} (h : Right s d l) (ht : Tm t) : ∀ a ∈ starts s d t, t - s < a ∧ a ≤ t := by
  intro a ha
  have hd1 := h.d1
  obtain ⟨hN, h64⟩ := cnt_le h t
  simp only [starts, List.mem_map, List.mem_range] at ha
  obtain ⟨i, hi, rfl⟩ := ha
  have f1 := div_facts t d hd1
  have f2 := div_facts (t - s) d hd1
  have m1 : d * ((t - s) / d + 1 + (i : Int)) ≤ d * (t / d) := mul_le hd1 (by omega)
  have m2 : d * ((t - s) / d + 1) ≤ d * ((t - s) / d + 1 + (i : Int)) := mul_le hd1 (by omega)
  rw [mul_add_one'] at m2
  omega

theorem starts_big {s d l t : Int} (h : Right s d l) (ht : Tm t) : ∀ a ∈ starts s d t, -3000000000000000000 ≤ a ∧ a ≤ 3000000000000000000 := by
  intro a ha
  have := starts_bound h ht a ha
  have := h.s2
  have := ht.lo
  have := ht.hi
  omega

theorem open_eq {s d l t : Int} (m : Int) (h : Right s d l) (ht : Tm t) (k : Nat) (hk : 400 ≤ k) : pane_Open.f k s d l t m = some ((starts s d t).dropWhile (cl s l m), 0) := by
  obtain ⟨hN, h64⟩ := cnt_le h t
  unfold pane_Open.f
  rw [starts_eq h ht k (by omega)]
  simp only [Option.bind_some, if_true]
  have hl := starts_length s d t
  obtain ⟨F, rfl⟩ : ∃ F, k = F + 2 * (starts s d t).length + 3 := ⟨k - 2 * (starts s d t).length - 3, by omega⟩
  simpa using open_l0 (m := m) h (starts s d t) (by omega) (starts_big h ht) F _ 0 (by omega)

theorem open_late {s d l t : Int} (m : Int) (h : Right s d l) (ht : ¬ Tm t) (k : Nat) (hk : 400 ≤ k) : pane_Open.f k s d l t m = some ([], 22) := by
  unfold pane_Open.f
  rw [starts_late h ht k (by omega)]
  simp

theorem open_wrong {s d l t : Int} (m : Int) (h : ¬ Right s d l) (k : Nat) : pane_Open.f k s d l t m = some ([], 23) := by
  unfold pane_Open.f
  rw [starts_wrong h k]
  simp

/-! ### From the first one on all are open -/
theorem drop_filter (p : Int → Bool) (xs : List Int) (h : xs.Pairwise fun a b => p b = true → p a = true) : xs.dropWhile p = xs.filter (fun a => !p a) := by
  induction xs with
  | nil => rfl
  | cons a xs ih =>
    rw [List.pairwise_cons] at h
    rw [List.dropWhile_cons, List.filter_cons]
    by_cases hp : p a = true
    · rw [if_pos hp, hp, if_neg (by decide)]
      exact ih h.2
    · rw [if_neg hp, Bool.eq_false_iff.mpr hp, if_pos (by decide)]
      congr 1
      symm
      rw [List.filter_eq_self]
      intro b hb
      have : ¬ p b = true := fun hb' => hp (h.1 b hb hb')
      rw [Bool.eq_false_iff.mpr this]
      rfl

theorem starts_rise {s d l : Int} (h : Right s d l) (t : Int) : (starts s d t).Pairwise (· < ·) := by
  unfold starts
  rw [List.pairwise_map]
  refine List.Pairwise.imp ?_ List.pairwise_lt_range
  intro i j hij
  exact Int.mul_lt_mul_of_pos_left (by omega) (by have := h.d1; omega)

theorem starts_cl {s d l : Int} (h : Right s d l) (t m : Int) : (starts s d t).Pairwise fun a b => cl s l m b = true → cl s l m a = true := by
  refine List.Pairwise.imp ?_ (starts_rise h t)
  intro a b hab hb
  simp only [cl, decide_eq_true_eq] at hb ⊢
  omega

theorem dropWhile_le (p : Int → Bool) (xs : List Int) : (xs.dropWhile p).length ≤ xs.length := by
  induction xs with
  | nil => simp
  | cons a xs ih => rw [List.dropWhile_cons]; split <;> simp <;> omega


end Go.Proofs.Ytdnamidhbloaoaa.Math2
