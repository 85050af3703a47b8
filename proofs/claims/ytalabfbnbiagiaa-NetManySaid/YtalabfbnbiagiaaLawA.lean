/-
  The calls of the laws NetNames and NetWay.
-/
import Derived.Test.YtalabfbnbiagiaaC9
set_option linter.unusedVariables false
set_option linter.unusedSimpArgs false
namespace Go.Proofs.Ytalabfbnbiagiaa.C
open Go.RowKit Go.Proofs.Ytalabfbnbiagiaa.K

theorem word_gone (w : World) : Calls Try.prog 58 #[.int .i64 44] w fun e w' => e = .returned (.string ⟨#[103, 111, 110, 101]⟩) ∧ w = w' := by
  go_enter Try.func58, Try.ntmps58
  go_wp2
  go_ret
  exact ⟨rfl, rfl⟩
theorem error_gone (w : World) : Calls Try.prog 36 #[.int .i64 44] w fun e w' => e = .returned (.string ⟨#[103, 111, 110, 101]⟩) ∧ w = w' := by
  go_enter Try.func36, Try.ntmps36
  go_wp2_with fail
  refine (word_gone _).mono ?_
  rintro e w1 ⟨rfl, rfl⟩
  go_wp2
  go_ret
  exact ⟨rfl, rfl⟩
theorem names_walk (w : World) : Calls Try.prog 11 #[] w fun e w' => e = .returned (.bool true) ∧ Below w.heap.size w w' := by
  go_enter Try.func11, Try.ntmps11
  go_wp2_with fail
  refine (error_gone _).mono ?_
  rintro e w1 ⟨rfl, rfl⟩
  go_wp2_with fail
  refine (head_c _).mono ?_
  rintro e w1 ⟨rfl, hb⟩
  go_wp2
  go_ret
  exact ⟨rfl, hb⟩

theorem within_c (w : World) (a n : Int) (hn : 0 < n) (hn2 : n ≤ 4611686018427387904) : Calls Try.prog 12 #[.int .i64 a, .int .i64 n] w fun e w' => ∃ r : Nat, e = .returned (.int .i64 r) ∧ (r : Int) < n ∧ w = w' := by
  have h1 : Int.tmod a n < n := Int.tmod_lt_of_pos _ hn
  have h2 : -n < Int.tmod a n := by
    have := Int.tmod_lt_of_pos (-a) hn
    rw [Int.neg_tmod] at this
    omega
  have h0 : n ≠ 0 := by omega
  by_cases hneg : Int.tmod a n < 0
  · obtain ⟨r, hr⟩ := Int.eq_ofNat_of_zero_le (show 0 ≤ Int.tmod a n + n by omega)
    generalize hk : Int.tmod a n = k at *
    go_enter Try.func12, Try.ntmps12
    go_wp2
    go_ret
    exact ⟨r, by first | rfl | rw [← hr], by omega, rfl⟩
  · obtain ⟨r, hr⟩ := Int.eq_ofNat_of_zero_le (show 0 ≤ Int.tmod a n by omega)
    have hr1 : (r : Int) < n := by omega
    go_enter Try.func12, Try.ntmps12
    go_wp2
    go_ret
    exact ⟨r, by first | rfl | rw [← hr], hr1, rfl⟩

theorem within_i (w : World) (a n : Int) (hn : 0 < n) (hn2 : n ≤ 4611686018427387904) : Calls Try.prog 12 #[.int .i64 a, .int .i64 n] w fun e w' => ∃ r : Int, e = .returned (.int .i64 r) ∧ 0 ≤ r ∧ r < n ∧ w = w' :=
  (within_c w a n hn hn2).mono fun _ _ ⟨r, h1, h2, h3⟩ => ⟨r, h1, by omega, h2, h3⟩
/-- A net with one connection, and so much on its way. -/
def W (i : Int) (L : List Int) : NS := (NS.new i 1).put 64 ⟨L, [], [], [], false, false⟩
def zeros (n : Nat) : List Int := List.replicate n 0
theorem W_open (i : Int) : (NS.new i 1).open_ 64 = (0, W i []) := by
  have : err (NS.new i 1) 64 false = 44 := rfl
  simp [NS.open_, this, W]
theorem W_cs (i : Int) (L : List Int) : (W i L).cs 64 = some ⟨L, [], [], [], false, false⟩ := NS.put_same _ _ _
theorem W_err (i : Int) (L : List Int) (u : Bool) : err (W i L) 64 u = 0 := by
  unfold err
  rw [if_neg (by omega), show ((64 : Int).toNat) = 64 from rfl, W_cs]
  cases u <;> rfl
theorem W_send (i : Int) (L M : List Int) : (W i L).send 64 M = if L.length + M.length ≤ 1048576 then (0, W i (L ++ M)) else (2, W i L) := by
  unfold NS.send
  rw [if_pos (W_err i L true), show ((64 : Int).toNat) = 64 from rfl, W_cs]
  show (if L.length + M.length ≤ 1048576 then ((0 : Int), (W i L).put 64 ⟨L ++ M, [], [], [], false, false⟩) else (2, W i L)) = _
  unfold W
  rw [put_put]
theorem zeros_add (a b : Nat) : zeros a ++ zeros b = zeros (a + b) := by simp [zeros, List.replicate_append_replicate]
theorem zeros_length (a : Nat) : (zeros a).length = a := by simp [zeros]
theorem W_bring (i : Int) (h : 1 ≤ i) (T k : Nat) (hT : T ≤ 1048576) (hk : min i (T : Int) = (k : Int)) : (W i (zeros T)).bring 64 1073741824 = ((k : Int), 0, { (NS.new i 1).put 64 ⟨zeros (T - k), zeros k, [], [], false, false⟩ with mv := (k : Int) }) := by
  have hb : (W i (zeros T)).brings ⟨zeros T, [], [], [], false, false⟩ 1073741824 = k := by
    show fit i 0 (min (1073741824 : Int).toNat (zeros T).length) = k
    rw [zeros_length]
    unfold fit
    rw [if_neg (by omega)]
    have : (1073741824 : Int).toNat = 1073741824 := rfl
    omega
  unfold NS.bring
  rw [if_pos (W_err i _ false), show ((64 : Int).toNat) = 64 from rfl, W_cs]
  simp only [hb]
  have e1 : (zeros T).take k = zeros k := by simp only [zeros, List.take_replicate]; congr 1; omega
  have e2 : (zeros T).drop k = zeros (T - k) := by simp only [zeros, List.drop_replicate]
  rw [e1, e2]
  unfold W
  rw [put_put]
  simp [NS.new, NS.put]
theorem W_under (i : Int) (a b : Nat) (m : Int) : ({ (NS.new i 1).put 64 ⟨zeros a, zeros b, [], [], false, false⟩ with mv := m } : NS).under 64 = ((a : Int) + (b : Int), 0) := by
  unfold NS.under
  have h : err ({ (NS.new i 1).put 64 ⟨zeros a, zeros b, [], [], false, false⟩ with mv := m } : NS) 64 false = 0 := by
    unfold err
    rw [if_neg (by omega), show ((64 : Int).toNat) = 64 from rfl]
    rfl
  rw [if_pos h, show ((64 : Int).toNat) = 64 from rfl]
  show (((zeros a).length : Int) + ((zeros b).length : Int), ((([] : List Int).length : Nat) : Int)) = _
  rw [zeros_length, zeros_length]
  rfl

theorem make_c (n : Nat) (hn : n ≤ 140737488355328) (w : World) : (Instr.makeSlice 29 (.int .i64 (n : Int)) (.int .i64 (n : Int))).run Try.prog w = .ok (.slice (some ⟨w.heap.size, 0, none⟩) n n) (w.alloc (.cells (madeCells #[.int .u8 0] n) 5)) := by
  obtain ⟨i0, hi, hz0, hz1, hz2⟩ := info_parts info5'
  have := run_make_rowN (P := Try.prog) 29 5 i0 _ Try.underlying29 hi hz0 .i64 .i64 n n (Nat.le_refl _) (by rw [hz2]; omega) (by omega) w
  rw [hz1, Nat.mul_one] at this
  exact this
theorem make_i (F : Int) (h0 : 0 ≤ F) (hn : F ≤ 140737488355328) (w : World) : (Instr.makeSlice 29 (.int .i64 F) (.int .i64 F)).run Try.prog w = .ok (.slice (some ⟨w.heap.size, 0, none⟩) F.toNat F.toNat) (w.alloc (.cells (madeCells #[.int .u8 0] F.toNat) 5)) := by
  have := make_c F.toNat (by omega) w
  rwa [Int.toNat_of_nonneg h0] at this
theorem made_reads (w : World) (n : Nat) : Reads (w.alloc (.cells (madeCells #[.int .u8 0] n) 5)) (some ⟨w.heap.size, 0, none⟩) (bs (zeros n)) := by
  have := reads_new w (madeCells #[.int .u8 0] n) 5
  rw [ints_made] at this ⊢
  exact this

end Go.Proofs.Ytalabfbnbiagiaa.C
