/-
  The call of the law NetWay.
-/
import Derived.Test.YtalabfbnbiagiaaLawA
set_option linter.unusedVariables false
set_option linter.unusedSimpArgs false
namespace Go.Proofs.Ytalabfbnbiagiaa.C
open Go.RowKit Go.Proofs.Ytalabfbnbiagiaa.K
set_option maxRecDepth 100000 in
set_option maxHeartbeats 3200000 in
theorem way_walk (x0 : Int) (_h0 : (Lit.int .i64 x0).wf = true) (x1 : Int) (_h1 : (Lit.int .i64 x1).wf = true) (x2 : Int) (_h2 : (Lit.int .i64 x2).wf = true) (w : World) :
    Calls Try.prog 3 #[.int .i64 x0, .int .i64 x1, .int .i64 x2] w fun e w' => e = .returned (.bool true) ∧ Below w.heap.size w w' := by
  clear _h0 _h1 _h2
  go_enter Try.func3, Try.ntmps3
  go_wp2_with fail
  refine (within_i _ x0 1048578 (by omega) (by omega)).mono ?_
  rintro e w1 ⟨F, rfl, hF0, hF1, rfl⟩
  go_wp2_with fail
  refine (within_i _ x2 131072 (by omega) (by omega)).mono ?_
  rintro e w1 ⟨i, rfl, hi0, hi, rfl⟩
  have hi1 : 1 ≤ 1 + i ∧ 1 + i ≤ 131072 := by omega
  go_wp2_with fail
  generalize 1 + i = ii at hi1 ⊢
  clear hi0 hi
  refine (new_c w ii 1 ⟨by omega, by omega, by omega, by omega⟩ (fun _ => 0) 1000).mono ?_
  rintro e w1 ⟨g, rfl, hg1, hg2, hb1, H1⟩
  have S1 := (((St.first w).below hb1).upd (Nat.le_refl _) (1000 + 4))
  have hS1 := Lib.hid (And.intro S1 H1)
  clear S1 H1 hb1 hg1 hg2
  go_wp2_with fail
  refine (open_c w1 _ 1000 g _ hS1.out.2 64 (by decide)).mono ?_
  rintro e w2 ⟨he, σ2, H2, hc2⟩
  rw [W_open] at he H2
  subst he
  have hS2 := Lib.hid (And.intro (hS1.out.1.chg hc2 (by unfold Of; omega)) H2)
  clear H2 hc2 hS1
  have hmk := make_i F hF0 (by omega) w2
  obtain ⟨f, hf⟩ : ∃ f, F.toNat = f := ⟨_, rfl⟩
  rw [hf] at hmk
  have Hf := Lib.hid hf
  clear hf
  go_wp2_with fail
  have H3 := hS2.out.2.below ((Below.refl _ _).alloc (Nat.le_refl _) (.cells (madeCells #[.int .u8 0] f) 5))
  have S3 := hS2.out.1.below ((Below.refl _ _).alloc (Nat.le_refl _) (.cells (madeCells #[.int .u8 0] f) 5))
  refine (send_c _ σ2 1000 g _ H3 64 (by decide) (some ⟨w2.heap.size, 0, none⟩) f f (zeros f) (zeros_length f) (by have := Hf.out; omega) (by omega) (made_reads w2 f)).mono ?_
  rintro e w3 ⟨he, σ3, H4, hc3⟩
  rw [W_send, zeros_length] at he H4
  obtain ⟨e1, a, h1, he1, H4'⟩ : ∃ (e1 : Int) (a : Nat), ((e1 = 0 ∧ (a : Int) = F ∧ F ≤ 1048576) ∨ (e1 = 2 ∧ a = 0 ∧ ¬ F ≤ 1048576)) ∧ e = .returned (.int .i64 e1) ∧ NetAt w3 σ3 1000 g (W ii (zeros a)) := by
    have := Hf.out
    by_cases hle : f ≤ 1048576
    · rw [if_pos (by simpa using hle)] at he H4
      exact ⟨0, f, .inl ⟨rfl, by omega, by omega⟩, he, H4⟩
    · rw [if_neg (by simpa using hle)] at he H4
      exact ⟨2, 0, .inr ⟨rfl, rfl, by omega⟩, he, H4⟩
  subst he1
  have hS3 := Lib.hid (And.intro (S3.chg hc3 (by unfold Of; omega)) H4')
  clear H3 S3 H4 H4' hc3 hS2 he hmk Hf
  rcases h1 with ⟨rfl, h0, h1⟩ | ⟨rfl, h0, h1⟩
  · have Ha := Lib.hid h0
    clear h0
    go_wp2_with fail
    refine (within_i _ x1 3 (by omega) (by omega)).mono ?_
    rintro e w4 ⟨r, rfl, hr0, hr, rfl⟩
    obtain ⟨S, hS⟩ : ∃ S, r + 1048576 - F - 1 = S := ⟨_, rfl⟩
    by_cases hneg : S < 0
    · have hFm : F ≤ 1048576 := h1
      have hmk := make_i 0 (by omega) (by omega) w3
      obtain ⟨s, hs⟩ : ∃ s, Int.toNat 0 = s := ⟨_, rfl⟩
      rw [hs] at hmk
      have Hs := Lib.hid hs
      clear hs
      go_wp2_with fail
      have H5 := hS3.out.2.below ((Below.refl _ _).alloc (Nat.le_refl _) (.cells (madeCells #[.int .u8 0] s) 5))
      have S5 := hS3.out.1.below ((Below.refl _ _).alloc (Nat.le_refl _) (.cells (madeCells #[.int .u8 0] s) 5))
      refine (send_c _ σ3 1000 g _ H5 64 (by decide) (some ⟨w3.heap.size, 0, none⟩) s s (zeros s) (zeros_length _) (by have := Hs.out; omega) (by omega) (made_reads w3 _)).mono ?_
      rintro e w5 ⟨he, σ5, H6, hc5⟩
      rw [W_send, zeros_length, zeros_length, zeros_add] at he H6
      have S6 := S5.chg hc5 (by unfold Of; omega)
      clear S5 H5 hmk hc5
      obtain ⟨e2, T, h2, he2, H6'⟩ : ∃ (e2 : Int) (T : Nat), ((e2 = 0 ∧ (T : Int) = F ∧ F ≤ 1048576) ∨ (e2 = 2 ∧ (T : Int) = F ∧ ¬ F ≤ 1048576)) ∧ e = .returned (.int .i64 e2) ∧ NetAt w5 σ5 1000 g (W ii (zeros T)) := by
        have q1 := Hs.out
        have q2 := Ha.out
        by_cases hle : a + s ≤ 1048576
        · rw [if_pos hle] at he H6
          exact ⟨0, a + s, .inl ⟨rfl, by omega, by omega⟩, he, H6⟩
        · rw [if_neg hle] at he H6
          exact ⟨2, a, .inr ⟨rfl, by omega, by omega⟩, he, H6⟩
      subst he2
      have hS6 := Lib.hid (And.intro S6 H6')
      clear S6 H6 H6' hS3 he Hs
      rcases h2 with ⟨rfl, hT, h2⟩ | ⟨rfl, hT, h2⟩
      · obtain ⟨X, hX⟩ : ∃ X : Int, X = F := ⟨_, rfl⟩
        rw [← hX] at hT
        have HT := Lib.hid hT
        obtain ⟨k, hk⟩ : ∃ k : Nat, min ii X = (k : Int) := ⟨(min ii X).toNat, by omega⟩
        obtain ⟨Y, hY⟩ : ∃ Y, Y = (k : Int) := ⟨_, rfl⟩
        have hmin : min ii (F) = Y := by rw [← hX, hk, hY]
        have HY := Lib.hid (And.intro hY hk)
        have HX := Lib.hid hX
        have hX0 : T ≤ 1048576 := by omega
        have HX0 := Lib.hid hX0
        clear hT hk hY hX hX0
        go_wp2_with fail
        refine (bring_c _ σ5 1000 g _ hS6.out.2 (by show (0 : Int) ≤ _; omega) 64 1073741824 (by decide)).mono ?_
        rintro e w7 ⟨he, σ7, H7, hc7⟩
        rw [W_bring ii hi1.1 T k HX0.out (by rw [HT.out]; exact HY.out.2), ← HY.out.1] at he
        rw [W_bring ii hi1.1 T k HX0.out (by rw [HT.out]; exact HY.out.2)] at H7
        subst he
        have hS7 := Lib.hid (And.intro (hS6.out.1.chg hc7 (by unfold Of; omega)) H7)
        clear H7 hc7 hS6
        go_wp2_with fail
        refine (under_n _ σ7 1000 g _ hS7.out.2 64 (by decide)).mono ?_
        rintro e w8 ⟨he, nq, rfl⟩
        rw [W_under] at he
        obtain rfl : e = .returned (.tuple #[.int .i64 (F), .int .i64 0]) := by
          rw [he]
          have h1 := HT.out
          have h2 := HY.out.2
          have h3 := HX.out
          rw [show ((T - k : Nat) : Int) + (k : Int) = F by omega]
        clear he
        go_wp2_with fail
        refine (moved_c _ σ7 1000 g _ (hS7.out.2.below (below_drewN (Below.refl _ _) nq))).mono ?_
        rintro e w9 ⟨he9, rfl⟩
        obtain rfl : e = .returned (.int .i64 Y) := by rw [he9, HY.out.1]
        clear he9
        go_wp2_with fail
        refine (head_c _).mono ?_
        rintro e w10 ⟨rfl, hb10⟩
        go_wp2
        go_ret
        exact ⟨rfl, (hS7.out.1.below (Below.then_ (below_drewN (Below.refl _ _) nq) (Nat.le_refl _) hb10)).bel⟩
      · exfalso; omega
    · have hSb : 0 ≤ S ∧ S ≤ 1048578 := by omega
      have hmk := make_i S (by omega) (by omega) w3
      obtain ⟨s, hs⟩ : ∃ s, Int.toNat S = s := ⟨_, rfl⟩
      rw [hs] at hmk
      have Hs := Lib.hid hs
      clear hs
      go_wp2_with fail
      have H5 := hS3.out.2.below ((Below.refl _ _).alloc (Nat.le_refl _) (.cells (madeCells #[.int .u8 0] s) 5))
      have S5 := hS3.out.1.below ((Below.refl _ _).alloc (Nat.le_refl _) (.cells (madeCells #[.int .u8 0] s) 5))
      refine (send_c _ σ3 1000 g _ H5 64 (by decide) (some ⟨w3.heap.size, 0, none⟩) s s (zeros s) (zeros_length _) (by have := Hs.out; omega) (by omega) (made_reads w3 _)).mono ?_
      rintro e w5 ⟨he, σ5, H6, hc5⟩
      rw [W_send, zeros_length, zeros_length, zeros_add] at he H6
      have S6 := S5.chg hc5 (by unfold Of; omega)
      clear S5 H5 hmk hc5
      obtain ⟨e2, T, h2, he2, H6'⟩ : ∃ (e2 : Int) (T : Nat), ((e2 = 0 ∧ (T : Int) = F + S ∧ F + S ≤ 1048576) ∨ (e2 = 2 ∧ (T : Int) = F ∧ ¬ F + S ≤ 1048576)) ∧ e = .returned (.int .i64 e2) ∧ NetAt w5 σ5 1000 g (W ii (zeros T)) := by
        have q1 := Hs.out
        have q2 := Ha.out
        by_cases hle : a + s ≤ 1048576
        · rw [if_pos hle] at he H6
          exact ⟨0, a + s, .inl ⟨rfl, by omega, by omega⟩, he, H6⟩
        · rw [if_neg hle] at he H6
          exact ⟨2, a, .inr ⟨rfl, by omega, by omega⟩, he, H6⟩
      subst he2
      have hS6 := Lib.hid (And.intro S6 H6')
      clear S6 H6 H6' hS3 he Hs
      rcases h2 with ⟨rfl, hT, h2⟩ | ⟨rfl, hT, h2⟩
      · obtain ⟨X, hX⟩ : ∃ X : Int, X = F + S := ⟨_, rfl⟩
        rw [← hX] at hT
        have HT := Lib.hid hT
        obtain ⟨k, hk⟩ : ∃ k : Nat, min ii X = (k : Int) := ⟨(min ii X).toNat, by omega⟩
        obtain ⟨Y, hY⟩ : ∃ Y, Y = (k : Int) := ⟨_, rfl⟩
        have hmin : min ii (F + S) = Y := by rw [← hX, hk, hY]
        have HY := Lib.hid (And.intro hY hk)
        have HX := Lib.hid hX
        have hX0 : T ≤ 1048576 := by omega
        have HX0 := Lib.hid hX0
        clear hT hk hY hX hX0
        go_wp2_with fail
        refine (bring_c _ σ5 1000 g _ hS6.out.2 (by show (0 : Int) ≤ _; omega) 64 1073741824 (by decide)).mono ?_
        rintro e w7 ⟨he, σ7, H7, hc7⟩
        rw [W_bring ii hi1.1 T k HX0.out (by rw [HT.out]; exact HY.out.2), ← HY.out.1] at he
        rw [W_bring ii hi1.1 T k HX0.out (by rw [HT.out]; exact HY.out.2)] at H7
        subst he
        have hS7 := Lib.hid (And.intro (hS6.out.1.chg hc7 (by unfold Of; omega)) H7)
        clear H7 hc7 hS6
        go_wp2_with fail
        refine (under_n _ σ7 1000 g _ hS7.out.2 64 (by decide)).mono ?_
        rintro e w8 ⟨he, nq, rfl⟩
        rw [W_under] at he
        obtain rfl : e = .returned (.tuple #[.int .i64 (F + S), .int .i64 0]) := by
          rw [he]
          have h1 := HT.out
          have h2 := HY.out.2
          have h3 := HX.out
          rw [show ((T - k : Nat) : Int) + (k : Int) = F + S by omega]
        clear he
        go_wp2_with fail
        refine (moved_c _ σ7 1000 g _ (hS7.out.2.below (below_drewN (Below.refl _ _) nq))).mono ?_
        rintro e w9 ⟨he9, rfl⟩
        obtain rfl : e = .returned (.int .i64 Y) := by rw [he9, HY.out.1]
        clear he9
        go_wp2_with fail
        refine (head_c _).mono ?_
        rintro e w10 ⟨rfl, hb10⟩
        go_wp2
        go_ret
        exact ⟨rfl, (hS7.out.1.below (Below.then_ (below_drewN (Below.refl _ _) nq) (Nat.le_refl _) hb10)).bel⟩
      · obtain ⟨X, hX⟩ : ∃ X : Int, X = F := ⟨_, rfl⟩
        rw [← hX] at hT
        have HT := Lib.hid hT
        obtain ⟨k, hk⟩ : ∃ k : Nat, min ii X = (k : Int) := ⟨(min ii X).toNat, by omega⟩
        obtain ⟨Y, hY⟩ : ∃ Y, Y = (k : Int) := ⟨_, rfl⟩
        have hmin : min ii (F) = Y := by rw [← hX, hk, hY]
        have HY := Lib.hid (And.intro hY hk)
        have HX := Lib.hid hX
        have hX0 : T ≤ 1048576 := by omega
        have HX0 := Lib.hid hX0
        clear hT hk hY hX hX0
        go_wp2_with fail
        refine (bring_c _ σ5 1000 g _ hS6.out.2 (by show (0 : Int) ≤ _; omega) 64 1073741824 (by decide)).mono ?_
        rintro e w7 ⟨he, σ7, H7, hc7⟩
        rw [W_bring ii hi1.1 T k HX0.out (by rw [HT.out]; exact HY.out.2), ← HY.out.1] at he
        rw [W_bring ii hi1.1 T k HX0.out (by rw [HT.out]; exact HY.out.2)] at H7
        subst he
        have hS7 := Lib.hid (And.intro (hS6.out.1.chg hc7 (by unfold Of; omega)) H7)
        clear H7 hc7 hS6
        go_wp2_with fail
        refine (under_n _ σ7 1000 g _ hS7.out.2 64 (by decide)).mono ?_
        rintro e w8 ⟨he, nq, rfl⟩
        rw [W_under] at he
        obtain rfl : e = .returned (.tuple #[.int .i64 (F), .int .i64 0]) := by
          rw [he]
          have h1 := HT.out
          have h2 := HY.out.2
          have h3 := HX.out
          rw [show ((T - k : Nat) : Int) + (k : Int) = F by omega]
        clear he
        go_wp2_with fail
        refine (moved_c _ σ7 1000 g _ (hS7.out.2.below (below_drewN (Below.refl _ _) nq))).mono ?_
        rintro e w9 ⟨he9, rfl⟩
        obtain rfl : e = .returned (.int .i64 Y) := by rw [he9, HY.out.1]
        clear he9
        go_wp2_with fail
        refine (head_c _).mono ?_
        rintro e w10 ⟨rfl, hb10⟩
        go_wp2
        go_ret
        exact ⟨rfl, (hS7.out.1.below (Below.then_ (below_drewN (Below.refl _ _) nq) (Nat.le_refl _) hb10)).bel⟩
  · have ha0 : (a : Int) = 0 := by omega
    have Ha := Lib.hid ha0
    clear h0 ha0
    go_wp2_with fail
    refine (within_i _ x1 3 (by omega) (by omega)).mono ?_
    rintro e w4 ⟨r, rfl, hr0, hr, rfl⟩
    obtain ⟨S, hS⟩ : ∃ S, r + 1048576 - 1 = S := ⟨_, rfl⟩
    have hS2 : r + 1048575 = S := by omega
    have hSb : 0 ≤ S ∧ S ≤ 1048578 := by omega
    have hneg : ¬ S < 0 := by omega
    have hmk := make_i S (by omega) (by omega) w3
    obtain ⟨s, hs⟩ : ∃ s, Int.toNat S = s := ⟨_, rfl⟩
    rw [hs] at hmk
    have Hs := Lib.hid hs
    clear hs
    go_wp2_with fail
    have H5 := hS3.out.2.below ((Below.refl _ _).alloc (Nat.le_refl _) (.cells (madeCells #[.int .u8 0] s) 5))
    have S5 := hS3.out.1.below ((Below.refl _ _).alloc (Nat.le_refl _) (.cells (madeCells #[.int .u8 0] s) 5))
    refine (send_c _ σ3 1000 g _ H5 64 (by decide) (some ⟨w3.heap.size, 0, none⟩) s s (zeros s) (zeros_length _) (by have := Hs.out; omega) (by omega) (made_reads w3 _)).mono ?_
    rintro e w5 ⟨he, σ5, H6, hc5⟩
    rw [W_send, zeros_length, zeros_length, zeros_add] at he H6
    have S6 := S5.chg hc5 (by unfold Of; omega)
    clear S5 H5 hmk hc5
    obtain ⟨e2, T, h2, he2, H6'⟩ : ∃ (e2 : Int) (T : Nat), ((e2 = 0 ∧ (T : Int) = S ∧ S ≤ 1048576) ∨ (e2 = 2 ∧ (T : Int) = 0 ∧ ¬ S ≤ 1048576)) ∧ e = .returned (.int .i64 e2) ∧ NetAt w5 σ5 1000 g (W ii (zeros T)) := by
      have q1 := Hs.out
      have q2 := Ha.out
      by_cases hle : a + s ≤ 1048576
      · rw [if_pos hle] at he H6
        exact ⟨0, a + s, .inl ⟨rfl, by omega, by omega⟩, he, H6⟩
      · rw [if_neg hle] at he H6
        exact ⟨2, a, .inr ⟨rfl, by omega, by omega⟩, he, H6⟩
    subst he2
    have hS6 := Lib.hid (And.intro S6 H6')
    clear S6 H6 H6' hS3 he Hs
    rcases h2 with ⟨rfl, hT, h2⟩ | ⟨rfl, hT, h2⟩
    · obtain ⟨X, hX⟩ : ∃ X : Int, X = S := ⟨_, rfl⟩
      rw [← hX] at hT
      have HT := Lib.hid hT
      obtain ⟨k, hk⟩ : ∃ k : Nat, min ii X = (k : Int) := ⟨(min ii X).toNat, by omega⟩
      obtain ⟨Y, hY⟩ : ∃ Y, Y = (k : Int) := ⟨_, rfl⟩
      have hmin : min ii (S) = Y := by rw [← hX, hk, hY]
      have HY := Lib.hid (And.intro hY hk)
      have HX := Lib.hid hX
      have hX0 : T ≤ 1048576 := by omega
      have HX0 := Lib.hid hX0
      clear hT hk hY hX hX0
      go_wp2_with fail
      refine (bring_c _ σ5 1000 g _ hS6.out.2 (by show (0 : Int) ≤ _; omega) 64 1073741824 (by decide)).mono ?_
      rintro e w7 ⟨he, σ7, H7, hc7⟩
      rw [W_bring ii hi1.1 T k HX0.out (by rw [HT.out]; exact HY.out.2), ← HY.out.1] at he
      rw [W_bring ii hi1.1 T k HX0.out (by rw [HT.out]; exact HY.out.2)] at H7
      subst he
      have hS7 := Lib.hid (And.intro (hS6.out.1.chg hc7 (by unfold Of; omega)) H7)
      clear H7 hc7 hS6
      go_wp2_with fail
      refine (under_n _ σ7 1000 g _ hS7.out.2 64 (by decide)).mono ?_
      rintro e w8 ⟨he, nq, rfl⟩
      rw [W_under] at he
      obtain rfl : e = .returned (.tuple #[.int .i64 (S), .int .i64 0]) := by
        rw [he]
        have h1 := HT.out
        have h2 := HY.out.2
        have h3 := HX.out
        rw [show ((T - k : Nat) : Int) + (k : Int) = S by omega]
      clear he
      go_wp2_with fail
      refine (moved_c _ σ7 1000 g _ (hS7.out.2.below (below_drewN (Below.refl _ _) nq))).mono ?_
      rintro e w9 ⟨he9, rfl⟩
      obtain rfl : e = .returned (.int .i64 Y) := by rw [he9, HY.out.1]
      clear he9
      go_wp2_with fail
      refine (head_c _).mono ?_
      rintro e w10 ⟨rfl, hb10⟩
      go_wp2
      go_ret
      exact ⟨rfl, (hS7.out.1.below (Below.then_ (below_drewN (Below.refl _ _) nq) (Nat.le_refl _) hb10)).bel⟩
    · obtain ⟨X, hX⟩ : ∃ X : Int, X = 0 := ⟨_, rfl⟩
      rw [← hX] at hT
      have HT := Lib.hid hT
      obtain ⟨k, hk⟩ : ∃ k : Nat, min ii X = (k : Int) := ⟨(min ii X).toNat, by omega⟩
      obtain ⟨Y, hY⟩ : ∃ Y, Y = (k : Int) := ⟨_, rfl⟩
      have hmin : min ii (0) = Y := by rw [← hX, hk, hY]
      have HY := Lib.hid (And.intro hY hk)
      have HX := Lib.hid hX
      have hX0 : T ≤ 1048576 := by omega
      have HX0 := Lib.hid hX0
      clear hT hk hY hX hX0
      go_wp2_with fail
      refine (bring_c _ σ5 1000 g _ hS6.out.2 (by show (0 : Int) ≤ _; omega) 64 1073741824 (by decide)).mono ?_
      rintro e w7 ⟨he, σ7, H7, hc7⟩
      rw [W_bring ii hi1.1 T k HX0.out (by rw [HT.out]; exact HY.out.2), ← HY.out.1] at he
      rw [W_bring ii hi1.1 T k HX0.out (by rw [HT.out]; exact HY.out.2)] at H7
      subst he
      have hS7 := Lib.hid (And.intro (hS6.out.1.chg hc7 (by unfold Of; omega)) H7)
      clear H7 hc7 hS6
      go_wp2_with fail
      refine (under_n _ σ7 1000 g _ hS7.out.2 64 (by decide)).mono ?_
      rintro e w8 ⟨he, nq, rfl⟩
      rw [W_under] at he
      obtain rfl : e = .returned (.tuple #[.int .i64 (0), .int .i64 0]) := by
        rw [he]
        have h1 := HT.out
        have h2 := HY.out.2
        have h3 := HX.out
        rw [show ((T - k : Nat) : Int) + (k : Int) = 0 by omega]
      clear he
      go_wp2_with fail
      refine (moved_c _ σ7 1000 g _ (hS7.out.2.below (below_drewN (Below.refl _ _) nq))).mono ?_
      rintro e w9 ⟨he9, rfl⟩
      obtain rfl : e = .returned (.int .i64 Y) := by rw [he9, HY.out.1]
      clear he9
      go_wp2_with fail
      refine (head_c _).mono ?_
      rintro e w10 ⟨rfl, hb10⟩
      go_wp2
      go_ret
      exact ⟨rfl, (hS7.out.1.below (Below.then_ (below_drewN (Below.refl _ _) nq) (Nat.le_refl _) hb10)).bel⟩
end Go.Proofs.Ytalabfbnbiagiaa.C
