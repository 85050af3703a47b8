/-
  The call of the law NetEnds.
-/
import Derived.Test.YtalabfbnbiagiaaOwn
import Derived.Test.YtalabfbnbiagiaaC8b
import Derived.Test.YtalabfbnbiagiaaC8c
set_option linter.unusedVariables false
set_option linter.unusedSimpArgs false
namespace Go.Proofs.Ytalabfbnbiagiaa.C
open Go.RowKit Go.Proofs.Ytalabfbnbiagiaa.K

section
variable {r m : Int} {d : Nat} {C : Cn}
theorem E_errf (hd : 1 ≤ d ∧ d ≤ 64) : err (E r d C m) (d : Int) false = 0 := by
  unfold err
  rw [if_neg (by omega), Int.toNat_natCast, E_cs]
  rfl
theorem E_dead (hd : 1 ≤ d ∧ d ≤ 64) (h : (C.cut || C.closed) = true) : err (E r d C m) (d : Int) true = 44 := by
  unfold err
  rw [if_neg (by omega), Int.toNat_natCast, E_cs]
  simp [h]
theorem E_close (hd : 1 ≤ d ∧ d ≤ 64) (hx : C.cut = false) (hy : C.closed = false) : (E r d C m).close (d : Int) = (0, E r d { C with closed := true, way := [], inb := [] } m) := by
  unfold NS.close
  rw [if_pos (E_err hd true hx hy), Int.toNat_natCast, E_cs]
  exact congrArg (Prod.mk (0 : Int)) (E_put _ m)
theorem E_cut (hd : 1 ≤ d ∧ d ≤ 64) (hx : C.cut = false) : (E r d C m).cut_ (d : Int) = (0, E r d { C with cut := true, way := [], inb := [], out := [] } m) := by
  unfold NS.cut_
  rw [if_pos (E_errf hd), Int.toNat_natCast, E_cs]
  simp only [hx]
  exact congrArg (Prod.mk (0 : Int)) (E_put _ m)
theorem E_cut2 (hd : 1 ≤ d ∧ d ≤ 64) (hx : C.cut = true) : (E r d C m).cut_ (d : Int) = (44, E r d C m) := by
  unfold NS.cut_
  rw [if_pos (E_errf hd), Int.toNat_natCast, E_cs]
  simp only [hx]
  rfl
theorem E_send0 (hd : 1 ≤ d ∧ d ≤ 64) (h : (C.cut || C.closed) = true) (L : List Int) : (E r d C m).send (d : Int) L = (44, E r d C m) := by
  unfold NS.send
  rw [E_dead hd h]
  rfl
theorem E_write0 (hd : 1 ≤ d ∧ d ≤ 64) (h : (C.cut || C.closed) = true) (L : List Int) : (E r d C m).write (d : Int) L = (0, 44, E r d C m) := by
  unfold NS.write
  rw [E_dead hd h]
  rfl
theorem E_take0 (hd : 1 ≤ d ∧ d ≤ 64) (h : (C.cut || C.closed) = true) : (E r d C m).take (d : Int) = ([], 44, E r d C m) := by
  unfold NS.take
  rw [E_dead hd h]
  rfl
theorem E_close0 (hd : 1 ≤ d ∧ d ≤ 64) (h : (C.cut || C.closed) = true) : (E r d C m).close (d : Int) = (44, E r d C m) := by
  unfold NS.close
  rw [E_dead hd h]
  rfl
theorem E_open0 (hd : 1 ≤ d ∧ d ≤ 64) : (E r d C m).open_ (d : Int) = (43, E r d C m) := by
  unfold NS.open_
  rw [E_errf hd]
  rfl
theorem E_is (hd : 1 ≤ d ∧ d ≤ 64) : (E r d C m).is_ (d : Int) = (!C.cut && !C.closed, C.cut) := by
  unfold NS.is_
  rw [if_pos (E_errf hd), Int.toNat_natCast, E_cs]
theorem E_under (hd : 1 ≤ d ∧ d ≤ 64) : (E r d C m).under (d : Int) = ((C.way.length : Int) + (C.inb.length : Int), (C.out.length : Int)) := by
  unfold NS.under
  rw [if_pos (E_errf hd), Int.toNat_natCast, E_cs]
theorem E_bringk (hd : 1 ≤ d ∧ d ≤ 64) (most : Int) (k : Nat) (hk : fit r C.inb.length (min most.toNat C.way.length) = k) : (E r d C m).bring (d : Int) most = ((k : Int), 0, E r d { C with inb := C.inb ++ C.way.take k, way := C.way.drop k } (m + (k : Int))) := by
  have hf : (E r d C m).brings C most = k := hk
  unfold NS.bring
  rw [if_pos (E_errf hd), Int.toNat_natCast, E_cs]
  simp only [hf]
  exact congrArg (fun x => ((k : Int), (0 : Int), x)) (E_put _ _)
theorem E_fetchk (hd : 1 ≤ d ∧ d ≤ 64) (most : Int) (k : Nat) (hk : min most.toNat C.out.length = k) : (E r d C m).fetch (d : Int) most = ((k : Int), 0, E r d { C with heard := C.heard ++ C.out.take k, out := C.out.drop k } (m + (k : Int))) := by
  have hf : fetches C most = k := hk
  unfold NS.fetch
  rw [if_pos (E_errf hd), Int.toNat_natCast, E_cs]
  simp only [hf]
  exact congrArg (fun x => ((k : Int), (0 : Int), x)) (E_put _ _)
end

/-- The connection behind the first calls: sent M, brought k1 of it, wrote B, fetched k of it. -/
def mid (M B : List Int) (k1 k : Nat) : Cn := ⟨M.drop k1, M.take k1, B.drop k, B.take k, false, false⟩

set_option maxRecDepth 100000 in
set_option maxHeartbeats 6400000 in
theorem ends_walk (w : World) (v0 : Value) (o0 : ∃ (A : Option Addr) (n c : Nat) (L : List Int), v0 = .slice A n c ∧ n ≤ c ∧ L.length = n ∧ Reads w A (bs L) ∧ n ≤ 140737488351232)
    (v1 : Value) (o1 : ∃ (A : Option Addr) (n c : Nat) (L : List Int), v1 = .slice A n c ∧ n ≤ c ∧ L.length = n ∧ Reads w A (bs L) ∧ n ≤ 140737488351232) (some_ : Int) (_h : (Lit.int .i64 some_).wf = true) (cut : Bool) :
    Calls Try.prog 10 #[v0, v1, .int .i64 some_, .bool cut] w fun e w' => e = .returned (.bool true) ∧ Below w.heap.size w w' := by
  obtain ⟨A, n, c, B, rfl, hnc, hB, hrB, hn⟩ := o0
  obtain ⟨A2, n2, c2, M, rfl, hnc2, hM, hrM, hn2⟩ := o1
  have HB := Lib.hid hB
  have HM := Lib.hid hM
  have HrB := Lib.hid hrB
  have HrM := Lib.hid hrM
  clear hB hM hrB hrM _h
  go_enter Try.func10, Try.ntmps10
  go_wp2_with fail
  refine (new_c w 50 50 (by decide) (fun _ => 0) 1000).mono ?_
  rintro e w1 ⟨g, rfl, hg1, hg2, hb1, H1⟩
  have S1 := (((St.first w).below hb1).upd (Nat.le_refl _) (1000 + 4))
  have hS1 := Lib.hid (And.intro S1 H1)
  clear S1 H1 hb1 hg1 hg2
  go_wp2_with fail
  refine (open_c w1 _ 1000 g _ hS1.out.2 ((2 : Nat) : Int) (by decide)).mono ?_
  rintro e w2 ⟨he, σ2, H2, hc2⟩
  rw [E_open (by omega)] at he H2
  subst he
  have hS2 := Lib.hid (And.intro (hS1.out.1.chg hc2 of1000_0) H2)
  clear H2 hc2 hS1
  by_cases hbig : n ≤ 50 ∧ n2 ≤ 50
  · obtain ⟨hb1, hb2⟩ := hbig
    have hb1' : ¬ (50 : Int) < (n : Int) := by omega
    have hb2' : ¬ (50 : Int) < (n2 : Int) := by omega
    go_wp2_with fail
    refine (send_c w2 σ2 1000 g _ hS2.out.2 ((2 : Nat) : Int) (by decide) A2 n2 c2 M HM.out hn2 hnc2 (Reads.below HrM.out hS2.out.1.bel)).mono ?_
    rintro e w3 ⟨he, σ3, H3, hc3⟩
    rw [E_send (by omega) rfl rfl M (by simp [HM.out]; omega)] at he H3
    subst he
    have hS3 := Lib.hid (And.intro (hS2.out.1.chg hc3 of1000_0) H3)
    clear H3 hc3 hS2
    obtain ⟨k1, hk1⟩ : ∃ k1, min some_.toNat n2 = k1 := ⟨_, rfl⟩
    obtain ⟨k, hk⟩ : ∃ k, min some_.toNat n = k := ⟨_, rfl⟩
    have hk1n : k1 ≤ n2 := by omega
    have hkn : k ≤ n := by omega
    have Hk1 := Lib.hid hk1
    have Hk := Lib.hid hk
    clear hk1 hk
    go_wp2_with fail
    refine (bring_c w3 σ3 1000 g _ hS3.out.2 (by show (0 : Int) ≤ _; omega) ((2 : Nat) : Int) some_ (by decide)).mono ?_
    rintro e w4 ⟨he, σ4, H4, hc4⟩
    rw [E_bringk (by omega) some_ k1 (by simp [HM.out, fit]; have := Hk1.out; omega)] at he H4
    subst he
    have hS4 := Lib.hid (And.intro (hS3.out.1.chg hc4 of1000_0) H4)
    clear H4 hc4 hS3
    go_wp2_with fail
    refine (write_c w4 σ4 1000 g _ hS4.out.2 ((2 : Nat) : Int) (by decide) A n c B HB.out (by omega) hnc (Reads.below HrB.out hS4.out.1.bel)).mono ?_
    rintro e w5 ⟨he, σ5, H5, hc5⟩
    rw [E_write (by omega) rfl rfl B (by simp [HB.out]; omega)] at he H5
    subst he
    have hS5 := Lib.hid (And.intro (hS4.out.1.chg hc5 of1000_0) H5)
    clear H5 hc5 hS4
    go_wp2_with fail
    refine (fetch_c w5 σ5 1000 g _ hS5.out.2 (by show (0 : Int) + (k1 : Int) ≤ _; omega) ((2 : Nat) : Int) some_ (by decide)).mono ?_
    rintro e w6 ⟨he, σ6, H6, hc6⟩
    rw [E_fetchk (by omega) some_ k (by simp [HB.out]; have := Hk.out; omega)] at he H6
    subst he
    have hS6 := Lib.hid (And.intro (hS5.out.1.chg hc6 of1000_0) (show NetAt w6 σ6 1000 g (E 50 2 (mid M B k1 k) ((0 : Int) + (k1 : Int) + (k : Int))) from H6))
    clear H6 hc6 hS5
    obtain ⟨mv, hmv0⟩ : ∃ mv : Int, (0 : Int) + (k1 : Int) + (k : Int) = mv := ⟨_, rfl⟩
    have hmv : 0 ≤ mv ∧ mv ≤ 1099511627776 - 100 := by omega
    rw [hmv0] at hS6
    clear hmv0
    have hw0 : IntKind.i64.wrap ((n : Int) - (k : Int)) = (n : Int) - (k : Int) := by rw [IntKind.wrap_i64]; omega
    have ht0 : (k : Int).toNat = k := by omega
    have hk0 : (0 : Int) ≤ (k : Int) := by omega
    have hkc : (k : Int) ≤ (c : Int) := by omega
    have hmv : 0 ≤ mv ∧ mv ≤ 1099511627776 := by omega
    rcases cut with _ | _
    · by_cases hkn' : k = n
      · have hkz : (k : Int) = (n : Int) := by omega
        have hkb : ((k : Int) == (n : Int)) = true := by simp; omega
        go_wp2_with fail
        refine (close_c w6 σ6 1000 g _ hS6.out.2 ((2 : Nat) : Int) (by decide)).mono ?_
        rintro e w7 ⟨he, σ7, H7, hc7⟩
        rw [E_close (by omega) rfl rfl] at he H7
        subst he
        have hS7 := Lib.hid (And.intro (hS6.out.1.chg hc7 of1000_0) (show NetAt w7 σ7 1000 g (E 50 2 ⟨[], [], B.drop k, B.take k, true, false⟩ mv) from H7))
        clear H7 hc7 hS6
        go_wp2_with fail
        refine (is_c w7 σ7 1000 g _ hS7.out.2 ((2 : Nat) : Int) (by decide)).mono ?_
        rintro e w8 ⟨he, q1, rfl⟩
        rw [E_is (by omega)] at he
        obtain rfl : e = .returned (.tuple #[.bool false, .bool false]) := he
        have hS8 := Lib.hid (And.intro (hS7.out.1.below (below_drewN (Below.refl _ _) q1)) (hS7.out.2.below (below_drewN (Below.refl _ _) q1)))
        clear hS7
        go_wp2_with fail
        refine (under_n _ σ7 1000 g _ hS8.out.2 ((2 : Nat) : Int) (by decide)).mono ?_
        rintro e w9 ⟨he, q2, rfl⟩
        rw [E_under (by omega)] at he
        obtain rfl : e = .returned (.tuple #[.int .i64 0, .int .i64 ((n : Int) - (k : Int))]) := by
          rw [he]
          have := HB.out
          rw [show ((([] : List Int).length : Nat) : Int) + ((([] : List Int).length : Nat) : Int) = 0 from rfl, show (((B.drop k).length : Nat) : Int) = (n : Int) - (k : Int) by rw [List.length_drop, HB.out]; omega]
        clear he
        have hS9 := Lib.hid (And.intro (hS8.out.1.below (below_drewN (Below.refl _ _) q2)) (hS8.out.2.below (below_drewN (Below.refl _ _) q2)))
        clear hS8
        generalize ((w7.drewN q1).drewN q2) = w9 at hS9 ⊢
        go_wp2_with fail
        obtain ⟨ks, hNks⟩ := hS9.out.2
        refine (heard_shut0 w9 σ7 1000 g _ ks hNks hmv.2 2 (by decide) ⟨[], [], B.drop k, B.take k, true, false⟩ E_cs rfl rfl (by simp [HB.out]; omega)).mono ?_
        rintro e w10 ⟨vh, rfl, hb10, hh10⟩
        clear hNks
        have hh11 : w10.ownsRow w9.heap.size 5 1 vh k (bs (B.take k)) := by have h1 := hh10; rw [show (B.take k).length = k by rw [List.length_take, HB.out]; omega] at h1; exact h1
        obtain ⟨Ah, ch, rfl⟩ := own_slice hh11
        have hq1 := conv_reads (w := w10.drew) (n := k) (cp := ch) (L := B.take k) (by rw [List.length_take, HB.out]; omega) (show Reads w10.drew Ah (bs (B.take k)) from Reads.of_row hh11)
        have hq4 := conv_reads (w := w10.drew) (n := n) (cp := ch) (L := B.take k) (by rw [List.length_take, HB.out]; omega) (show Reads w10.drew Ah (bs (B.take k)) from Reads.of_row hh11)
        have hS10 := Lib.hid (And.intro (hS9.out.1.below hb10) (hS9.out.2.below hb10))
        have hq2 := conv_reads (w := w10.drew) (n := k) (cp := c) (L := B.take k) (by rw [List.length_take, HB.out]; omega) (show Reads w10.drew A (bs (B.take k)) from by rw [bs_take]; exact (Reads.below HrB.out (below_drewN hS10.out.1.bel 1)).take k)
        have hq3 := conv_reads (w := w10.drew) (n := n) (cp := c) (L := B.take k) (by rw [List.length_take, HB.out]; omega) (show Reads w10.drew A (bs (B.take k)) from by rw [bs_take]; exact (Reads.below HrB.out (below_drewN hS10.out.1.bel 1)).take k)
        clear hh10 hh11 hb10 hS9
        go_wp2_with fail
        go_big_region
        have hS11 := Lib.hid (And.intro (hS10.out.1.below (below_drewN (Below.refl _ _) 1)) (hS10.out.2.below (below_drewN (Below.refl _ _) 1)))
        clear hS10 hq1 hq2
        go_wp2_with fail
        refine (take_n _ σ7 1000 g _ hS11.out.2 ((2 : Nat) : Int) (by decide)).mono ?_
        rintro e w12 ⟨vb, he, σ12, H12, hc12, -, -⟩
        rw [E_take0 (by omega) rfl] at he H12
        subst he
        have hS12 := Lib.hid (And.intro (hS11.out.1.chg hc12 of1000_0) H12)
        clear H12 hc12 hS11
        go_wp2_with fail
        refine (write_c w12 σ12 1000 g _ hS12.out.2 ((2 : Nat) : Int) (by decide) A n c B HB.out (by omega) hnc (Reads.below HrB.out hS12.out.1.bel)).mono ?_
        rintro e w13 ⟨he, σ13, H13, hc13⟩
        rw [E_write0 (by omega) rfl] at he H13
        subst he
        have hS13 := Lib.hid (And.intro (hS12.out.1.chg hc13 of1000_0) H13)
        clear H13 hc13 hS12
        go_wp2_with fail
        refine (send_c w13 σ13 1000 g _ hS13.out.2 ((2 : Nat) : Int) (by decide) A2 n2 c2 M HM.out hn2 hnc2 (Reads.below HrM.out hS13.out.1.bel)).mono ?_
        rintro e w14 ⟨he, σ14, H14, hc14⟩
        rw [E_send0 (by omega) rfl] at he H14
        subst he
        have hS14 := Lib.hid (And.intro (hS13.out.1.chg hc14 of1000_0) H14)
        clear H14 hc14 hS13
        go_wp2_with fail
        refine (close_c w14 σ14 1000 g _ hS14.out.2 ((2 : Nat) : Int) (by decide)).mono ?_
        rintro e w15 ⟨he, σ15, H15, hc15⟩
        rw [E_close0 (by omega) rfl] at he H15
        subst he
        have hS15 := Lib.hid (And.intro (hS14.out.1.chg hc15 of1000_0) H15)
        clear H15 hc15 hS14
        go_wp2_with fail
        refine (open_c w15 σ15 1000 g _ hS15.out.2 ((2 : Nat) : Int) (by decide)).mono ?_
        rintro e w16 ⟨he, σ16, H16, hc16⟩
        rw [E_open0 (by omega)] at he H16
        subst he
        have hS16 := Lib.hid (And.intro (hS15.out.1.chg hc16 of1000_0) H16)
        clear H16 hc16 hS15
        go_wp2_with fail
        refine (moved_c w16 σ16 1000 g _ hS16.out.2).mono ?_
        rintro e w17 ⟨he, rfl⟩
        obtain rfl : e = .returned (.int .i64 mv) := he
        go_wp2_with fail
        refine (bring_c w16 σ16 1000 g _ hS16.out.2 hmv.2 ((2 : Nat) : Int) 99 (by decide)).mono ?_
        rintro e w17 ⟨he, σ17, H17, hc17⟩
        rw [E_bringk (by omega) 99 0 (by simp [fit])] at he H17
        obtain rfl : e = .returned (.tuple #[.int .i64 0, .int .i64 0]) := he
        have hS17 := Lib.hid (And.intro (hS16.out.1.chg hc17 of1000_0) (show NetAt w17 σ17 1000 g (E 50 2 ⟨[], [], B.drop k, B.take k, true, false⟩ (mv + 0)) from H17))
        clear H17 hc17 hS16
        go_wp2_with fail
        refine (fetch_c w17 σ17 1000 g _ hS17.out.2 (by show mv + 0 ≤ _; have := hmv.2; omega) ((2 : Nat) : Int) 99 (by decide)).mono ?_
        rintro e w18 ⟨he, σ18, H18, hc18⟩
        rw [E_fetchk (by omega) 99 (n - k) (by simp [HB.out]; omega)] at he H18
        obtain rfl : e = .returned (.tuple #[.int .i64 ((n : Int) - (k : Int)), .int .i64 0]) := by
          rw [he]
          rw [show ((n - k : Nat) : Int) = (n : Int) - (k : Int) by omega]
        clear he
        have hS18 := Lib.hid (And.intro (hS17.out.1.chg hc18 of1000_0) (show NetAt w18 σ18 1000 g (E 50 2 ⟨[], [], [], B, true, false⟩ (mv + ((n : Int) - (k : Int)))) from by
          have h1 := H18
          rw [show ((n - k : Nat) : Int) = (n : Int) - (k : Int) by omega] at h1; simp only [Int.add_zero] at h1; rw [show (B.drop k).take (n - k) = B.drop k from List.take_of_length_le (by rw [List.length_drop, HB.out]; omega), show (B.drop k).drop (n - k) = [] from List.drop_of_length_le (by rw [List.length_drop, HB.out]; omega), List.take_append_drop] at h1; exact h1))
        clear H18 hc18 hS17
        go_wp2_with fail
        obtain ⟨ks, hNks⟩ := hS18.out.2
        refine (heard_shut0 w18 σ18 1000 g _ ks hNks (by show mv + ((n : Int) - (k : Int)) ≤ _; have := hmv.2; have := hmv.1; omega) 2 (by decide) ⟨[], [], [], B, true, false⟩ E_cs rfl rfl rfl).mono ?_
        rintro e w19 ⟨vh, rfl, hb19, hh19⟩
        clear hNks
        have hh20 : w19.ownsRow w18.heap.size 5 1 vh n (bs (B)) := by have h1 := hh19; rw [show (B).length = n by exact HB.out] at h1; exact h1
        obtain ⟨Ah2, ch2, rfl⟩ := own_slice hh20
        have hS19 := Lib.hid (And.intro (hS18.out.1.below hb19) (And.intro (hS18.out.2.below hb19) hh20))
        clear hh19 hh20 hb19 hS18
        go_wp2_with fail
        refine (moved_c w19 σ18 1000 g _ hS19.out.2.1).mono ?_
        rintro e w20 ⟨he, rfl⟩
        obtain rfl : e = .returned (.int .i64 (mv + ((n : Int) - (k : Int)))) := he

        have hq1 := conv_reads (w := w19) (n := n) (cp := ch2) (L := B) HB.out (Reads.of_row hS19.out.2.2)
        have hq2 := conv_reads (w := w19) (n := n) (cp := c) (L := B) HB.out (Reads.below HrB.out hS19.out.1.bel)
        go_wp2_with fail
        refine (cut_c w19 σ18 1000 g _ hS19.out.2.1 ((2 : Nat) : Int) (by decide)).mono ?_
        rintro e w21 ⟨he, σ21, H21, hc21⟩
        rw [E_cut (by omega) rfl] at he H21
        subst he
        have hS21 := Lib.hid (And.intro (hS19.out.1.chg hc21 of1000_0) H21)
        clear H21 hc21 hS19 hq1 hq2
        go_wp2_with fail
        refine (cut_c w21 σ21 1000 g _ hS21.out.2 ((2 : Nat) : Int) (by decide)).mono ?_
        rintro e w22 ⟨he, σ22, H22, hc22⟩
        rw [E_cut2 (by omega) rfl] at he H22
        subst he
        have hS22 := Lib.hid (And.intro (hS21.out.1.chg hc22 of1000_0) H22)
        clear H22 hc22 hS21
        go_wp2_with fail
        refine (head_c _).mono ?_
        rintro e w23 ⟨rfl, hb23⟩
        go_wp2
        go_ret
        exact ⟨rfl, (hS22.out.1.below hb23).bel⟩
      · have hkz : ¬ (k : Int) = (n : Int) := by omega
        have hkb : ((k : Int) == (n : Int)) = false := by simp; omega
        go_wp2_with fail
        refine (close_c w6 σ6 1000 g _ hS6.out.2 ((2 : Nat) : Int) (by decide)).mono ?_
        rintro e w7 ⟨he, σ7, H7, hc7⟩
        rw [E_close (by omega) rfl rfl] at he H7
        subst he
        have hS7 := Lib.hid (And.intro (hS6.out.1.chg hc7 of1000_0) (show NetAt w7 σ7 1000 g (E 50 2 ⟨[], [], B.drop k, B.take k, true, false⟩ mv) from H7))
        clear H7 hc7 hS6
        go_wp2_with fail
        refine (is_c w7 σ7 1000 g _ hS7.out.2 ((2 : Nat) : Int) (by decide)).mono ?_
        rintro e w8 ⟨he, q1, rfl⟩
        rw [E_is (by omega)] at he
        obtain rfl : e = .returned (.tuple #[.bool false, .bool false]) := he
        have hS8 := Lib.hid (And.intro (hS7.out.1.below (below_drewN (Below.refl _ _) q1)) (hS7.out.2.below (below_drewN (Below.refl _ _) q1)))
        clear hS7
        go_wp2_with fail
        refine (under_n _ σ7 1000 g _ hS8.out.2 ((2 : Nat) : Int) (by decide)).mono ?_
        rintro e w9 ⟨he, q2, rfl⟩
        rw [E_under (by omega)] at he
        obtain rfl : e = .returned (.tuple #[.int .i64 0, .int .i64 ((n : Int) - (k : Int))]) := by
          rw [he]
          have := HB.out
          rw [show ((([] : List Int).length : Nat) : Int) + ((([] : List Int).length : Nat) : Int) = 0 from rfl, show (((B.drop k).length : Nat) : Int) = (n : Int) - (k : Int) by rw [List.length_drop, HB.out]; omega]
        clear he
        have hS9 := Lib.hid (And.intro (hS8.out.1.below (below_drewN (Below.refl _ _) q2)) (hS8.out.2.below (below_drewN (Below.refl _ _) q2)))
        clear hS8
        generalize ((w7.drewN q1).drewN q2) = w9 at hS9 ⊢
        go_wp2_with fail
        obtain ⟨ks, hNks⟩ := hS9.out.2
        refine (heard_shut1 w9 σ7 1000 g _ ks hNks hmv.2 2 (by decide) ⟨[], [], B.drop k, B.take k, true, false⟩ E_cs rfl rfl (by simp [HB.out]; omega)).mono ?_
        rintro e w10 ⟨vh, rfl, hb10, hh10⟩
        clear hNks
        have hh11 : w10.ownsRow w9.heap.size 5 1 vh k (bs (B.take k)) := by have h1 := hh10; rw [show (B.take k).length = k by rw [List.length_take, HB.out]; omega] at h1; exact h1
        obtain ⟨Ah, ch, rfl⟩ := own_slice hh11
        have hq1 := conv_reads (w := w10.drew) (n := k) (cp := ch) (L := B.take k) (by rw [List.length_take, HB.out]; omega) (show Reads w10.drew Ah (bs (B.take k)) from Reads.of_row hh11)
        have hS10 := Lib.hid (And.intro (hS9.out.1.below hb10) (hS9.out.2.below hb10))
        have hq2 := conv_reads (w := w10.drew) (n := k) (cp := c) (L := B.take k) (by rw [List.length_take, HB.out]; omega) (show Reads w10.drew A (bs (B.take k)) from by rw [bs_take]; exact (Reads.below HrB.out (below_drewN hS10.out.1.bel 1)).take k)
        clear hh10 hh11 hb10 hS9
        go_wp2_with fail
        go_big_region
        have hS11 := Lib.hid (And.intro (hS10.out.1.below (below_drewN (Below.refl _ _) 1)) (hS10.out.2.below (below_drewN (Below.refl _ _) 1)))
        clear hS10 hq1 hq2
        go_wp2_with fail
        refine (take_n _ σ7 1000 g _ hS11.out.2 ((2 : Nat) : Int) (by decide)).mono ?_
        rintro e w12 ⟨vb, he, σ12, H12, hc12, -, -⟩
        rw [E_take0 (by omega) rfl] at he H12
        subst he
        have hS12 := Lib.hid (And.intro (hS11.out.1.chg hc12 of1000_0) H12)
        clear H12 hc12 hS11
        go_wp2_with fail
        refine (write_c w12 σ12 1000 g _ hS12.out.2 ((2 : Nat) : Int) (by decide) A n c B HB.out (by omega) hnc (Reads.below HrB.out hS12.out.1.bel)).mono ?_
        rintro e w13 ⟨he, σ13, H13, hc13⟩
        rw [E_write0 (by omega) rfl] at he H13
        subst he
        have hS13 := Lib.hid (And.intro (hS12.out.1.chg hc13 of1000_0) H13)
        clear H13 hc13 hS12
        go_wp2_with fail
        refine (send_c w13 σ13 1000 g _ hS13.out.2 ((2 : Nat) : Int) (by decide) A2 n2 c2 M HM.out hn2 hnc2 (Reads.below HrM.out hS13.out.1.bel)).mono ?_
        rintro e w14 ⟨he, σ14, H14, hc14⟩
        rw [E_send0 (by omega) rfl] at he H14
        subst he
        have hS14 := Lib.hid (And.intro (hS13.out.1.chg hc14 of1000_0) H14)
        clear H14 hc14 hS13
        go_wp2_with fail
        refine (close_c w14 σ14 1000 g _ hS14.out.2 ((2 : Nat) : Int) (by decide)).mono ?_
        rintro e w15 ⟨he, σ15, H15, hc15⟩
        rw [E_close0 (by omega) rfl] at he H15
        subst he
        have hS15 := Lib.hid (And.intro (hS14.out.1.chg hc15 of1000_0) H15)
        clear H15 hc15 hS14
        go_wp2_with fail
        refine (open_c w15 σ15 1000 g _ hS15.out.2 ((2 : Nat) : Int) (by decide)).mono ?_
        rintro e w16 ⟨he, σ16, H16, hc16⟩
        rw [E_open0 (by omega)] at he H16
        subst he
        have hS16 := Lib.hid (And.intro (hS15.out.1.chg hc16 of1000_0) H16)
        clear H16 hc16 hS15
        go_wp2_with fail
        refine (moved_c w16 σ16 1000 g _ hS16.out.2).mono ?_
        rintro e w17 ⟨he, rfl⟩
        obtain rfl : e = .returned (.int .i64 mv) := he
        go_wp2_with fail
        refine (bring_c w16 σ16 1000 g _ hS16.out.2 hmv.2 ((2 : Nat) : Int) 99 (by decide)).mono ?_
        rintro e w17 ⟨he, σ17, H17, hc17⟩
        rw [E_bringk (by omega) 99 0 (by simp [fit])] at he H17
        obtain rfl : e = .returned (.tuple #[.int .i64 0, .int .i64 0]) := he
        have hS17 := Lib.hid (And.intro (hS16.out.1.chg hc17 of1000_0) (show NetAt w17 σ17 1000 g (E 50 2 ⟨[], [], B.drop k, B.take k, true, false⟩ (mv + 0)) from H17))
        clear H17 hc17 hS16
        go_wp2_with fail
        refine (fetch_c w17 σ17 1000 g _ hS17.out.2 (by show mv + 0 ≤ _; have := hmv.2; omega) ((2 : Nat) : Int) 99 (by decide)).mono ?_
        rintro e w18 ⟨he, σ18, H18, hc18⟩
        rw [E_fetchk (by omega) 99 (n - k) (by simp [HB.out]; omega)] at he H18
        obtain rfl : e = .returned (.tuple #[.int .i64 ((n : Int) - (k : Int)), .int .i64 0]) := by
          rw [he]
          rw [show ((n - k : Nat) : Int) = (n : Int) - (k : Int) by omega]
        clear he
        have hS18 := Lib.hid (And.intro (hS17.out.1.chg hc18 of1000_0) (show NetAt w18 σ18 1000 g (E 50 2 ⟨[], [], [], B, true, false⟩ (mv + ((n : Int) - (k : Int)))) from by
          have h1 := H18
          rw [show ((n - k : Nat) : Int) = (n : Int) - (k : Int) by omega] at h1; simp only [Int.add_zero] at h1; rw [show (B.drop k).take (n - k) = B.drop k from List.take_of_length_le (by rw [List.length_drop, HB.out]; omega), show (B.drop k).drop (n - k) = [] from List.drop_of_length_le (by rw [List.length_drop, HB.out]; omega), List.take_append_drop] at h1; exact h1))
        clear H18 hc18 hS17
        go_wp2_with fail
        obtain ⟨ks, hNks⟩ := hS18.out.2
        refine (heard_shut0 w18 σ18 1000 g _ ks hNks (by show mv + ((n : Int) - (k : Int)) ≤ _; have := hmv.2; have := hmv.1; omega) 2 (by decide) ⟨[], [], [], B, true, false⟩ E_cs rfl rfl rfl).mono ?_
        rintro e w19 ⟨vh, rfl, hb19, hh19⟩
        clear hNks
        have hh20 : w19.ownsRow w18.heap.size 5 1 vh n (bs (B)) := by have h1 := hh19; rw [show (B).length = n by exact HB.out] at h1; exact h1
        obtain ⟨Ah2, ch2, rfl⟩ := own_slice hh20
        have hS19 := Lib.hid (And.intro (hS18.out.1.below hb19) (And.intro (hS18.out.2.below hb19) hh20))
        clear hh19 hh20 hb19 hS18
        go_wp2_with fail
        refine (moved_c w19 σ18 1000 g _ hS19.out.2.1).mono ?_
        rintro e w20 ⟨he, rfl⟩
        obtain rfl : e = .returned (.int .i64 (mv + ((n : Int) - (k : Int)))) := he

        have hq1 := conv_reads (w := w19) (n := n) (cp := ch2) (L := B) HB.out (Reads.of_row hS19.out.2.2)
        have hq2 := conv_reads (w := w19) (n := n) (cp := c) (L := B) HB.out (Reads.below HrB.out hS19.out.1.bel)
        go_wp2_with fail
        refine (cut_c w19 σ18 1000 g _ hS19.out.2.1 ((2 : Nat) : Int) (by decide)).mono ?_
        rintro e w21 ⟨he, σ21, H21, hc21⟩
        rw [E_cut (by omega) rfl] at he H21
        subst he
        have hS21 := Lib.hid (And.intro (hS19.out.1.chg hc21 of1000_0) H21)
        clear H21 hc21 hS19 hq1 hq2
        go_wp2_with fail
        refine (cut_c w21 σ21 1000 g _ hS21.out.2 ((2 : Nat) : Int) (by decide)).mono ?_
        rintro e w22 ⟨he, σ22, H22, hc22⟩
        rw [E_cut2 (by omega) rfl] at he H22
        subst he
        have hS22 := Lib.hid (And.intro (hS21.out.1.chg hc22 of1000_0) H22)
        clear H22 hc22 hS21
        go_wp2_with fail
        refine (head_c _).mono ?_
        rintro e w23 ⟨rfl, hb23⟩
        go_wp2
        go_ret
        exact ⟨rfl, (hS22.out.1.below hb23).bel⟩
    · go_wp2_with fail
      refine (cut_c w6 σ6 1000 g _ hS6.out.2 ((2 : Nat) : Int) (by decide)).mono ?_
      rintro e w7 ⟨he, σ7, H7, hc7⟩
      rw [E_cut (by omega) rfl] at he H7
      subst he
      have hS7 := Lib.hid (And.intro (hS6.out.1.chg hc7 of1000_0) (show NetAt w7 σ7 1000 g (E 50 2 ⟨[], [], [], B.take k, false, true⟩ mv) from H7))
      clear H7 hc7 hS6
      go_wp2_with fail
      refine (is_c w7 σ7 1000 g _ hS7.out.2 ((2 : Nat) : Int) (by decide)).mono ?_
      rintro e w8 ⟨he, q1, rfl⟩
      rw [E_is (by omega)] at he
      obtain rfl : e = .returned (.tuple #[.bool false, .bool true]) := he
      have hS8 := Lib.hid (And.intro (hS7.out.1.below (below_drewN (Below.refl _ _) q1)) (hS7.out.2.below (below_drewN (Below.refl _ _) q1)))
      clear hS7
      go_wp2_with fail
      refine (under_n _ σ7 1000 g _ hS8.out.2 ((2 : Nat) : Int) (by decide)).mono ?_
      rintro e w9 ⟨he, q2, rfl⟩
      rw [E_under (by omega)] at he
      obtain rfl : e = .returned (.tuple #[.int .i64 0, .int .i64 (0)]) := by
        rw [he]
        have := HB.out
        rfl
      clear he
      have hS9 := Lib.hid (And.intro (hS8.out.1.below (below_drewN (Below.refl _ _) q2)) (hS8.out.2.below (below_drewN (Below.refl _ _) q2)))
      clear hS8
      generalize ((w7.drewN q1).drewN q2) = w9 at hS9 ⊢
      go_wp2_with fail
      obtain ⟨ks, hNks⟩ := hS9.out.2
      refine (heard_cut0 w9 σ7 1000 g _ ks hNks hmv.2 2 (by decide) ⟨[], [], [], B.take k, false, true⟩ E_cs rfl rfl).mono ?_
      rintro e w10 ⟨vh, rfl, hb10, hh10⟩
      clear hNks
      have hh11 : w10.ownsRow w9.heap.size 5 1 vh k (bs (B.take k)) := by have h1 := hh10; rw [show (B.take k).length = k by rw [List.length_take, HB.out]; omega] at h1; exact h1
      obtain ⟨Ah, ch, rfl⟩ := own_slice hh11
      have hq1 := conv_reads (w := w10.drew) (n := k) (cp := ch) (L := B.take k) (by rw [List.length_take, HB.out]; omega) (show Reads w10.drew Ah (bs (B.take k)) from Reads.of_row hh11)
      have hS10 := Lib.hid (And.intro (hS9.out.1.below hb10) (hS9.out.2.below hb10))
      have hq2 := conv_reads (w := w10.drew) (n := k) (cp := c) (L := B.take k) (by rw [List.length_take, HB.out]; omega) (show Reads w10.drew A (bs (B.take k)) from by rw [bs_take]; exact (Reads.below HrB.out (below_drewN hS10.out.1.bel 1)).take k)
      clear hh10 hh11 hb10 hS9
      go_wp2_with fail
      go_big_region
      have hS11 := Lib.hid (And.intro (hS10.out.1.below (below_drewN (Below.refl _ _) 1)) (hS10.out.2.below (below_drewN (Below.refl _ _) 1)))
      clear hS10 hq1 hq2
      go_wp2_with fail
      refine (take_n _ σ7 1000 g _ hS11.out.2 ((2 : Nat) : Int) (by decide)).mono ?_
      rintro e w12 ⟨vb, he, σ12, H12, hc12, -, -⟩
      rw [E_take0 (by omega) rfl] at he H12
      subst he
      have hS12 := Lib.hid (And.intro (hS11.out.1.chg hc12 of1000_0) H12)
      clear H12 hc12 hS11
      go_wp2_with fail
      refine (write_c w12 σ12 1000 g _ hS12.out.2 ((2 : Nat) : Int) (by decide) A n c B HB.out (by omega) hnc (Reads.below HrB.out hS12.out.1.bel)).mono ?_
      rintro e w13 ⟨he, σ13, H13, hc13⟩
      rw [E_write0 (by omega) rfl] at he H13
      subst he
      have hS13 := Lib.hid (And.intro (hS12.out.1.chg hc13 of1000_0) H13)
      clear H13 hc13 hS12
      go_wp2_with fail
      refine (send_c w13 σ13 1000 g _ hS13.out.2 ((2 : Nat) : Int) (by decide) A2 n2 c2 M HM.out hn2 hnc2 (Reads.below HrM.out hS13.out.1.bel)).mono ?_
      rintro e w14 ⟨he, σ14, H14, hc14⟩
      rw [E_send0 (by omega) rfl] at he H14
      subst he
      have hS14 := Lib.hid (And.intro (hS13.out.1.chg hc14 of1000_0) H14)
      clear H14 hc14 hS13
      go_wp2_with fail
      refine (close_c w14 σ14 1000 g _ hS14.out.2 ((2 : Nat) : Int) (by decide)).mono ?_
      rintro e w15 ⟨he, σ15, H15, hc15⟩
      rw [E_close0 (by omega) rfl] at he H15
      subst he
      have hS15 := Lib.hid (And.intro (hS14.out.1.chg hc15 of1000_0) H15)
      clear H15 hc15 hS14
      go_wp2_with fail
      refine (open_c w15 σ15 1000 g _ hS15.out.2 ((2 : Nat) : Int) (by decide)).mono ?_
      rintro e w16 ⟨he, σ16, H16, hc16⟩
      rw [E_open0 (by omega)] at he H16
      subst he
      have hS16 := Lib.hid (And.intro (hS15.out.1.chg hc16 of1000_0) H16)
      clear H16 hc16 hS15
      go_wp2_with fail
      refine (moved_c w16 σ16 1000 g _ hS16.out.2).mono ?_
      rintro e w17 ⟨he, rfl⟩
      obtain rfl : e = .returned (.int .i64 mv) := he
      go_wp2_with fail
      refine (bring_c w16 σ16 1000 g _ hS16.out.2 hmv.2 ((2 : Nat) : Int) 99 (by decide)).mono ?_
      rintro e w17 ⟨he, σ17, H17, hc17⟩
      rw [E_bringk (by omega) 99 0 (by simp [fit])] at he H17
      obtain rfl : e = .returned (.tuple #[.int .i64 0, .int .i64 0]) := he
      have hS17 := Lib.hid (And.intro (hS16.out.1.chg hc17 of1000_0) (show NetAt w17 σ17 1000 g (E 50 2 ⟨[], [], [], B.take k, false, true⟩ (mv + 0)) from H17))
      clear H17 hc17 hS16
      go_wp2_with fail
      refine (fetch_c w17 σ17 1000 g _ hS17.out.2 (by show mv + 0 ≤ _; have := hmv.2; omega) ((2 : Nat) : Int) 99 (by decide)).mono ?_
      rintro e w18 ⟨he, σ18, H18, hc18⟩
      rw [E_fetchk (by omega) 99 0 (by simp [HB.out])] at he H18
      obtain rfl : e = .returned (.tuple #[.int .i64 (0), .int .i64 0]) := by
        rw [he]
        rfl
      clear he
      have hS18 := Lib.hid (And.intro (hS17.out.1.chg hc18 of1000_0) (show NetAt w18 σ18 1000 g (E 50 2 ⟨[], [], [], B.take k, false, true⟩ (mv + (0))) from by
        have h1 := H18
        simpa using h1))
      clear H18 hc18 hS17
      go_wp2_with fail
      obtain ⟨ks, hNks⟩ := hS18.out.2
      refine (heard_cut0 w18 σ18 1000 g _ ks hNks (by show mv + (0) ≤ _; have := hmv.2; have := hmv.1; omega) 2 (by decide) ⟨[], [], [], B.take k, false, true⟩ E_cs rfl rfl).mono ?_
      rintro e w19 ⟨vh, rfl, hb19, hh19⟩
      clear hNks
      have hh20 : w19.ownsRow w18.heap.size 5 1 vh k (bs (B.take k)) := by have h1 := hh19; rw [show (B.take k).length = k by rw [List.length_take, HB.out]; omega] at h1; exact h1
      obtain ⟨Ah2, ch2, rfl⟩ := own_slice hh20
      have R20 : Row w19 (upd σ18 w18.heap.size 0) 0 5 1 (.slice Ah2 k ch2) k (bs (B.take k)) := Row.fresh hh20 0
      have hS19 := Lib.hid (And.intro ((hS18.out.1.upd hS18.out.1.size 0).below hb19) (And.intro ((hS18.out.2.upd (Nat.le_refl _) 0).below hb19) R20))
      clear hh19 hh20 hb19 hS18 R20
      go_wp2_with fail
      refine (moved_c w19 _ 1000 g _ hS19.out.2.1).mono ?_
      rintro e w20 ⟨he, rfl⟩
      obtain rfl : e = .returned (.int .i64 (mv + (0))) := he
      have HKc : ∀ w', w'.ownsRow 0 5 1 (.slice Ah2 k ch2) k (bs (B.take k)) ∧ Below w.heap.size w w' → (convert 29 9 (.slice Ah2 k ch2)).run Try.prog w' = .ok (.string (str (B.take k))) w' ∧ (convert 29 9 (.slice A k c)).run Try.prog w' = .ok (.string (str (B.take k))) w' := fun w' h =>
        ⟨conv_reads (n := k) (cp := ch2) (L := B.take k) (by rw [List.length_take, HB.out]; omega) (Reads.of_row h.1), conv_reads (n := k) (cp := c) (L := B.take k) (by rw [List.length_take, HB.out]; omega) (by rw [bs_take]; exact (Reads.below HrB.out h.2).take k)⟩
      have HK := Lib.hid HKc
      clear HKc
      have hq0 := HK.out w19.drew ⟨own_below hS19.out.2.2.1 (below_drewN (Below.refl _ _) 1), (hS19.out.1.below (below_drewN (Below.refl _ _) 1)).bel⟩
      have hN20 := Lib.hid (hS19.out.2.1.below (below_drewN (Below.refl w19.heap.size w19) 1))
      go_wp2_with fail
      go_region_held3 (fun w' => (convert 29 9 (.slice Ah2 k ch2)).run Try.prog w' = .ok (.string (str (B.take k))) w' ∧ (convert 29 9 (.slice A k c)).run Try.prog w' = .ok (.string (str (B.take k))) w') (first | exact hq0 | assumption)
        (first
          | (go_at_call 30; refine (cut_c _ _ 1000 g _ hN20.out ((2 : Nat) : Int) (by decide)).mono ?_; rintro e w21 ⟨he, σ21, H21, hc21⟩; rw [E_cut2 (by omega) rfl] at he H21; subst he; have hc21' := (Chg.of_below (Of 1000) _ (below_drewN (Below.refl w19.heap.size w19) 1)).trans hc21; have hS21 := Lib.hid (And.intro (hS19.out.1.chg hc21' of1000_0) (hS19.out.2.2.chg hc21' of1000_0)); have hq21 := HK.out w21 ⟨hS21.out.2.1, hS21.out.1.bel⟩; clear hq0 hc21 hc21' H21)
          | (go_at_call 19; refine (head_c _).mono ?_; rintro e w23 ⟨rfl, hb23⟩; have hq23 := HK.out w23 ⟨own_below hS21.out.2.1 hb23, (hS21.out.1.below hb23).bel⟩))
      go_wp2
      go_ret
      exact ⟨rfl, (hS21.out.1.below hb23).bel⟩
  · have hcase : (50 : Int) < (n : Int) ∨ (¬ (50 : Int) < (n : Int) ∧ (50 : Int) < (n2 : Int)) := by omega
    have hsum : (50 : Int) < (n : Int) + (n2 : Int) := by omega
    rcases hcase with hc | ⟨hc, hc'⟩
    all_goals
      go_wp2_with fail
      refine (head_c _).mono ?_
      rintro e w5 ⟨rfl, hb5⟩
      go_wp2
      go_ret
      exact ⟨rfl, (hS2.out.1.below hb5).bel⟩
end Go.Proofs.Ytalabfbnbiagiaa.C
