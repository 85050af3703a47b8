/-
  NetPlays: both nets tell the same of a connection (told).
-/
import Derived.Test.YtalabfbnbiagiaaP1
import Derived.Test.YtalabfbnbiagiaaQ6
set_option linter.unusedVariables false
set_option linter.unusedSimpArgs false
namespace Go.Proofs.Ytalabfbnbiagiaa.C
open Go.RowKit Go.Proofs.Ytalabfbnbiagiaa.K

set_option maxRecDepth 100000 in
set_option maxHeartbeats 4000000 in
theorem told_both (w0 w : World) (σ : Nat → Nat) (g r : Nat) (N : NS) (h : PW w0 g r w σ N) (hmv : N.mv ≤ 1099511000000) (c : Int) (hw : (Lit.int .i64 c).wf = true) :
    Calls Try.prog 33 #[.pointer (some ⟨g, 0, none⟩), .pointer (some ⟨r, 0, none⟩), .int .i64 c] w fun e w' => e = .returned (.bool true) ∧ Below w.heap.size w w' := by
  have h1 := heard_c w σ 1000 g N h.a (by omega) c hw
  have h2 := fun W (hb : Below w.heap.size w W) => q_heard W σ 2000 r N (h.r.below hb) (by omega) c
  have h3 := fun W (hb : Below w.heap.size w W) => is_c W σ 1000 g N (h.a.below hb) c hw
  have h4 := fun W (hb : Below w.heap.size w W) => q_is_ W σ 2000 r N (h.r.below hb) c
  have h5 := fun W (hb : Below w.heap.size w W) => under_n W σ 1000 g N (h.a.below hb) c hw
  have h6 := fun W (hb : Below w.heap.size w W) => q_under W σ 2000 r N (h.r.below hb) c
  have h7 := fun W (hb : Below w.heap.size w W) => moved_c W σ 1000 g N (h.a.below hb)
  have h8 := fun W (hb : Below w.heap.size w W) => (show W.cell? ⟨r, 3, none⟩ = some (.int .i64 N.mv) from by
    obtain ⟨gl, vv, hR⟩ := h.r.below hb
    exact hR.c3)
  obtain ⟨M, hM⟩ : ∃ x, (N.heard_ c).1 = x := ⟨_, rfl⟩
  obtain ⟨b1, hb1⟩ : ∃ x, (N.heard_ c).2 = x := ⟨_, rfl⟩
  obtain ⟨b2, hb2⟩ : ∃ x, (N.is_ c).1 = x := ⟨_, rfl⟩
  obtain ⟨b3, hb3⟩ : ∃ x, (N.is_ c).2 = x := ⟨_, rfl⟩
  obtain ⟨u1, hu1⟩ : ∃ x, (N.under c).1 = x := ⟨_, rfl⟩
  obtain ⟨u2, hu2⟩ : ∃ x, (N.under c).2 = x := ⟨_, rfl⟩
  obtain ⟨mv, hm⟩ : ∃ x, N.mv = x := ⟨_, rfl⟩
  rw [hM, hb1] at h1
  simp only [hM, hb1] at h2
  simp only [hb2, hb3] at h3 h4
  simp only [hu1, hu2] at h5 h6
  simp only [hm] at h7 h8
  have H1 := Lib.hid h1
  have H2 := Lib.hid h2
  have H3 := Lib.hid h3
  have H4 := Lib.hid h4
  have H5 := Lib.hid h5
  have H6 := Lib.hid h6
  have H7 := Lib.hid h7
  have H8 := Lib.hid h8
  clear h h1 h2 h3 h4 h5 h6 h7 h8 hM hb1 hb2 hb3 hu1 hu2 hm hmv hw
  go_enter Try.func33, Try.ntmps33
  go_wp2_with fail
  refine H1.out.mono ?_
  rintro e w1 ⟨v, rfl, hB1, ho⟩
  obtain ⟨Av, cv, rfl⟩ := own_slice ho
  have HW1 := Lib.hid (And.intro hB1 ho)
  clear hB1 ho
  go_wp2_with fail
  refine (H2.out _ HW1.out.1).mono ?_
  rintro e w2 ⟨v, rfl, hB2, ho⟩
  obtain ⟨Au, cu, rfl⟩ := own_slice ho
  have HW2 := Lib.hid (And.intro (Below.then_ HW1.out.1 HW1.out.1.size hB2) (And.intro (Reads.below (Reads.of_row HW1.out.2) hB2) (Reads.of_row ho)))
  clear hB2 ho
  go_wp2_with fail
  refine (H3.out _ HW2.out.1).mono ?_
  rintro e w3 ⟨rfl, n3, rfl⟩
  have HW3 := Lib.hid (below_drewN HW2.out.1 n3)
  have HS3 := Lib.hid (show Below w2.heap.size w2 (w2.drewN n3) from below_drewN (Below.refl _ _) n3)
  generalize w2.drewN n3 = w3 at HW3 HS3 ⊢
  go_wp2_with fail
  refine (H4.out _ HW3.out).mono ?_
  rintro e w4 ⟨rfl, hB4⟩
  have HW4 := Lib.hid (And.intro (Below.then_ HW3.out HW3.out.size hB4) (Below.then_ HS3.out HS3.out.size hB4))
  clear hB4
  go_wp2_with fail
  refine (H5.out _ HW4.out.1).mono ?_
  rintro e w5 ⟨rfl, n5, rfl⟩
  have HW5 := Lib.hid (And.intro (below_drewN HW4.out.1 n5) (below_drewN HW4.out.2 n5))
  generalize w4.drewN n5 = w5 at HW5 ⊢
  go_wp2_with fail
  refine (H6.out _ HW5.out.1).mono ?_
  rintro e w6 ⟨rfl, hB6⟩
  have HW6 := Lib.hid (And.intro (Below.then_ HW5.out.1 HW5.out.1.size hB6) (Below.then_ HW5.out.2 HW5.out.2.size hB6))
  clear hB6
  have k0 := H8.out w6 HW6.out.1
  have k1 := conv_reads (w := w6.drew) (n := M.length) (cp := cv) rfl (HW2.out.2.1.below HW6.out.2.drew)
  have k2 := conv_reads (w := w6.drew) (n := M.length) (cp := cu) rfl (HW2.out.2.2.below HW6.out.2.drew)
  have HD := Lib.hid HW6.out.1.drew
  clear H1 H2 H3 H4 H5 H6 H8 HW1 HW2 HW3 HS3 HW4 HW5
  go_upto_region 7 with fail
  go_region_held3 (fun w' => w' = w6.drew) (first | rfl | assumption) ((go_at_call 18; refine (H7.out _ HD.out).mono ?_; rintro e w7 ⟨rfl, rfl⟩))
  go_wp2
  go_ret
  exact ⟨by first | rfl | simp, HD.out⟩
end Go.Proofs.Ytalabfbnbiagiaa.C
