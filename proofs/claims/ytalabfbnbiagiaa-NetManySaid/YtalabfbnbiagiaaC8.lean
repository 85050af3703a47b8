/-
  What Heard tells: of a connection that is neither cut nor closed.
-/
import Derived.Test.YtalabfbnbiagiaaC7
set_option linter.unusedVariables false
set_option linter.unusedSimpArgs false
namespace Go.Proofs.Ytalabfbnbiagiaa.C
open Go.RowKit Go.Proofs.Ytalabfbnbiagiaa.K


set_option maxRecDepth 100000 in
set_option maxHeartbeats 3200000 in
theorem heard_live (w : World) (σ : Nat → Nat) (t g : Nat) (N : NS) (ks : Nat → Nat) (h : NetIn w σ t g N ks) (hmv : N.mv ≤ 1099511627776) (d : Nat) (hw : (Lit.int .i64 (d : Int)).wf = true) (C : Cn) (hC : N.cs d = some C) (hx : C.cut = false) (hy : C.closed = false) :
    Calls Try.prog 25 #[.pointer (some ⟨g, 0, none⟩), .int .i64 (d : Int)] w fun e w' => ∃ v, e = .returned (.tuple #[v, .bool false]) ∧ Below w.heap.size w w' ∧ w'.ownsRow w.heap.size 5 1 v C.heard.length (bs C.heard) := by
  have hr0 : err N (d : Int) false = 0 := by
    have := h.good.is d C hC
    unfold err
    rw [if_neg (by omega), Int.toNat_natCast, hC]
    rfl
  have hg := get_c w σ t g N ks h (d : Int) hw 0 hr0 _ rfl
  simp only [if_true, Int.toNat_natCast] at hg
  obtain ⟨A0, c0, A1, c1, A2, c2, A3, c3, hcn⟩ := h.conn hC
  obtain ⟨kb, hkb⟩ : ∃ kb, ks d = kb := ⟨_, rfl⟩
  rw [hkb] at hg hcn
  have q4 := hcn.c4
  have q6 := hcn.c6
  have q7 := hcn.c7
  have q8 := hcn.c8
  rw [hy] at q7
  rw [hx] at q8
  have hhl := h.good.heard _ _ hC
  have hcl := clone_c w.drew A3 C.heard.length c3 C.heard rfl (by omega) (Reads.of_row hcn.heard.1)
  have hlt := hcn.blk.1.lt
  have kp : ∀ w', Below w.drew.heap.size w.drew w' → w'.cell? ⟨kb, 4, none⟩ = some (.slice A2 C.out.length c2) ∧ w'.cell? ⟨kb, 6, none⟩ = some (.slice A3 C.heard.length c3) ∧ w'.cell? ⟨kb, 7, none⟩ = some (.bool false) ∧ w'.cell? ⟨kb, 8, none⟩ = some (.bool false) := fun w' hb =>
    ⟨(hb.cell (p := ⟨kb, 4, none⟩) hlt).trans q4, (hb.cell (p := ⟨kb, 6, none⟩) hlt).trans q6, (hb.cell (p := ⟨kb, 7, none⟩) hlt).trans q7, (hb.cell (p := ⟨kb, 8, none⟩) hlt).trans q8⟩
  have Hcl := Lib.hid hcl
  obtain ⟨m, hm⟩ : ∃ m, C.out.length = m := ⟨_, rfl⟩
  rw [hm] at q4 kp
  have Kp := Lib.hid kp
  clear hcn h hC hr0 hkb hhl hcl hm hx hy kp
  go_enter Try.func25, Try.ntmps25
  go_wp2_with fail
  refine hg.mono ?_
  rintro e w1 ⟨rfl, rfl⟩
  go_wp2_with fail
  first
    | go_region_with ((go_at_call 44; refine Hcl.out.mono ?_; rintro e w2 ⟨v, rfl, hv, hb2⟩; obtain ⟨k4, k6, k7, k8⟩ := Kp.out w2 hb2; obtain ⟨V, cv, rfl⟩ := own_slice hv))
    | fail
  all_goals
    go_wp2
    go_ret2
    exact ⟨_, by first | rfl | simp, ⟨hb2.os, hb2.tape, hb2.output, hb2.size, hb2.block⟩, hv⟩
end Go.Proofs.Ytalabfbnbiagiaa.C
