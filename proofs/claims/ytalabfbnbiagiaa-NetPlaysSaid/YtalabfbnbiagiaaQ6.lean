/-
  The document's net: Heard.
-/
import Derived.Test.YtalabfbnbiagiaaQ5
set_option linter.unusedVariables false
set_option linter.unusedSimpArgs false
namespace Go.Proofs.Ytalabfbnbiagiaa.C
open Go.RowKit Go.Proofs.Ytalabfbnbiagiaa.K
attribute [local go_sem] undef

set_option maxRecDepth 100000 in
set_option maxHeartbeats 16000000 in
theorem q_heard (w : World) (σ : Nat → Nat) (t g : Nat) (N : NS) (hN : RefAt w σ t g N) (hmv : N.mv ≤ 1099511627776) (c : Int) :
    Calls Try.prog 53 #[.pointer (some ⟨g, 0, none⟩), .int .i64 c] w fun e w' => ∃ v, e = .returned (.tuple #[v, .bool (N.heard_ c).2]) ∧ Below w.heap.size w w' ∧ w'.ownsRow w.heap.size 5 1 v (N.heard_ c).1.length (bs (N.heard_ c).1) := by
  obtain ⟨gl, vv, h⟩ := hN
  by_cases hc : 1 ≤ c ∧ c ≤ 64
  · obtain ⟨d, rfl⟩ := Int.eq_ofNat_of_zero_le (show 0 ≤ c by omega)
    have hd : d < 65 := by omega
    have hq := fun W => q_is W (d : Int)
    simp only [decide_eq_true hc] at hq
    have Hq := Lib.hid hq
    have hd0 : (0 : Int) ≤ (d : Int) := by omega
    have hd1 : (d : Int) < 65 := by omega
    have he : N.heard_ (d : Int) = match N.cs d with | none => ([], false) | some C => (C.heard, C.cut || (C.closed && decide (C.out.length = 0))) := by
      unfold NS.heard_ err
      rw [if_neg (show ¬ ((d : Int) < 1 ∨ 64 < (d : Int)) by omega), Int.toNat_natCast]
      rcases N.cs d with _ | C
      · rfl
      · simp
    have x0 : w.cell? ⟨gl, d * 7, none⟩ = some (.bool (N.cs d).isSome) := h.l0 hd
    have c2 := h.c2
    rcases hC : N.cs d with _ | C
    · rw [hC] at he x0
      rw [show N.heard_ (d : Int) = ([], false) from he]
      simp only [Option.isSome_none] at x0
      clear h he hc hq hC
      go_enter Try.func53, Try.ntmps53
      go_wp2_with fail
      refine (Hq.out w).mono ?_
      rintro e w1 ⟨rfl, rfl⟩
      go_wp2
      go_ret2
      exact ⟨_, rfl, Below.refl _ _, World.ownsRow_nil _ _ _ _⟩
    · rw [hC] at he x0
      rw [show N.heard_ (d : Int) = (C.heard, C.cut || (C.closed && decide (C.out.length = 0))) from he]
      simp only [Option.isSome_some] at x0
      obtain ⟨A0, p0, hv0⟩ := (h.way d C hC).slice
      obtain ⟨A1, p1, hv1⟩ := (h.inb d C hC).slice
      obtain ⟨A2, p2, hv2⟩ := (h.out d C hC).slice
      obtain ⟨A3, p3, hv3⟩ := (h.heard d C hC).slice
      obtain ⟨n0, hn0⟩ : ∃ x, C.way.length = x := ⟨_, rfl⟩
      obtain ⟨n1, hn1⟩ : ∃ x, C.inb.length = x := ⟨_, rfl⟩
      obtain ⟨n2, hn2⟩ : ∃ x, C.out.length = x := ⟨_, rfl⟩
      obtain ⟨n3, hn3⟩ : ∃ x, C.heard.length = x := ⟨_, rfl⟩
      rw [hn0] at hv0
      rw [hn1] at hv1
      rw [hn2] at hv2
      rw [hn3] at hv3
      rw [hn2, hn3]
      have x1 : w.cell? ⟨gl, d * 7 + 1, none⟩ = some (.bool C.closed) := by rw [h.l1 hd]; unfold closedOf; rw [hC]
      have x2 : w.cell? ⟨gl, d * 7 + 2, none⟩ = some (.bool C.cut) := by rw [h.l2 hd]; unfold cutOf; rw [hC]
      have x3 : w.cell? ⟨gl, d * 7 + 3, none⟩ = some (.slice A0 n0 p0) := by rw [← hv0]; exact h.lv hd 0 (by omega)
      have x4 : w.cell? ⟨gl, d * 7 + 4, none⟩ = some (.slice A1 n1 p1) := by rw [← hv1]; exact h.lv hd 1 (by omega)
      have x5 : w.cell? ⟨gl, d * 7 + 5, none⟩ = some (.slice A2 n2 p2) := by rw [← hv2]; exact h.lv hd 2 (by omega)
      have x6 : w.cell? ⟨gl, d * 7 + 6, none⟩ = some (.slice A3 n3 p3) := by rw [← hv3]; exact h.lv hd 3 (by omega)
      have hn3b : n3 ≤ 1099511627776 := by have := h.good.heard d C hC; omega
      have hrd : Reads w A3 (bs C.heard) := by have := (h.heard d C hC).1; rw [hv3, hn3] at this; exact Reads.of_row this
      generalize C.closed = b1 at x1 ⊢
      generalize C.cut = b2 at x2 ⊢
      have HJ : Hid (∀ W, Below w.heap.size w W → Calls Try.prog 63 #[.slice A3 n3 p3, .slice none 0 0] W fun e w' => ∃ u, e = .returned u ∧ w'.ownsRow W.heap.size 5 1 u n3 (bs C.heard) ∧ Below W.heap.size W w') := Lib.hid (fun W hb => by
        have := q_join W A3 n3 p3 C.heard hn3 (hrd.below hb) none 0 0 [] rfl (Reads.nil _ _) (by omega)
        rwa [List.append_nil] at this)
      clear h he hc hq hC hv0 hv1 hv2 hv3 hn0 hn1 hn2 hn3 hrd
      have hal : Below w.heap.size w (w.alloc (.cells #[.bool true, .bool b1, .bool b2, .slice A0 n0 p0, .slice A1 n1 p1, .slice A2 n2 p2, .slice A3 n3 p3] 104)) := (Below.refl _ _).alloc (Nat.le_refl _) _
      have hbl := Blk.new w 104 #[.bool true, .bool b1, .bool b2, .slice A0 n0 p0, .slice A1 n1 p1, .slice A2 n2 p2, .slice A3 n3 p3]
      have Hal := Lib.hid (And.intro hal hbl)
      clear hal hbl
      by_cases h0 : n2 = 0
      · subst h0
        rw [show decide ((0 : Nat) = 0) = true from rfl]
        rcases b1 with _ | _ <;> rcases b2 with _ | _
        all_goals as_aux_lemma =>
          go_enter Try.func53, Try.ntmps53
          go_wp2_with fail
          refine (Hq.out w).mono ?_
          rintro e w1 ⟨rfl, rfl⟩
          go_upto_region 4 with fail
          generalize hw3 : w.alloc (.cells #[.bool true, .bool _, .bool _, .slice A0 n0 p0, .slice A1 n1 p1, .slice A2 0 p2, .slice A3 n3 p3] 104) = w3 at Hal ⊢
          clear hw3
          have hsz : w.heap.size ≤ w3.heap.size := Hal.out.1.size
          have hx0 := Hal.out.2.lt
          have KP : Hid (∀ w', Below w3.drew.heap.size w3.drew w' → w'.cell? ⟨w.heap.size, 1, none⟩ = w3.cell? ⟨w.heap.size, 1, none⟩ ∧ w'.cell? ⟨w.heap.size, 2, none⟩ = w3.cell? ⟨w.heap.size, 2, none⟩ ∧ w'.cell? ⟨w.heap.size, 5, none⟩ = w3.cell? ⟨w.heap.size, 5, none⟩ ∧ w'.cell? ⟨w.heap.size, 6, none⟩ = w3.cell? ⟨w.heap.size, 6, none⟩) := Lib.hid (fun w' hb => ⟨hb.cell (p := ⟨w.heap.size, 1, none⟩) hx0, hb.cell (p := ⟨w.heap.size, 2, none⟩) hx0, hb.cell (p := ⟨w.heap.size, 5, none⟩) hx0, hb.cell (p := ⟨w.heap.size, 6, none⟩) hx0⟩)
          have k1 := Hal.out.2.cell 1
          have k2 := Hal.out.2.cell 2
          have k5 := Hal.out.2.cell 5
          have k6 := Hal.out.2.cell 6
          simp only [List.getElem?_toArray, List.getElem?_cons_zero, List.getElem?_cons_succ] at k1 k2 k5 k6
          have HJ2 := Lib.hid (HJ.out w3.drew (Below.then_ Hal.out.1 Hal.out.1.size (Below.refl _ _).drew))
          clear hx0 hsz HJ
          go_wp2_with fail
          first
            | go_region_with ((go_at_call 63; refine HJ2.out.mono ?_; rintro e w2 ⟨v, rfl, hv, hb2⟩; obtain ⟨q1, q2, q5, q6⟩ := KP.out w2 hb2; rw [k1] at q1; rw [k2] at q2; rw [k5] at q5; rw [k6] at q6; obtain ⟨V, cv, rfl⟩ := own_slice hv))
            | fail
          all_goals
            go_wp2
            go_ret2
            have hb3 := Below.then_ Hal.out.1 Hal.out.1.size (Below.then_ ((Below.refl w3.heap.size w3).drew) (Nat.le_refl _) hb2)
            exact ⟨_, by first | rfl | simp, hb3, own_mono hv Hal.out.1.size⟩
      · have d0 : decide (n2 = 0) = false := by simp [h0]
        rw [d0]
        have z0 : ((n2 : Int) == 0) = false := by simp; omega
        rcases b1 with _ | _ <;> rcases b2 with _ | _
        all_goals as_aux_lemma =>
          go_enter Try.func53, Try.ntmps53
          go_wp2_with fail
          refine (Hq.out w).mono ?_
          rintro e w1 ⟨rfl, rfl⟩
          go_upto_region 4 with fail
          generalize hw3 : w.alloc (.cells #[.bool true, .bool _, .bool _, .slice A0 n0 p0, .slice A1 n1 p1, .slice A2 n2 p2, .slice A3 n3 p3] 104) = w3 at Hal ⊢
          clear hw3
          have hsz : w.heap.size ≤ w3.heap.size := Hal.out.1.size
          have hx0 := Hal.out.2.lt
          have KP : Hid (∀ w', Below w3.drew.heap.size w3.drew w' → w'.cell? ⟨w.heap.size, 1, none⟩ = w3.cell? ⟨w.heap.size, 1, none⟩ ∧ w'.cell? ⟨w.heap.size, 2, none⟩ = w3.cell? ⟨w.heap.size, 2, none⟩ ∧ w'.cell? ⟨w.heap.size, 5, none⟩ = w3.cell? ⟨w.heap.size, 5, none⟩ ∧ w'.cell? ⟨w.heap.size, 6, none⟩ = w3.cell? ⟨w.heap.size, 6, none⟩) := Lib.hid (fun w' hb => ⟨hb.cell (p := ⟨w.heap.size, 1, none⟩) hx0, hb.cell (p := ⟨w.heap.size, 2, none⟩) hx0, hb.cell (p := ⟨w.heap.size, 5, none⟩) hx0, hb.cell (p := ⟨w.heap.size, 6, none⟩) hx0⟩)
          have k1 := Hal.out.2.cell 1
          have k2 := Hal.out.2.cell 2
          have k5 := Hal.out.2.cell 5
          have k6 := Hal.out.2.cell 6
          simp only [List.getElem?_toArray, List.getElem?_cons_zero, List.getElem?_cons_succ] at k1 k2 k5 k6
          have HJ2 := Lib.hid (HJ.out w3.drew (Below.then_ Hal.out.1 Hal.out.1.size (Below.refl _ _).drew))
          clear hx0 hsz HJ
          go_wp2_with fail
          first
            | go_region_with ((go_at_call 63; refine HJ2.out.mono ?_; rintro e w2 ⟨v, rfl, hv, hb2⟩; obtain ⟨q1, q2, q5, q6⟩ := KP.out w2 hb2; rw [k1] at q1; rw [k2] at q2; rw [k5] at q5; rw [k6] at q6; obtain ⟨V, cv, rfl⟩ := own_slice hv))
            | fail
          all_goals
            go_wp2
            go_ret2
            have hb3 := Below.then_ Hal.out.1 Hal.out.1.size (Below.then_ ((Below.refl w3.heap.size w3).drew) (Nat.le_refl _) hb2)
            exact ⟨_, by first | rfl | simp, hb3, own_mono hv Hal.out.1.size⟩
  · have he : N.heard_ c = ([], false) := by
      unfold NS.heard_ err
      rw [if_pos (show c < 1 ∨ 64 < c by omega)]
      rfl
    rw [he]
    have hq := fun W => q_is W c
    simp only [decide_eq_false hc] at hq
    have Hq := Lib.hid hq
    clear h hc he hq
    go_enter Try.func53, Try.ntmps53
    go_wp2_with fail
    refine (Hq.out w).mono ?_
    rintro e w1 ⟨rfl, rfl⟩
    go_wp2
    go_ret2
    exact ⟨_, rfl, Below.refl _ _, World.ownsRow_nil _ _ _ _⟩
end Go.Proofs.Ytalabfbnbiagiaa.C
