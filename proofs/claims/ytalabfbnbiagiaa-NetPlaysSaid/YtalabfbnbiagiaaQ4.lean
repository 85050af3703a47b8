/-
  The document's net: Take, Send.
-/
import Derived.Test.YtalabfbnbiagiaaQ3
set_option linter.unusedVariables false
set_option linter.unusedSimpArgs false
namespace Go.Proofs.Ytalabfbnbiagiaa.C
open Go.RowKit Go.Proofs.Ytalabfbnbiagiaa.K

/-- One of a connection's rows, told anew. -/
def setF (C : Cn) (j : Nat) (L : List Int) : Cn := if j = 0 then { C with way := L } else if j = 1 then { C with inb := L } else if j = 2 then { C with out := L } else { C with heard := L }
theorem RefIn.lay {w w2 : World} {σ : Nat → Nat} {t g : Nat} {N : NS} {gl : Nat} {vv : Nat → Nat → Value} (h : RefIn w σ t g N gl vv) {d : Nat} (hd : 1 ≤ d ∧ d ≤ 64) {C : Cn} (hC : N.cs d = some C) (j : Nat) (hj : j < 4) (v : Value) (L : List Int) {m : Nat} (hm : L.length = m)
    (hb : Below w.heap.size w w2) (ho : w2.ownsRow w.heap.size 5 1 v m (bs L)) (g0 : (setF C j L).way.length ≤ 1048576) (g1 : ((setF C j L).inb.length : Int) ≤ N.i) (g2 : ((setF C j L).out.length : Int) ≤ N.o) (g3 : ((setF C j L).heard.length : Int) ≤ N.mv) :
    RefIn (w2.setCell ⟨gl, d * 7 + (3 + j), none⟩ v) (K.upd σ w.heap.size (t + 1)) t g (N.put d (setF C j L)) gl (fun c' j' => if c' = d ∧ j' = j then v else vv c' j') ∧ Chg (fun x => x = t + 2) σ w (K.upd σ w.heap.size (t + 1)) (w2.setCell ⟨gl, d * 7 + (3 + j), none⟩ v) := by
  rw [← hm] at ho
  have h1 := (h.upd (Nat.le_refl _) (t + 1)).below hb
  have cc : Chg (fun x => x = t + 2) (K.upd σ w.heap.size (t + 1)) w2 (K.upd σ w.heap.size (t + 1)) (w2.setCell ⟨gl, d * 7 + (3 + j), none⟩ v) := (Chg.refl _ _ w2).setCell (p := ⟨gl, d * 7 + (3 + j), none⟩) (.inl h1.tl) _
  have hr : Row w2 (K.upd σ w.heap.size (t + 1)) (t + 1) 5 1 v L.length (bs L) := Row.fresh ho (t + 1)
  have hcl : closedOf N d = C.closed := by unfold closedOf; rw [hC]
  have hcu : cutOf N d = C.cut := by unfold cutOf; rw [hC]
  have hs1 : (setF C j L).closed = C.closed := by rcases (show j = 0 ∨ j = 1 ∨ j = 2 ∨ j = 3 by omega) with rfl | rfl | rfl | rfl <;> rfl
  have hs2 : (setF C j L).cut = C.cut := by rcases (show j = 0 ∨ j = 1 ∨ j = 2 ∨ j = 3 by omega) with rfl | rfl | rfl | rfl <;> rfl
  have rw1 := (h1.row.set (d * 7 + (3 + j)) v).congr (g := lC (N.put d (setF C j L)) (fun c' j' => if c' = d ∧ j' = j then v else vv c' j')) (fun i _ => by
    rw [lC_put N vv _ d _ (fun c' hc' => by funext j'; rw [if_neg (fun e => hc' e.1)])]
    by_cases e : i / 7 = d
    · rw [if_pos e, hs1, hs2]
      have hi : i = d * 7 + i % 7 := by omega
      have h7 : i % 7 < 7 := Nat.mod_lt _ (by omega)
      generalize i % 7 = r at hi h7 ⊢
      subst hi
      rcases (show j = 0 ∨ j = 1 ∨ j = 2 ∨ j = 3 by omega) with rfl | rfl | rfl | rfl
      all_goals
        rcases (show r = 0 ∨ r = 1 ∨ r = 2 ∨ r = 3 ∨ r = 4 ∨ r = 5 ∨ r = 6 by omega) with rfl | rfl | rfl | rfl | rfl | rfl | rfl
        all_goals simp [lC0, lC1, lC2, lCv N vv d 0, lCv N vv d 1, lCv N vv d 2, lCv N vv d 3, hcl, hcu, hC]
    · rw [if_neg e, if_neg (show ¬ i = d * 7 + (3 + j) by omega)])
  have old : ∀ {j' : Nat} {n : Nat} {xs : List Value}, Row w2 (K.upd σ w.heap.size (t + 1)) (t + 1) 5 1 (vv d j') n xs → j' ≠ j → Row (w2.setCell ⟨gl, d * 7 + (3 + j), none⟩ v) (K.upd σ w.heap.size (t + 1)) (t + 1) 5 1 (if d = d ∧ j' = j then v else vv d j') n xs := fun h hne => by
    rw [if_neg (fun e => hne e.2)]
    exact h.chg cc (by omega)
  have new : Row (w2.setCell ⟨gl, d * 7 + (3 + j), none⟩ v) (K.upd σ w.heap.size (t + 1)) (t + 1) 5 1 (if d = d ∧ j = j then v else vv d j) L.length (bs L) := by
    rw [if_pos ⟨rfl, rfl⟩]
    exact hr.chg cc (by omega)
  refine ⟨h1.put_ hd (setF C j L) rw1 (fun c' hc' => by funext j'; rw [if_neg (fun e => hc' e.1)]) cc ?_ ?_ ?_ ?_ g0 g1 g2 g3, ((Chg.of_below _ _ hb).upd (Nat.le_refl _) (t + 1)).trans cc⟩
  all_goals rcases (show j = 0 ∨ j = 1 ∨ j = 2 ∨ j = 3 by omega) with rfl | rfl | rfl | rfl
  · exact new
  · exact old (h1.way d C hC) (by omega)
  · exact old (h1.way d C hC) (by omega)
  · exact old (h1.way d C hC) (by omega)
  · exact old (h1.inb d C hC) (by omega)
  · exact new
  · exact old (h1.inb d C hC) (by omega)
  · exact old (h1.inb d C hC) (by omega)
  · exact old (h1.out d C hC) (by omega)
  · exact old (h1.out d C hC) (by omega)
  · exact new
  · exact old (h1.out d C hC) (by omega)
  · exact old (h1.heard d C hC) (by omega)
  · exact old (h1.heard d C hC) (by omega)
  · exact old (h1.heard d C hC) (by omega)
  · exact new

set_option maxRecDepth 100000 in
set_option maxHeartbeats 1600000 in
theorem q_send (w : World) (σ : Nat → Nat) (t g : Nat) (N : NS) (hN : RefAt w σ t g N) (c : Int) (A : Option Addr) (n cp : Nat) (L : List Int) (hL : L.length = n) (hn : n ≤ 140737488351232) (hr : Reads w A (bs L)) :
    Calls Try.prog 46 #[.pointer (some ⟨g, 0, none⟩), .int .i64 c, .slice A n cp] w fun e w' => e = .returned (.int .i64 (N.send c L).1) ∧ ∃ σ', RefAt w' σ' t g (N.send c L).2 ∧ Chg (Od t) σ w σ' w' := by
  have hgo := q_gone w σ t g N hN c true
  obtain ⟨gl, vv, h⟩ := hN
  by_cases he : err N c true = 0
  · rw [he] at hgo
    obtain ⟨h1, h2, C, hC, hlive⟩ := err_some he
    obtain ⟨d, rfl⟩ := Int.eq_ofNat_of_zero_le (show 0 ≤ c by omega)
    rw [Int.toNat_natCast] at hC
    have hd : d < 65 := by omega
    have hs : N.send (d : Int) L = if C.way.length + L.length ≤ 1048576 then (0, N.put d { C with way := C.way ++ L }) else (2, N) := by
      simp only [NS.send, he, if_true, Int.toNat_natCast, hC]
    rw [hs, hL]
    obtain ⟨A0, p0, hv0⟩ := (h.way d C hC).slice
    obtain ⟨n0, hn0⟩ : ∃ x, C.way.length = x := ⟨_, rfl⟩
    rw [hn0] at hv0 ⊢
    have hw0 := h.good.way d C hC
    rw [hn0] at hw0
    have hF := fun W (hb : Below w.heap.size w W) => (show W.cell? ⟨g, 2, none⟩ = some (.slice (some ⟨gl, 0, none⟩) 65 65) ∧ W.cell? ⟨gl, d * 7 + 3, none⟩ = some (.slice A0 n0 p0) ∧ W.frozen? ⟨gl, d * 7 + 3, none⟩ = false from ⟨(h.below hb).c2, by rw [← hv0]; exact (h.below hb).lv hd 0 (by omega), (h.below hb).row.frozen _⟩)
    have hd0 : (0 : Int) ≤ (d : Int) := by omega
    have hd1 : (d : Int) < 65 := by omega
    have hgl : ¬ g = gl := by intro e; have h1' := h.blk.2; have h2' := h.tl; rw [e] at h1'; omega
    have hlg : ¬ gl = g := fun e => hgl e.symm
    have H := Lib.hid (And.intro h (And.intro hC (And.intro (show 1 ≤ d ∧ d ≤ 64 by omega) hn0)))
    have HL := Lib.hid (And.intro hL (And.intro hr hv0))
    have Hgo := Lib.hid hgo
    have HF := Lib.hid hF
    clear h hgo hF h1 h2 hC he hs hL hr hlive hv0 hn0
    by_cases hle : n0 + n ≤ 1048576
    · rw [if_pos hle]
      have hle' : ¬ (1048576 : Int) < (n0 : Int) + (n : Int) := by omega
      go_enter Try.func46, Try.ntmps46
      go_wp2_with fail
      refine Hgo.out.mono ?_
      rintro e w1 ⟨rfl, hb1⟩
      obtain ⟨c2, x3, hfz⟩ := HF.out w1 hb1
      have HB := Lib.hid hb1
      have HJ : Hid (∀ W, Below w1.heap.size w1 W → Calls Try.prog 63 #[.slice A0 n0 p0, .slice A n cp] W fun e w' => ∃ u, e = .returned u ∧ w'.ownsRow W.heap.size 5 1 u (n0 + n) (bs (C.way ++ L)) ∧ Below W.heap.size W w') := Lib.hid (fun W hb => q_join W A0 n0 p0 C.way H.out.2.2.2 (Reads.below (Reads.of_row (by have := (H.out.1.below HB.out).way d C H.out.2.1; rw [HL.out.2.2, H.out.2.2.2] at this; exact this.1)) hb) A n cp L HL.out.1 ((HL.out.2.1.below HB.out).below hb) (by omega))
      have HDR : Hid (Below w1.heap.size w1 w1.drew) := Lib.hid (Below.refl _ _).drew
      have KK : Hid (∀ w2, Below w1.drew.heap.size w1.drew w2 → w2.cell? ⟨g, 2, none⟩ = some (.slice (some ⟨gl, 0, none⟩) 65 65) ∧ w2.frozen? ⟨gl, d * 7 + 3, none⟩ = false ∧ w2.cell? ⟨gl, d * 7 + 3, none⟩ = some (.slice A0 n0 p0)) := Lib.hid (fun w2 hb2 => by
        obtain ⟨q1, q2, q3⟩ := HF.out w2 (Below.then_ HB.out HB.out.size (Below.then_ HDR.out (Nat.le_refl _) hb2))
        exact ⟨q1, q3, q2⟩)
      clear hb1
      go_upto_region 6 with fail
      go_cut [] (fun w' => ∃ σ', RefAt w' σ' t g (N.put d { C with way := C.way ++ L }) ∧ Chg (Od t) σ w1 σ' w')
      case first =>
        go_region_law (first | (rw [if_pos (by rfl)]; go_simp; go_at_call 63; refine (HJ.out _ HDR.out).mono ?_; rintro e w2 ⟨u, rfl, hu, hb2⟩; obtain ⟨Au, cu, rfl⟩ := own_slice hu; obtain ⟨kk2, kkf, kk3⟩ := KK.out w2 hb2) | fail)
        all_goals
          have hl := (H.out.1.below HB.out).lay H.out.2.2.1 H.out.2.1 0 (by omega) (.slice Au (n0 + n) cu) (C.way ++ L) (by rw [List.length_append, H.out.2.2.2, HL.out.1]) (Below.then_ HDR.out (Nat.le_refl _) hb2) hu (by show (C.way ++ L).length ≤ _; rw [List.length_append, H.out.2.2.2, HL.out.1]; exact hle) (by show (C.inb.length : Int) ≤ _; exact H.out.1.good.inb _ _ H.out.2.1) (by show (C.out.length : Int) ≤ _; exact H.out.1.good.out _ _ H.out.2.1) (by show (C.heard.length : Int) ≤ _; exact H.out.1.good.heard _ _ H.out.2.1)
          clear hu hb2 kk2 kkf kk3
          go_wp2_with fail
          go_meet
          case rel => exact ⟨_, ⟨_, _, hl.1⟩, hl.2.mono (fun x hx => by unfold Od; omega)⟩
      case rest =>
        rename World => w5
        obtain ⟨σ5, h5, c5⟩ := hcut
        go_wp2
        go_ret
        exact ⟨rfl, σ5, h5, (Chg.of_below _ _ HB.out).trans c5⟩
    · rw [if_neg hle]
      have hle' : (1048576 : Int) < (n0 : Int) + (n : Int) := by omega
      go_enter Try.func46, Try.ntmps46
      go_wp2_with fail
      refine Hgo.out.mono ?_
      rintro e w1 ⟨rfl, hb1⟩
      obtain ⟨c2, x3, hfz⟩ := HF.out w1 hb1
      go_wp2
      go_ret
      exact ⟨rfl, σ, ⟨gl, vv, H.out.1.below hb1⟩, Chg.of_below _ _ hb1⟩
  · have ho : N.send c L = (err N c true, N) := by unfold NS.send; rw [if_neg he]
    rw [ho]
    have he2 : (err N c true != 0) = true := by simpa using he
    generalize err N c true = r at hgo he2
    have Hgo := Lib.hid hgo
    have H := Lib.hid h
    clear h hgo he ho hr
    go_enter Try.func46, Try.ntmps46
    go_wp2_with fail
    refine Hgo.out.mono ?_
    rintro e w1 ⟨rfl, hb1⟩
    go_wp2
    go_ret
    exact ⟨rfl, σ, ⟨gl, vv, H.out.below hb1⟩, Chg.of_below _ _ hb1⟩
end Go.Proofs.Ytalabfbnbiagiaa.C
