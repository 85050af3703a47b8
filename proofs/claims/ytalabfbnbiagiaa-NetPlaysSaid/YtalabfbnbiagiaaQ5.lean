/-
  The document's net: Take, Under, Heard.
-/
import Derived.Test.YtalabfbnbiagiaaQ4
set_option linter.unusedVariables false
set_option linter.unusedSimpArgs false
namespace Go.Proofs.Ytalabfbnbiagiaa.C
open Go.RowKit Go.Proofs.Ytalabfbnbiagiaa.K

set_option maxRecDepth 100000 in
set_option maxHeartbeats 1600000 in
theorem q_take (w : World) (σ : Nat → Nat) (t g : Nat) (N : NS) (hN : RefAt w σ t g N) (c : Int) :
    Calls Try.prog 48 #[.pointer (some ⟨g, 0, none⟩), .int .i64 c] w fun e w' => ∃ A n cp, e = .returned (.tuple #[.slice A n cp, .int .i64 (N.take c).2.1]) ∧ n ≤ cp ∧ (N.take c).1.length = n ∧ Reads w' A (bs (N.take c).1) ∧ ∃ σ', RefAt w' σ' t g (N.take c).2.2 ∧ Chg (Od t) σ w σ' w' := by
  have hgo := q_gone w σ t g N hN c true
  obtain ⟨gl, vv, h⟩ := hN
  by_cases he : err N c true = 0
  · rw [he] at hgo
    obtain ⟨h1, h2, C, hC, hlive⟩ := err_some he
    obtain ⟨d, rfl⟩ := Int.eq_ofNat_of_zero_le (show 0 ≤ c by omega)
    rw [Int.toNat_natCast] at hC
    have hd : d < 65 := by omega
    have hs : N.take (d : Int) = (C.inb, 0, N.put d { C with inb := [] }) := by
      simp only [NS.take, he, if_true, Int.toNat_natCast, hC]
    rw [hs]
    obtain ⟨A1, p1, hv1⟩ := (h.inb d C hC).slice
    obtain ⟨n1, hn1⟩ : ∃ x, C.inb.length = x := ⟨_, rfl⟩
    have hp1 : n1 ≤ p1 := own_cap (by have := (h.inb d C hC).1; rw [hv1, hn1] at this; exact this)
    rw [hn1] at hv1
    have hF := fun W (hb : Below w.heap.size w W) => (show W.cell? ⟨g, 2, none⟩ = some (.slice (some ⟨gl, 0, none⟩) 65 65) ∧ W.cell? ⟨gl, d * 7 + 4, none⟩ = some (.slice A1 n1 p1) ∧ W.frozen? ⟨gl, d * 7 + 4, none⟩ = false from ⟨(h.below hb).c2, by rw [← hv1]; exact (h.below hb).lv hd 1 (by omega), (h.below hb).row.frozen _⟩)
    have hd0 : (0 : Int) ≤ (d : Int) := by omega
    have hd1 : (d : Int) < 65 := by omega
    have H := Lib.hid (And.intro h (And.intro hC (And.intro (show 1 ≤ d ∧ d ≤ 64 by omega) (And.intro hn1 (And.intro hv1 hp1)))))
    have Hgo := Lib.hid hgo
    have HF := Lib.hid hF
    clear h hgo hF h1 h2 hC he hs hlive hv1 hn1 hp1
    go_enter Try.func48, Try.ntmps48
    go_wp2_with fail
    refine Hgo.out.mono ?_
    rintro e w1 ⟨rfl, hb1⟩
    obtain ⟨c2, x4, hfz⟩ := HF.out w1 hb1
    have HB := Lib.hid hb1
    clear hb1
    go_wp2
    go_ret2
    have h1 := H.out.1.below HB.out
    have hl := h1.lay H.out.2.2.1 H.out.2.1 1 (by omega) (.slice none 0 0) [] rfl (Below.refl _ _) (World.ownsRow_nil _ _ _ _) (show C.way.length ≤ _ from h1.good.way _ _ H.out.2.1) (by have := h1.good.i1; show ((0 : Nat) : Int) ≤ _; omega) (show (C.out.length : Int) ≤ _ from h1.good.out _ _ H.out.2.1) (show (C.heard.length : Int) ≤ _ from h1.good.heard _ _ H.out.2.1)
    have hr := (h1.inb d C H.out.2.1).chg hl.2 (by omega)
    rw [H.out.2.2.2.2.1, H.out.2.2.2.1] at hr
    exact ⟨A1, n1, p1, rfl, H.out.2.2.2.2.2, H.out.2.2.2.1, Reads.of_row hr.1, _, ⟨_, _, hl.1⟩, (Chg.of_below _ _ HB.out).trans (hl.2.mono (fun x hx => by unfold Od; omega))⟩
  · have ho : N.take c = ([], err N c true, N) := by unfold NS.take; rw [if_neg he]
    rw [ho]
    have he2 : (err N c true != 0) = true := by simpa using he
    generalize err N c true = r at hgo he2
    have Hgo := Lib.hid hgo
    have H := Lib.hid h
    clear h hgo he ho
    go_enter Try.func48, Try.ntmps48
    go_wp2_with fail
    refine Hgo.out.mono ?_
    rintro e w1 ⟨rfl, hb1⟩
    go_wp2
    go_ret2
    exact ⟨none, 0, 0, rfl, Nat.le_refl _, rfl, Reads.nil _ _, σ, ⟨gl, vv, H.out.below hb1⟩, Chg.of_below _ _ hb1⟩

set_option maxRecDepth 100000 in
set_option maxHeartbeats 1600000 in
theorem q_under (w : World) (σ : Nat → Nat) (t g : Nat) (N : NS) (hN : RefAt w σ t g N) (c : Int) :
    Calls Try.prog 55 #[.pointer (some ⟨g, 0, none⟩), .int .i64 c] w fun e w' => e = .returned (.tuple #[.int .i64 (N.under c).1, .int .i64 (N.under c).2]) ∧ Below w.heap.size w w' := by
  obtain ⟨gl, vv, h⟩ := hN
  by_cases hc : 1 ≤ c ∧ c ≤ 64
  · obtain ⟨d, rfl⟩ := Int.eq_ofNat_of_zero_le (show 0 ≤ c by omega)
    have hd : d < 65 := by omega
    have hq := fun W => q_is W (d : Int)
    simp only [decide_eq_true hc] at hq
    have Hq := Lib.hid hq
    have hd0 : (0 : Int) ≤ (d : Int) := by omega
    have hd1 : (d : Int) < 65 := by omega
    have he : N.under (d : Int) = match N.cs d with | none => (0, 0) | some C => ((C.way.length : Int) + (C.inb.length : Int), (C.out.length : Int)) := by
      unfold NS.under err
      rw [if_neg (show ¬ ((d : Int) < 1 ∨ 64 < (d : Int)) by omega), Int.toNat_natCast]
      rcases N.cs d with _ | C
      · rfl
      · simp
    obtain ⟨A0, n0, p0, A1, n1, p1, A2, n2, p2, y0, y1, y2, hu, hb0, hb1, hb2⟩ : ∃ A0 n0 p0 A1 n1 p1 A2 n2 p2, vv d 0 = .slice A0 n0 p0 ∧ vv d 1 = .slice A1 n1 p1 ∧ vv d 2 = .slice A2 n2 p2 ∧ N.under (d : Int) = ((n0 : Int) + (n1 : Int), (n2 : Int)) ∧ n0 ≤ 1048576 ∧ n1 ≤ 1048576 ∧ n2 ≤ 1048576 := by
      rcases hC : N.cs d with _ | C
      · rw [hC] at he
        exact ⟨none, 0, 0, none, 0, 0, none, 0, 0, h.nils d hC 0, h.nils d hC 1, h.nils d hC 2, he, by omega, by omega, by omega⟩
      · rw [hC] at he
        obtain ⟨A0, p0, e0⟩ := (h.way d C hC).slice
        obtain ⟨A1, p1, e1⟩ := (h.inb d C hC).slice
        obtain ⟨A2, p2, e2⟩ := (h.out d C hC).slice
        have g0 := h.good.way d C hC
        have g1 := h.good.inb d C hC
        have g2 := h.good.out d C hC
        have g3 := h.good.i2
        have g4 := h.good.o2
        exact ⟨A0, _, p0, A1, _, p1, A2, _, p2, e0, e1, e2, he, g0, by omega, by omega⟩
    have x3 : w.cell? ⟨gl, d * 7 + 3, none⟩ = some (.slice A0 n0 p0) := by rw [← y0]; exact h.lv hd 0 (by omega)
    have x4 : w.cell? ⟨gl, d * 7 + 4, none⟩ = some (.slice A1 n1 p1) := by rw [← y1]; exact h.lv hd 1 (by omega)
    have x5 : w.cell? ⟨gl, d * 7 + 5, none⟩ = some (.slice A2 n2 p2) := by rw [← y2]; exact h.lv hd 2 (by omega)
    have c2 := h.c2
    have hw : IntKind.i64.wrap ((n0 : Int) + (n1 : Int)) = (n0 : Int) + (n1 : Int) := by rw [IntKind.wrap_i64]; omega
    rw [hu]
    clear h he hc hq y0 y1 y2 hu
    go_enter Try.func55, Try.ntmps55
    go_wp2_with fail
    refine (Hq.out w).mono ?_
    rintro e w1 ⟨rfl, rfl⟩
    go_wp2_with fail
    go_big_region
    go_wp2
    go_ret2
    exact ⟨rfl, (Below.refl _ _).drew⟩
  · have he : N.under c = (0, 0) := by
      unfold NS.under err
      rw [if_pos (show c < 1 ∨ 64 < c by omega)]
      rfl
    rw [he]
    have hq := fun W => q_is W c
    simp only [decide_eq_false hc] at hq
    have Hq := Lib.hid hq
    clear h hc he hq
    go_enter Try.func55, Try.ntmps55
    go_wp2_with fail
    refine (Hq.out w).mono ?_
    rintro e w1 ⟨rfl, rfl⟩
    go_wp2
    go_ret2
    exact ⟨rfl, Below.refl _ _⟩
end Go.Proofs.Ytalabfbnbiagiaa.C
