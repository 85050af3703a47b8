/-
  The document's net: Write.
-/
import Derived.Test.YtalabfbnbiagiaaQ5
set_option linter.unusedVariables false
set_option linter.unusedSimpArgs false
namespace Go.Proofs.Ytalabfbnbiagiaa.C
open Go.RowKit Go.Proofs.Ytalabfbnbiagiaa.K

set_option maxRecDepth 100000 in
set_option maxHeartbeats 1600000 in
theorem q_write (w : World) (σ : Nat → Nat) (t g : Nat) (N : NS) (hN : RefAt w σ t g N) (c : Int) (A : Option Addr) (n cp : Nat) (L : List Int) (hL : L.length = n) (hn : n ≤ 140737488351232) (hncp : n ≤ cp) (hr : Reads w A (bs L)) :
    Calls Try.prog 49 #[.pointer (some ⟨g, 0, none⟩), .int .i64 c, .slice A n cp] w fun e w' => e = .returned (.tuple #[.int .i64 (N.write c L).1, .int .i64 (N.write c L).2.1]) ∧ ∃ σ', RefAt w' σ' t g (N.write c L).2.2 ∧ Chg (Od t) σ w σ' w' := by
  have hgo := q_gone w σ t g N hN c true
  obtain ⟨gl, vv, h⟩ := hN
  by_cases he : err N c true = 0
  · rw [he] at hgo
    obtain ⟨h1, h2, C, hC, hlive⟩ := err_some he
    obtain ⟨d, rfl⟩ := Int.eq_ofNat_of_zero_le (show 0 ≤ c by omega)
    rw [Int.toNat_natCast] at hC
    have hd : d < 65 := by omega
    obtain ⟨n0, hn0⟩ : ∃ x, C.out.length = x := ⟨_, rfl⟩
    obtain ⟨k, hk⟩ : ∃ x, fit N.o n0 n = x := ⟨_, rfl⟩
    have hs : N.write (d : Int) L = ((k : Int), 0, N.put d { C with out := C.out ++ L.take k }) := by
      simp only [NS.write, he, if_true, Int.toNat_natCast, hC, hn0, hL, hk]
    rw [hs]
    obtain ⟨A0, p0, hv0⟩ := (h.out d C hC).slice
    rw [hn0] at hv0
    have hw0 := h.good.out d C hC
    rw [hn0] at hw0
    have ho1 := h.good.o1
    have ho2 := h.good.o2
    unfold fit at hk
    rw [if_neg (by omega)] at hk
    have hk1 : k ≤ n := by omega
    have hk2 : ((n0 + k : Nat) : Int) ≤ N.o := by omega
    have hpart := fun W => q_part W (n : Int) (N.o - (n0 : Int)) (n : Int)
    rw [show max 0 (min (min (n : Int) (N.o - (n0 : Int))) (n : Int)) = (k : Int) by omega] at hpart
    have hF := fun W (hb : Below w.heap.size w W) => (show W.cell? ⟨g, 2, none⟩ = some (.slice (some ⟨gl, 0, none⟩) 65 65) ∧ W.cell? ⟨gl, d * 7 + 5, none⟩ = some (.slice A0 n0 p0) ∧ W.frozen? ⟨gl, d * 7 + 5, none⟩ = false ∧ W.cell? ⟨g, 1, none⟩ = some (.int .i64 N.o) from ⟨(h.below hb).c2, by rw [← hv0]; exact (h.below hb).lv hd 2 (by omega), (h.below hb).row.frozen _, (h.below hb).c1⟩)
    have hd0 : (0 : Int) ≤ (d : Int) := by omega
    have hd1 : (d : Int) < 65 := by omega
    have hgl : ¬ g = gl := by intro e; have h1' := h.blk.2; have h2' := h.tl; rw [e] at h1'; omega
    have hlg : ¬ gl = g := fun e => hgl e.symm
    have htk : (L.take k).length = k := by rw [List.length_take, hL]; omega
    have H := Lib.hid (And.intro h (And.intro hC (And.intro (show 1 ≤ d ∧ d ≤ 64 by omega) (And.intro hn0 (And.intro htk hk2)))))
    have HL := Lib.hid (And.intro hL (And.intro hr hv0))
    have Hgo := Lib.hid hgo
    have HP := Lib.hid hpart
    have HF := Lib.hid hF
    generalize N.o = o at ho1 ho2 hw0 hk2 HP HF hF
    have hw : IntKind.i64.wrap (o - (n0 : Int)) = o - (n0 : Int) := by rw [IntKind.wrap_i64]; omega
    have hkk0 : (0 : Int) ≤ (k : Int) := by omega
    have hkk1 : (k : Int) ≤ (cp : Int) := by omega
    have hkk2 : k ≤ cp := by omega
    have hn0k : n0 + k ≤ 131072 := by omega
    clear h hgo hF h1 h2 hC he hs hL hr hlive hv0 hn0 hpart hk hk2 htk
    go_enter Try.func49, Try.ntmps49
    go_wp2_with fail
    refine Hgo.out.mono ?_
    rintro e w1 ⟨rfl, hb1⟩
    obtain ⟨c2, x5, hfz, c1⟩ := HF.out w1 hb1
    have HB := Lib.hid hb1
    have HDR : Hid (Below w1.heap.size w1 w1.drew) := Lib.hid (Below.refl _ _).drew
    clear hb1
    go_upto_region 4 with fail
    go_cut [9] (fun s9 w' => s9 = .int .i64 (k : Int) ∧ Hid (Below w1.heap.size w1 w'))
    case first =>
      go_region_law (first | (rw [if_pos (by rfl)]; go_simp; go_at_call 64; refine (HP.out _).mono ?_; rintro e w2 ⟨rfl, rfl⟩) | fail)
      all_goals
        go_wp2_with fail
        go_meet
        case rel => exact ⟨rfl, HDR⟩
    case rest =>
      rename World => w2
      obtain ⟨rfl, HB2⟩ := hcut
      have hbw := Below.then_ HB.out HB.out.size HB2.out
      have HBW := Lib.hid hbw
      clear c2 x5 hfz c1 HDR HP
      obtain ⟨c2, x5, hfz, c1⟩ := HF.out w2 hbw
      clear hbw
      have HJ : Hid (∀ W, Below w2.heap.size w2 W → Calls Try.prog 63 #[.slice A0 n0 p0, .slice A k cp] W fun e w' => ∃ u, e = .returned u ∧ w'.ownsRow W.heap.size 5 1 u (n0 + k) (bs (C.out ++ L.take k)) ∧ Below W.heap.size W w') := Lib.hid (fun W hb => q_join W A0 n0 p0 C.out H.out.2.2.2.1 (Reads.below (Reads.of_row (by have := (H.out.1.below HBW.out).out d C H.out.2.1; rw [HL.out.2.2, H.out.2.2.2.1] at this; exact this.1)) hb) A k cp (L.take k) H.out.2.2.2.2.1 (by rw [bs_take]; exact (((HL.out.2.1.below HBW.out).below hb).take k)) (by omega))
      have HDR : Hid (Below w2.heap.size w2 w2.drew) := Lib.hid (Below.refl _ _).drew
      have KK : Hid (∀ w3, Below w2.drew.heap.size w2.drew w3 → w3.cell? ⟨g, 2, none⟩ = some (.slice (some ⟨gl, 0, none⟩) 65 65) ∧ w3.frozen? ⟨gl, d * 7 + 5, none⟩ = false ∧ w3.cell? ⟨gl, d * 7 + 5, none⟩ = some (.slice A0 n0 p0)) := Lib.hid (fun w3 hb3 => by
        obtain ⟨q1, q2, q3, q4⟩ := HF.out w3 (Below.then_ HBW.out HBW.out.size (Below.then_ HDR.out (Nat.le_refl _) hb3))
        exact ⟨q1, q3, q2⟩)
      go_upto_region 5 with fail
      go_cut [] (fun w' => ∃ σ', RefAt w' σ' t g (N.put d { C with out := C.out ++ L.take k }) ∧ Chg (Od t) σ w2 σ' w')
      case first =>
        go_region_law (first | (rw [if_pos (by rfl)]; go_simp; go_at_call 63; refine (HJ.out _ HDR.out).mono ?_; rintro e w3 ⟨u, rfl, hu, hb3⟩; obtain ⟨Au, cu, rfl⟩ := own_slice hu; obtain ⟨kk2, kkf, kk3⟩ := KK.out w3 hb3) | fail)
        all_goals
          have hl := (H.out.1.below HBW.out).lay H.out.2.2.1 H.out.2.1 2 (by omega) (.slice Au (n0 + k) cu) (C.out ++ L.take k) (by rw [List.length_append, H.out.2.2.2.1, H.out.2.2.2.2.1]) (Below.then_ HDR.out (Nat.le_refl _) hb3) hu (by show C.way.length ≤ _; exact H.out.1.good.way _ _ H.out.2.1) (by show (C.inb.length : Int) ≤ _; exact H.out.1.good.inb _ _ H.out.2.1) (by show ((C.out ++ L.take k).length : Int) ≤ _; rw [List.length_append, H.out.2.2.2.1, H.out.2.2.2.2.1]; exact H.out.2.2.2.2.2) (by show (C.heard.length : Int) ≤ _; exact H.out.1.good.heard _ _ H.out.2.1)
          clear hu hb3 kk2 kkf kk3
          go_wp2_with fail
          go_meet
          case rel => exact ⟨_, ⟨_, _, hl.1⟩, hl.2.mono (fun x hx => by unfold Od; omega)⟩
      case rest =>
        rename World => w5
        obtain ⟨σ5, h5, c5⟩ := hcut
        go_wp2
        go_ret2
        exact ⟨rfl, σ5, h5, (Chg.of_below _ _ HBW.out).trans c5⟩
  · have ho : N.write c L = (0, err N c true, N) := by unfold NS.write; rw [if_neg he]
    rw [ho]
    have he2 : (err N c true != 0) = true := by simpa using he
    generalize err N c true = r at hgo he2
    have Hgo := Lib.hid hgo
    have H := Lib.hid h
    clear h hgo he ho hr
    go_enter Try.func49, Try.ntmps49
    go_wp2_with fail
    refine Hgo.out.mono ?_
    rintro e w1 ⟨rfl, hb1⟩
    go_wp2
    go_ret2
    exact ⟨rfl, σ, ⟨gl, vv, H.out.below hb1⟩, Chg.of_below _ _ hb1⟩
end Go.Proofs.Ytalabfbnbiagiaa.C
