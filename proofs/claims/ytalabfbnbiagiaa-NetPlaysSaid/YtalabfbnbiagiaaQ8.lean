/-
  The document's net: Fetch.
-/
import Derived.Test.YtalabfbnbiagiaaQ8L
set_option linter.unusedVariables false
set_option linter.unusedSimpArgs false
namespace Go.Proofs.Ytalabfbnbiagiaa.C
open Go.RowKit Go.Proofs.Ytalabfbnbiagiaa.K

set_option maxRecDepth 100000 in
set_option maxHeartbeats 8000000 in
theorem q_fetch (w : World) (σ : Nat → Nat) (t g : Nat) (N : NS) (hN : RefAt w σ t g N) (hmv : N.mv ≤ 1099511000000) (c most : Int) :
    Calls Try.prog 50 #[.pointer (some ⟨g, 0, none⟩), .int .i64 c, .int .i64 most] w fun e w' => e = .returned (.tuple #[.int .i64 (N.fetch c most).1, .int .i64 (N.fetch c most).2.1]) ∧ ∃ σ', RefAt w' σ' t g (N.fetch c most).2.2 ∧ Chg (Od t) σ w σ' w' := by
  have hgo := q_gone w σ t g N hN c false
  obtain ⟨gl, vv, h⟩ := hN
  by_cases he : err N c false = 0
  · rw [he] at hgo
    obtain ⟨h1, h2, C, hC, hlive⟩ := err_some he
    obtain ⟨d, rfl⟩ := Int.eq_ofNat_of_zero_le (show 0 ≤ c by omega)
    rw [Int.toNat_natCast] at hC
    have hd : d < 65 := by omega
    obtain ⟨n2, hn2⟩ : ∃ x, C.out.length = x := ⟨_, rfl⟩
    obtain ⟨n3, hn3⟩ : ∃ x, C.heard.length = x := ⟨_, rfl⟩
    obtain ⟨k, hk⟩ : ∃ x, fetches C most = x := ⟨_, rfl⟩
    have hs : N.fetch (d : Int) most = ((k : Int), 0, { N.put d { C with heard := C.heard ++ C.out.take k, out := C.out.drop k } with mv := N.mv + (k : Int) }) := by
      simp only [NS.fetch, he, if_true, Int.toNat_natCast, hC, hk]
    rw [hs]
    obtain ⟨A0, p0, hv0⟩ := (h.way d C hC).slice
    obtain ⟨A1, p1, hv1⟩ := (h.inb d C hC).slice
    obtain ⟨A2, p2, hv2⟩ := (h.out d C hC).slice
    obtain ⟨A3, p3, hv3⟩ := (h.heard d C hC).slice
    obtain ⟨n0, hn0⟩ : ∃ x, C.way.length = x := ⟨_, rfl⟩
    obtain ⟨n1, hn1⟩ : ∃ x, C.inb.length = x := ⟨_, rfl⟩
    rw [hn0] at hv0
    rw [hn1] at hv1
    rw [hn2] at hv2
    rw [hn3] at hv3
    have hw2 := h.good.out d C hC
    have ho2 := h.good.o2
    have hw3 := h.good.heard d C hC
    have hm0 := h.good.m0
    rw [hn2] at hw2
    rw [hn3] at hw3
    unfold fetches at hk
    rw [hn2] at hk
    have hk1 : k ≤ n2 := by omega
    have hk2 : n2 ≤ 131072 := by omega
    have hk3 : n3 + k ≤ 1099511627776 := by omega
    have hcap2 : n2 ≤ p2 := own_cap (by have := (h.out d C hC).1; rw [hv2, hn2] at this; exact this)
    have hpart := fun W => q_part W (n2 : Int) (n2 : Int) most
    rw [show max 0 (min (min (n2 : Int) (n2 : Int)) most) = (k : Int) by omega] at hpart
    have hcl : closedOf N d = C.closed := by unfold closedOf; rw [hC]
    have hcu : cutOf N d = C.cut := by unfold cutOf; rw [hC]
    have hF := fun W (hb : Below w.heap.size w W) => (show W.cell? ⟨g, 2, none⟩ = some (.slice (some ⟨gl, 0, none⟩) 65 65) ∧ W.cell? ⟨gl, d * 7, none⟩ = some (.bool true) ∧ W.cell? ⟨gl, d * 7 + 1, none⟩ = some (.bool C.closed) ∧ W.cell? ⟨gl, d * 7 + 2, none⟩ = some (.bool C.cut) ∧ W.cell? ⟨gl, d * 7 + 3, none⟩ = some (.slice A0 n0 p0) ∧ W.cell? ⟨gl, d * 7 + 4, none⟩ = some (.slice A1 n1 p1) ∧ W.cell? ⟨gl, d * 7 + 5, none⟩ = some (.slice A2 n2 p2) ∧ W.cell? ⟨gl, d * 7 + 6, none⟩ = some (.slice A3 n3 p3) from
      ⟨(h.below hb).c2, by rw [(h.below hb).l0 hd, hC]; rfl, by rw [(h.below hb).l1 hd, hcl], by rw [(h.below hb).l2 hd, hcu], by rw [← hv0]; exact (h.below hb).lv hd 0 (by omega), by rw [← hv1]; exact (h.below hb).lv hd 1 (by omega), by rw [← hv2]; exact (h.below hb).lv hd 2 (by omega), by rw [← hv3]; exact (h.below hb).lv hd 3 (by omega)⟩)
    have hd0 : (0 : Int) ≤ (d : Int) := by omega
    have hd1 : (d : Int) < 65 := by omega
    have hgl : ¬ g = gl := by intro e; have h1' := h.blk.2; have h2' := h.tl; rw [e] at h1'; omega
    have hlg : ¬ gl = g := fun e => hgl e.symm
    have hrO : Reads w A2 (bs C.out) := by have := (h.out d C hC).1; rw [hv2, hn2] at this; exact Reads.of_row this
    have hrH : Reads w A3 (bs C.heard) := by have := (h.heard d C hC).1; rw [hv3, hn3] at this; exact Reads.of_row this
    have H := Lib.hid (And.intro h (And.intro hC (And.intro (show 1 ≤ d ∧ d ≤ 64 by omega) (And.intro hn2 hn3))))
    have HR := Lib.hid (And.intro hrO hrH)
    have HV := Lib.hid (And.intro hv0 (And.intro hv1 (And.intro hv2 hv3)))
    have Hgo := Lib.hid hgo
    have HP := Lib.hid hpart
    have HF := Lib.hid hF
    have hkk0 : (0 : Int) ≤ (k : Int) := by omega
    have hkk1 : (k : Int) ≤ (p2 : Int) := by omega
    have hkk2 : k ≤ p2 := by omega
    have hkk3 : (k : Int) ≤ (n2 : Int) := by omega
    obtain ⟨b1, hb1e⟩ : ∃ x, C.closed = x := ⟨_, rfl⟩
    obtain ⟨b2, hb2e⟩ : ∃ x, C.cut = x := ⟨_, rfl⟩
    rw [hb1e, hb2e] at HF
    have HBE := Lib.hid (And.intro hb1e hb2e)
    clear hb1e hb2e
    clear h hgo hF h1 h2 hC he hs hlive hv0 hv1 hv2 hv3 hn0 hn1 hn2 hn3 hpart hk hcl hcu hrO hrH hw2 hw3
    go_enter Try.func50, Try.ntmps50
    go_wp2_with fail
    refine Hgo.out.mono ?_
    rintro e w1 ⟨rfl, hb1⟩
    obtain ⟨c2, x0, x1, x2, x3, x4, x5, x6⟩ := HF.out w1 hb1
    have HB := Lib.hid hb1
    go_wp2_with fail
    refine (HP.out _).mono ?_
    rintro e w2 ⟨rfl, rfl⟩
    have hal : Below w1.heap.size w1 (w1.alloc (.cells #[.bool true, .bool b1, .bool b2, .slice A0 n0 p0, .slice A1 n1 p1, .slice A2 n2 p2, .slice A3 n3 p3] 104)) := (Below.refl _ _).alloc (Nat.le_refl _) _
    have hbl := Blk.new w1 104 #[.bool true, .bool b1, .bool b2, .slice A0 n0 p0, .slice A1 n1 p1, .slice A2 n2 p2, .slice A3 n3 p3]
    have hB3 := Below.then_ hb1 hb1.size hal
    have hgx : w.heap.size ≤ w1.heap.size := hb1.size
    go_upto_region 6 with fail
    clear c2 x0 x1 x2 x3 x4 x5 x6 hal hb1
    generalize w1.alloc (.cells #[.bool true, .bool b1, .bool b2, .slice A0 n0 p0, .slice A1 n1 p1, .slice A2 n2 p2, .slice A3 n3 p3] 104) = w3 at hbl hB3 ⊢
    generalize w1.heap.size = gx at hbl hgx ⊢
    have z5 := hbl.cell 5
    have z6 := hbl.cell 6
    have zf := hbl.frozen 6
    simp only [List.getElem?_toArray, List.getElem?_cons_zero, List.getElem?_cons_succ] at z5 z6
    have hlx := hbl.lt
    have HB3 := Lib.hid (And.intro hB3 (And.intro hbl (And.intro hgx hlx)))
    have HDR : Hid (Below w3.heap.size w3 w3.drew) := Lib.hid (Below.refl _ _).drew
    have htk : (C.out.take k).length = k := by rw [List.length_take, H.out.2.2.2.1]; omega
    have hdr : (C.out.drop k).length = n2 - k := by rw [List.length_drop, H.out.2.2.2.1]
    have Htk := Lib.hid (And.intro htk hdr)
    have hWW := fun W (hb : Below w3.heap.size w3 W) => (Below.then_ HB3.out.1 HB3.out.1.size hb : Below w.heap.size w W)
    have HJ : Hid (∀ W, Below w3.heap.size w3 W → Calls Try.prog 63 #[.slice A3 n3 p3, .slice A2 k p2] W fun e w' => ∃ u, e = .returned u ∧ w'.ownsRow W.heap.size 5 1 u (n3 + k) (bs (C.heard ++ C.out.take k)) ∧ Below W.heap.size W w') := Lib.hid (fun W hb => q_join W A3 n3 p3 C.heard H.out.2.2.2.2 (HR.out.2.below (hWW W hb)) A2 k p2 (C.out.take k) Htk.out.1 (by rw [bs_take]; exact (HR.out.1.below (hWW W hb)).take k) hk3)
    clear hWW
    have KK : Hid (∀ w', Below w3.drew.heap.size w3.drew w' → w'.frozen? ⟨gx, 6, none⟩ = false ∧ w'.cell? ⟨gx, 6, none⟩ = some (.slice A3 n3 p3)) := Lib.hid (fun w' hb => ⟨(hb.frozen (p := ⟨gx, 6, none⟩) HB3.out.2.2.2).trans (HB3.out.2.1.frozen 6), (hb.cell (p := ⟨gx, 6, none⟩) HB3.out.2.2.2).trans (by rw [World.cell?_drew, HB3.out.2.1.cell]; rfl)⟩)
    clear hB3 hbl hgx hlx htk hdr
    go_cut [] (fun w' => ∃ Ah ch, Below w.heap.size w w' ∧ Blk w' gx 104 #[.bool true, .bool b1, .bool b2, .slice A0 n0 p0, .slice A1 n1 p1, .slice A2 n2 p2, .slice Ah (n3 + k) ch] ∧ w'.ownsRow (gx + 1) 5 1 (.slice Ah (n3 + k) ch) (n3 + k) (bs (C.heard ++ C.out.take k)))
    case first =>
      go_region_law (first | (rw [if_pos (by rfl)]; go_simp; go_at_call 63; refine (HJ.out _ HDR.out).mono ?_; rintro e w4 ⟨u, rfl, hu, hb4⟩; obtain ⟨Au, cu, rfl⟩ := own_slice hu; obtain ⟨kkf, kkc⟩ := KK.out w4 hb4) | fail)
      all_goals
        go_wp2_with fail
        go_meet
        case rel =>
          have hb4' := Below.then_ HDR.out (Nat.le_refl _) hb4
          have hbw := Below.then_ HB3.out.1 HB3.out.1.size hb4'
          exact ⟨Au, cu, hbw.setCell (p := ⟨gx, 6, none⟩) HB3.out.2.2.1 _, (HB3.out.2.1.below' hb4').set_ 6 _, own_mono (own_set hu (fun b hb' e => by
            have h1 := (hu.lt b hb').1
            have h2 := HB3.out.2.2.2
            simp only at e
            rw [e] at h1
            exact absurd h1 (by show ¬ w3.heap.size ≤ gx; omega)) _) (by have := HB3.out.2.2.2; show gx + 1 ≤ w3.heap.size; omega)⟩
    case rest =>
      rename World => w5
      obtain ⟨Ah, ch, hbw, hbl, hoh⟩ := hcut
      have z5 := hbl.cell 5
      have zf := hbl.frozen 5
      simp only [List.getElem?_toArray, List.getElem?_cons_zero, List.getElem?_cons_succ] at z5
      have hlx := hbl.lt
      have H5 := Lib.hid (And.intro hbw (And.intro hbl (And.intro hoh (And.intro hlx (HR.out.1.below hbw)))))
      have hlen : C.out.length = n2 := H.out.2.2.2.1
      have KK5 : Hid (∀ w', Below w5.heap.size w5 w' → w'.frozen? ⟨gx, 5, none⟩ = false ∧ w'.cell? ⟨gx, 5, none⟩ = some (.slice A2 n2 p2)) := Lib.hid (fun w' hb => ⟨(hb.frozen (p := ⟨gx, 5, none⟩) H5.out.2.2.2.1).trans (H5.out.2.1.frozen 5), (hb.cell (p := ⟨gx, 5, none⟩) H5.out.2.2.2.1).trans (by rw [H5.out.2.1.cell]; rfl)⟩)
      clear hbw hbl hoh hlx HJ KK HDR
      go_upto_region 7 with fail
      go_cut [] (fun w' => ∃ Ao co, Below w.heap.size w w' ∧ Blk w' gx 104 #[.bool true, .bool b1, .bool b2, .slice A0 n0 p0, .slice A1 n1 p1, .slice Ao (n2 - k) co, .slice Ah (n3 + k) ch] ∧ w'.ownsRow (gx + 1) 5 1 (.slice Ah (n3 + k) ch) (n3 + k) (bs (C.heard ++ C.out.take k)) ∧ w'.ownsRow (gx + 1) 5 1 (.slice Ao (n2 - k) co) (n2 - k) (bs (C.out.drop k)))
      case first =>
        go_wp2_with fail
        all_goals
          refine (q_join w5 _ _ _ (C.out.drop k) (by rw [List.length_drop, hlen]) (by first | (rw [bs_drop]; exact H5.out.2.2.2.2.drop k) | (rw [show C.out.drop k = [] from List.drop_eq_nil_of_le (by omega)]; exact Reads.nil _ _)) none 0 0 [] rfl (Reads.nil _ _) (by omega)).mono ?_
          rintro e w6 ⟨u, rfl, hu, hb6⟩
          obtain ⟨Au, cu, rfl⟩ := own_slice hu
          obtain ⟨kkf, kkc⟩ := KK5.out w6 hb6
          go_wp2_with fail
          go_meet
          case rel =>
            rw [List.append_nil] at hu
            have hne : ∀ {v : Value} {m : Nat} {xs : List Value} {B : Nat}, w6.ownsRow B 5 1 v m xs → gx + 1 ≤ B → ∀ b, v.ownBlock = some b → b ≠ (⟨gx, 5, none⟩ : Addr).block := fun h hB b hb' e => by
              have h1 := (h.lt b hb').1
              simp only at e
              omega
            have hB6 : gx + 1 ≤ w5.heap.size := H5.out.2.2.2.1
            exact ⟨Au, cu, (Below.then_ H5.out.1 H5.out.1.size hb6).setCell (p := ⟨gx, 5, none⟩) HB3.out.2.2.1 _, (H5.out.2.1.below' hb6).set_ 5 _, own_set (own_below H5.out.2.2.1 hb6) (hne (own_below H5.out.2.2.1 hb6) (Nat.le_refl _)) _, own_mono (own_set hu (hne hu hB6) _) hB6⟩
      case rest =>
        rename World => w7
        obtain ⟨Ao, co, hbw, hbl, hoh, hoo⟩ := hcut
        have y0 := hbl.cell 0
        have y1 := hbl.cell 1
        have y2 := hbl.cell 2
        have y3 := hbl.cell 3
        have y4 := hbl.cell 4
        have y5 := hbl.cell 5
        have y6 := hbl.cell 6
        simp only [List.getElem?_toArray, List.getElem?_cons_zero, List.getElem?_cons_succ] at y0 y1 y2 y3 y4 y5 y6
        obtain ⟨c2, x0, x1, x2, x3, x4, x5, x6⟩ := HF.out w7 hbw
        have hR := H.out.1.below hbw
        have f0 := hR.row.frozen (d * 7)
        have f1 := hR.row.frozen (d * 7 + 1)
        have f2 := hR.row.frozen (d * 7 + 2)
        have f3 := hR.row.frozen (d * 7 + 3)
        have f4 := hR.row.frozen (d * 7 + 4)
        have f5 := hR.row.frozen (d * 7 + 5)
        have f6 := hR.row.frozen (d * 7 + 6)
        have hg3 := hR.c3
        have hg3f := hR.blk.1.frozen 3
        have hlx : ¬ gl = gx := by have := H.out.1.row.lt; have := HB3.out.2.2.1; omega
        have hxl : ¬ gx = gl := fun e => hlx e.symm
        have H7 := Lib.hid (And.intro hbw (And.intro hoh hoo))
        clear hbw hbl hoh hoo hR KK5 H5
        go_upto_region 8 with fail
        go_cut [] (fun w' => Hid (w' = (w7.setCells gl (d * 7) [.bool true, .bool b1, .bool b2, .slice A0 n0 p0, .slice A1 n1 p1, .slice Ao (n2 - k) co, .slice Ah (n3 + k) ch]).drew))
        case first =>
          have s0 : w7.drew.cell? ⟨g, 2, none⟩ = some (.slice (some ⟨gl, 0, none⟩) 65 65) ∧ w7.drew.cell? ⟨gx, 0, none⟩ = some (.bool true) ∧ w7.drew.cell? ⟨gx, 1, none⟩ = some (.bool b1) ∧ w7.drew.cell? ⟨gx, 2, none⟩ = some (.bool b2) ∧ w7.drew.cell? ⟨gx, 3, none⟩ = some (.slice A0 n0 p0) ∧ w7.drew.cell? ⟨gx, 4, none⟩ = some (.slice A1 n1 p1) ∧ w7.drew.cell? ⟨gx, 5, none⟩ = some (.slice Ao (n2 - k) co) ∧ w7.drew.cell? ⟨gx, 6, none⟩ = some (.slice Ah (n3 + k) ch) := ⟨c2, y0, y1, y2, y3, y4, y5, y6⟩
          have HS0 := Lib.hid s0
          have HS2 := Lib.hid (And.intro c2 (And.intro y0 (And.intro y1 (And.intro y2 (And.intro y3 (And.intro y4 (And.intro y5 y6)))))))
          have HS1 : Hid (∀ a0 a1 a2 a3 a4 a5 a6, (fun w' : World => w'.cell? ⟨g, 2, none⟩ = some (.slice (some ⟨gl, 0, none⟩) 65 65) ∧ w'.cell? ⟨gx, 0, none⟩ = some (.bool true) ∧ w'.cell? ⟨gx, 1, none⟩ = some (.bool b1) ∧ w'.cell? ⟨gx, 2, none⟩ = some (.bool b2) ∧ w'.cell? ⟨gx, 3, none⟩ = some (.slice A0 n0 p0) ∧ w'.cell? ⟨gx, 4, none⟩ = some (.slice A1 n1 p1) ∧ w'.cell? ⟨gx, 5, none⟩ = some (.slice Ao (n2 - k) co) ∧ w'.cell? ⟨gx, 6, none⟩ = some (.slice Ah (n3 + k) ch)) (((((((w7.setCell ⟨gl, d * 7, none⟩ a0).setCell ⟨gl, d * 7 + 1, none⟩ a1).setCell ⟨gl, d * 7 + 2, none⟩ a2).setCell ⟨gl, d * 7 + 3, none⟩ a3).setCell ⟨gl, d * 7 + 4, none⟩ a4).setCell ⟨gl, d * 7 + 5, none⟩ a5).setCell ⟨gl, d * 7 + 6, none⟩ a6).drew) := Lib.hid (fun a0 a1 a2 a3 a4 a5 a6 => by
            rw [← setCells7]
            obtain ⟨q0, q1, q2, q3, q4, q5, q6, q7⟩ := HS2.out
            exact ⟨(far_c hgl w7 _ _ _).trans q0, (far_c hxl w7 _ _ _).trans q1, (far_c hxl w7 _ _ _).trans q2, (far_c hxl w7 _ _ _).trans q3, (far_c hxl w7 _ _ _).trans q4, (far_c hxl w7 _ _ _).trans q5, (far_c hxl w7 _ _ _).trans q6, (far_c hxl w7 _ _ _).trans q7⟩)
          clear s0 c2 y0 y1 y2 y3 y4 y5 y6 hg3 hg3f hlx H7 Htk Hgo HR HV HBE HP HB3 H HF
          go_region_held3 (fun w' => w'.cell? ⟨g, 2, none⟩ = some (.slice (some ⟨gl, 0, none⟩) 65 65) ∧ w'.cell? ⟨gx, 0, none⟩ = some (.bool true) ∧ w'.cell? ⟨gx, 1, none⟩ = some (.bool b1) ∧ w'.cell? ⟨gx, 2, none⟩ = some (.bool b2) ∧ w'.cell? ⟨gx, 3, none⟩ = some (.slice A0 n0 p0) ∧ w'.cell? ⟨gx, 4, none⟩ = some (.slice A1 n1 p1) ∧ w'.cell? ⟨gx, 5, none⟩ = some (.slice Ao (n2 - k) co) ∧ w'.cell? ⟨gx, 6, none⟩ = some (.slice Ah (n3 + k) ch)) (first | with_reducible exact HS0.out | with_reducible exact HS1.out _ _ _ _ _ _ _ | fail) (fail)
          go_wp2_with fail
          go_meet
          case rel => exact Lib.hid (congrArg World.drew (setCells7 w7 gl (d * 7) _ _ _ _ _ _ _).symm)
        case rest =>
          rename World => w8
          have hw8 := hcut
          clear hcut
          have hg38 : w8.cell? ⟨g, 3, none⟩ = some (.int .i64 N.mv) := by rw [hw8.out]; exact (far_c hgl w7 _ _ _).trans hg3
          have hg38f : w8.frozen? ⟨g, 3, none⟩ = false := by rw [hw8.out]; exact (far_f w7 _ _ _ _).trans hg3f
          clear y0 y1 y2 y3 y4 y5 y6 c2 x0 x1 x2 x3 x4 x5 x6 f0 f1 f2 f3 f4 f5 f6 hg3 hg3f
          obtain ⟨mv, hmvv⟩ : ∃ x, N.mv = x := ⟨_, rfl⟩
          have Hmv := Lib.hid hmvv
          rw [hmvv] at hg38 hmv hm0
          clear hmvv
          go_wp2
          go_ret2
          rw [hw8.out, ← Hmv.out]
          refine ⟨rfl, _, H.out.1.laid7 H.out.2.2.1 { C with heard := C.heard ++ C.out.take k, out := C.out.drop k } b1 b2 HBE.out.1 HBE.out.2 (fun j => match j with | 0 => .slice A0 n0 p0 | 1 => .slice A1 n1 p1 | 2 => .slice Ao (n2 - k) co | _ => .slice Ah (n3 + k) ch) H7.out.1 (gx + 1) (Nat.le_succ_of_le HB3.out.2.2.1) (N.mv + (k : Int)) (by omega) ?_ ?_ ?_ ?_ ?_ ?_ ?_ ?_⟩
          · show Row _ _ _ _ _ (.slice A0 n0 p0) _ _
            rw [← HV.out.1]
            exact ((H.out.1.way d C H.out.2.1).upd (Nat.le_succ_of_le HB3.out.2.2.1) (t + 1)).below H7.out.1
          · show Row _ _ _ _ _ (.slice A1 n1 p1) _ _
            rw [← HV.out.2.1]
            exact ((H.out.1.inb d C H.out.2.1).upd (Nat.le_succ_of_le HB3.out.2.2.1) (t + 1)).below H7.out.1
          · show Row _ _ _ _ _ (.slice Ao (n2 - k) co) (C.out.drop k).length _
            rw [Htk.out.2]
            exact Row.fresh H7.out.2.2 (t + 1)
          · show Row _ _ _ _ _ (.slice Ah (n3 + k) ch) (C.heard ++ C.out.take k).length _
            rw [List.length_append, Htk.out.1, H.out.2.2.2.2]
            exact Row.fresh H7.out.2.1 (t + 1)
          · exact H.out.1.good.way d C H.out.2.1
          · exact H.out.1.good.inb d C H.out.2.1
          · show ((C.out.drop k).length : Int) ≤ _
            have := H.out.1.good.out d C H.out.2.1
            rw [List.length_drop]
            omega
          · show ((C.heard ++ C.out.take k).length : Int) ≤ _
            have := H.out.1.good.heard d C H.out.2.1
            rw [List.length_append, Htk.out.1]
            omega
  · have ho : N.fetch c most = (0, err N c false, N) := by unfold NS.fetch; rw [if_neg he]
    rw [ho]
    have he2 : (err N c false != 0) = true := by simpa using he
    generalize err N c false = r at hgo he2
    have Hgo := Lib.hid hgo
    have H := Lib.hid h
    clear h hgo he ho
    go_enter Try.func50, Try.ntmps50
    go_wp2_with fail
    refine Hgo.out.mono ?_
    rintro e w1 ⟨rfl, hb1⟩
    go_wp2
    go_ret2
    exact ⟨rfl, σ, ⟨gl, vv, H.out.below hb1⟩, Chg.of_below _ _ hb1⟩
end Go.Proofs.Ytalabfbnbiagiaa.C
