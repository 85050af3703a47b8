/-
  NetPlays: one step of both nets tells the same (asked).
-/
import Derived.Test.YtalabfbnbiagiaaP1
set_option linter.unusedVariables false
set_option linter.unusedSimpArgs false
namespace Go.Proofs.Ytalabfbnbiagiaa.C
open Go.RowKit Go.Proofs.Ytalabfbnbiagiaa.K

set_option maxRecDepth 100000 in
set_option maxHeartbeats 16000000 in
theorem asked_c (w0 w : World) (σ : Nat → Nat) (g r : Nat) (N : NS) (h : PW w0 g r w σ N) (hmv : N.mv ≤ 1099510000000) (s : NSt) (hs : s.ok w0) :
    Calls Try.prog 32 #[.pointer (some ⟨g, 0, none⟩), .pointer (some ⟨r, 0, none⟩), .agg s.cells.toArray] w fun e w' => e = .returned (.bool true) ∧ ∃ σ', PW w0 g r w' σ' (N.did s).2.2 := by
  obtain ⟨kd, c, A, n, cp, L, most⟩ := s
  have hal : Below w.heap.size w (w.alloc (.cells #[.int .i64 kd, .int .i64 c, .slice A n cp, .int .i64 most] 49)) := (Below.refl _ _).alloc (Nat.le_refl _) _
  have H := Lib.hid (And.intro ((h.upd (Nat.le_refl _) 0).below hal) (And.intro (show MBlk (w.alloc (.cells #[.int .i64 kd, .int .i64 c, .slice A n cp, .int .i64 most] 49)) (K.upd σ w.heap.size 0) 0 w.heap.size 49 #[.int .i64 kd, .int .i64 c, .slice A n cp, .int .i64 most] from ⟨Blk.new _ _ _, upd_new (Nat.le_refl _)⟩) (show w0.heap.size ≤ w.heap.size from h.c.size)))
  have Hok := Lib.hid hs
  have Hmv := Lib.hid hmv
  unfold NSt.cells NSt.bytes
  dsimp only at *
  clear h hs hmv hal
  by_cases h1 : kd = 1
  · subst h1
    rw [show (N.did ⟨1, c, A, n, cp, L, most⟩).2.2 = (N.open_ c).2 from rfl]
    as_aux_lemma =>
      go_enter Try.func32, Try.ntmps32
      go_upto_region 3 with fail
      generalize w.alloc (.cells #[.int .i64 1, .int .i64 c, .slice A n cp, .int .i64 most] 49) = w3 at H ⊢
      generalize K.upd σ w.heap.size 0 = σ3 at H
      generalize w.heap.size = p at H ⊢
      obtain ⟨z, hz⟩ : ∃ z, (N.open_ c).1 = z := ⟨_, rfl⟩
      obtain ⟨N1, hN1⟩ : ∃ N1, (N.open_ c).2 = N1 := ⟨_, rfl⟩
      have HA : Hid (∀ W, Below w3.heap.size w3 W → Calls Try.prog 14 #[.pointer (some ⟨g, 0, none⟩), .int .i64 c] W fun e w' => e = .returned (.int .i64 z) ∧ ∃ σ', NetAt w' σ' 1000 g N1 ∧ Chg (Of 1000) σ3 w3 σ' w') := Lib.hid (fun W hb => by
        have := open_c W σ3 1000 g N (H.out.1.a.below hb) c Hok.out.wc
        rw [hz, hN1] at this
        exact this.mono (fun e w' ⟨he, σ', h', c'⟩ => ⟨he, σ', h', (Chg.of_below _ _ hb).trans c'⟩))
      have HB : Hid (∀ W σ1, Chg (Of 1000) σ3 w3 σ1 W → Calls Try.prog 45 #[.pointer (some ⟨r, 0, none⟩), .int .i64 c] W fun e w' => e = .returned (.int .i64 z) ∧ ∃ σ', RefAt w' σ' 2000 r N1 ∧ Chg (Od 2000) σ1 W σ' w') := Lib.hid (fun W σ1 cc => by
        have := q_open W σ1 2000 r N (H.out.1.r.chg cc (by unfold Of Od; omega)) c
        rw [hz, hN1] at this
        exact this)
      have hN : N1 = (N.open_ c).2 := hN1.symm
      have HN := Lib.hid hN
      have e1 : w3.cell? ⟨p, 1, none⟩ = some (.int .i64 c) := by rw [H.out.2.1.1.cell]; rfl
      have K1 : Hid (∀ W σ1, Chg (Of 1000) σ3 w3 σ1 W → W.cell? ⟨p, 1, none⟩ = some (.int .i64 c)) := Lib.hid (fun W σ1 cc => by
        have hb := (H.out.2.1.chg cc (by unfold Of; omega)).1
        rw [hb.cell]; rfl)
      have HDR : Hid (Below w3.heap.size w3 w3.drew) := Lib.hid (Below.refl _ _).drew
      have hzz : (z == z) = true := by simp
      clear hz hN1 hN
      go_region_law (first
        | (rw [if_pos (by rfl)]; go_simp; go_at_call 14; refine (HA.out _ (by first | exact HDR.out | exact Below.refl _ _)).mono ?_; rintro e w4 ⟨rfl, σ4, hA4, hc4⟩; have m1 := K1.out w4 σ4 hc4)
        | (rw [if_pos (by rfl)]; go_simp; go_at_call 45; refine (HB.out _ σ4 hc4).mono ?_; rintro e w5 ⟨rfl, σ5, hR5, hc5⟩)
        | fail)
      all_goals
        have hB := H.out.1.both hA4 hc4 hR5 hc5
        rw [HN.out] at hB
        have HBB := Lib.hid hB
        clear hA4 hc4 hR5 hc5 m1 hB
        go_wp2
        go_ret
        exact ⟨by first | rfl | simp, _, HBB.out⟩
  · skip
    by_cases h2 : kd = 2
    · subst h2
      clear h1
      rw [show (N.did ⟨2, c, A, n, cp, L, most⟩).2.2 = (N.send c L).2 from rfl]
      as_aux_lemma =>
        go_enter Try.func32, Try.ntmps32
        go_upto_region 5 with fail
        generalize w.alloc (.cells #[.int .i64 2, .int .i64 c, .slice A n cp, .int .i64 most] 49) = w3 at H ⊢
        generalize K.upd σ w.heap.size 0 = σ3 at H
        generalize w.heap.size = p at H ⊢
        have e1 : w3.cell? ⟨p, 1, none⟩ = some (.int .i64 c) := by rw [H.out.2.1.1.cell]; rfl
        have e2 : w3.cell? ⟨p, 2, none⟩ = some (.slice A n cp) := by rw [H.out.2.1.1.cell]; rfl
        go_wp2_with fail
        refine (lend_big w3 A n cp L Hok.out.len Hok.out.cap Hok.out.lim (H.out.1.reads Hok.out.rd)).mono ?_
        rintro e w4 ⟨q, rfl, hq0, hql, hbq, hbb⟩
        have hP4 := (H.out.1.upd (Nat.le_refl _) 0).below hbq
        have hp4 : MBlk w4 (K.upd σ3 w3.heap.size 0) 0 p 49 #[.int .i64 2, .int .i64 c, .slice A n cp, .int .i64 most] := (H.out.2.1.upd (Nat.le_refl _) 0).below hbq
        have hq4 : MBlk w4 (K.upd σ3 w3.heap.size 0) 0 q 5 (bs (lent L)).toArray := ⟨hbb, upd_new hq0⟩
        have hqw : w0.heap.size ≤ q := Nat.le_trans H.out.1.c.size hq0
        have HL4 := Lib.hid (And.intro hP4 (And.intro hp4 (And.intro hq4 hqw)))
        clear e1 e2 hbb hql hbq hP4 hp4 hq4 hqw hq0
        generalize K.upd σ3 w3.heap.size 0 = σ4 at HL4
        go_upto_region 6 with fail
        obtain ⟨z, hz⟩ : ∃ z, (N.send c L).1 = z := ⟨_, rfl⟩
        obtain ⟨N1, hN1⟩ : ∃ N1, (N.send c L).2 = N1 := ⟨_, rfl⟩
        have HA : Hid (∀ W, Below w4.heap.size w4 W → Calls Try.prog 15 #[.pointer (some ⟨g, 0, none⟩), .int .i64 c, .slice (some ⟨q, 0, none⟩) n (n + 9)] W fun e w' => e = .returned (.int .i64 z) ∧ ∃ σ', NetAt w' σ' 1000 g N1 ∧ Chg (Of 1000) σ4 w4 σ' w') := Lib.hid (fun W hb => by
          have := send_c W σ4 1000 g N (HL4.out.1.a.below hb) c Hok.out.wc (some ⟨q, 0, none⟩) n (n + 9) L Hok.out.len Hok.out.lim (by omega) (Reads.below (by have := (show BB w4 q (lent L) from HL4.out.2.2.1.1).reads; unfold lent lentAt at this; rw [bs_append] at this; have h2 := this.take (bs L).length; rwa [List.take_left] at h2) hb)
          rw [hz, hN1] at this
          exact this.mono (fun e w' ⟨he, σ', h', c'⟩ => ⟨he, σ', h', (Chg.of_below _ _ hb).trans c'⟩))
        have HB : Hid (∀ W σ1, Chg (Of 1000) σ4 w4 σ1 W → Calls Try.prog 46 #[.pointer (some ⟨r, 0, none⟩), .int .i64 c, .slice A n cp] W fun e w' => e = .returned (.int .i64 z) ∧ ∃ σ', RefAt w' σ' 2000 r N1 ∧ Chg (Od 2000) σ1 W σ' w') := Lib.hid (fun W σ1 cc => by
          have := q_send W σ1 2000 r N (HL4.out.1.r.chg cc (by unfold Of Od; omega)) c A n cp L Hok.out.len Hok.out.lim (reads_chg Hok.out.rd (HL4.out.1.c.trans (cc.mono (S' := O2) (fun _ h => .inl h))) (fun _ _ => O2_zero))
          rw [hz, hN1] at this
          exact this)
        have HC : Hid (∀ W1 σ1 W σ2, NetAt W1 σ1 1000 g N1 → Chg (Of 1000) σ4 w4 σ1 W1 → RefAt W σ2 2000 r N1 → Chg (Od 2000) σ1 W1 σ2 W → Calls Try.prog 22 #[.slice (some ⟨q, 0, none⟩) n (n + 9), .slice A n cp] W fun e w' => e = .returned (.bool true) ∧ ∃ σ', PW w0 g r w' σ' N1) := Lib.hid (fun W1 σ1 W σ2 a1 c1 a2 c2 => by
          have hP := HL4.out.1.both a1 c1 a2 c2
          have hq := blk_both HL4.out.2.2.1 c1 c2
          exact (back_big W q A n cp L Hok.out.len Hok.out.lim (hP.reads Hok.out.rd) hq.1).mono (fun e w' ⟨he, ho⟩ => ⟨he, σ2, hP.own ho hq.2 HL4.out.2.2.2⟩))
        have HN : Hid (N1 = (N.send c L).2) := Lib.hid hN1.symm
        have e1 : w4.cell? ⟨p, 1, none⟩ = some (.int .i64 c) := by rw [HL4.out.2.1.1.cell]; rfl
        have e2 : w4.cell? ⟨p, 2, none⟩ = some (.slice A n cp) := by rw [HL4.out.2.1.1.cell]; rfl
        have K1 : Hid (∀ W σ1, Chg (Of 1000) σ4 w4 σ1 W → W.cell? ⟨p, 1, none⟩ = some (.int .i64 c) ∧ W.cell? ⟨p, 2, none⟩ = some (.slice A n cp)) := Lib.hid (fun W σ1 cc => by
          have hb := (HL4.out.2.1.chg cc (by unfold Of; omega)).1
          exact ⟨by rw [hb.cell]; rfl, by rw [hb.cell]; rfl⟩)
        have K2 : Hid (∀ W1 σ1 W σ2, Chg (Of 1000) σ4 w4 σ1 W1 → Chg (Od 2000) σ1 W1 σ2 W → W.cell? ⟨p, 2, none⟩ = some (.slice A n cp)) := Lib.hid (fun W1 σ1 W σ2 c1 c2 => by
          have hb := (blk_both HL4.out.2.1 c1 c2).1
          rw [hb.cell]; rfl)
        have HDR : Hid (Below w4.heap.size w4 w4.drew) := Lib.hid (Below.refl _ _).drew
        have hzz : (z == z) = true := by simp
        clear hz hN1
        go_region_law (first
          | (rw [if_pos (by rfl)]; go_simp; go_at_call 15; refine (HA.out _ (by first | exact HDR.out | exact Below.refl _ _)).mono ?_; rintro e w5 ⟨rfl, σ5, hA5, hc5⟩; obtain ⟨m1, m2⟩ := K1.out w5 σ5 hc5)
          | (rw [if_pos (by rfl)]; go_simp; go_at_call 46; refine (HB.out _ σ5 hc5).mono ?_; rintro e w6 ⟨rfl, σ6, hR6, hc6⟩; have m3 := K2.out w5 σ5 w6 σ6 hc5 hc6)
          | (rw [if_pos (by rfl)]; go_simp; go_at_call 22; refine (HC.out w5 σ5 w6 σ6 hA5 hc5 hR6 hc6).mono ?_; rintro e w7 ⟨rfl, σ7, hP7⟩)
          | fail)
        all_goals
          rw [HN.out] at hP7
          have HBB := Lib.hid hP7
          clear hA5 hc5 hR6 hc6 m1 m2 m3 hP7
          go_wp2
          go_ret
          exact ⟨by first | rfl | simp, _, HBB.out⟩
    · skip
      by_cases h3 : kd = 3
      · subst h3
        clear h1 h2
        rw [show (N.did ⟨3, c, A, n, cp, L, most⟩).2.2 = (N.bring c most).2.2 from rfl]
        as_aux_lemma =>
          go_enter Try.func32, Try.ntmps32
          go_upto_region 8 with fail
          generalize w.alloc (.cells #[.int .i64 3, .int .i64 c, .slice A n cp, .int .i64 most] 49) = w3 at H ⊢
          generalize K.upd σ w.heap.size 0 = σ3 at H
          generalize w.heap.size = p at H ⊢
          obtain ⟨z1, hz1⟩ : ∃ z, (N.bring c most).1 = z := ⟨_, rfl⟩
          obtain ⟨z2, hz2⟩ : ∃ z, (N.bring c most).2.1 = z := ⟨_, rfl⟩
          obtain ⟨N1, hN1⟩ : ∃ N1, (N.bring c most).2.2 = N1 := ⟨_, rfl⟩
          have hA := bring_c w3 σ3 1000 g N H.out.1.a (by have := Hmv.out; omega) c most Hok.out.wc
          have hB := fun W σ1 (cc : Chg (Of 1000) σ3 w3 σ1 W) => q_bring W σ1 2000 r N (H.out.1.r.chg cc (by unfold Of Od; omega)) (by have := Hmv.out; omega) c most
          rw [hz1, hz2, hN1] at hA
          simp only [hz1, hz2, hN1] at hB
          have HB := Lib.hid hB
          have HA := Lib.hid hA
          have HN : Hid (N1 = (N.bring c most).2.2) := Lib.hid hN1.symm
          have e1 : w3.cell? ⟨p, 1, none⟩ = some (.int .i64 c) := by rw [H.out.2.1.1.cell]; rfl
          have e3 : w3.cell? ⟨p, 3, none⟩ = some (.int .i64 most) := by rw [H.out.2.1.1.cell]; rfl
          clear hA hB hz1 hz2 hN1
          go_wp2_with fail
          refine HA.out.mono ?_
          rintro e w4 ⟨rfl, σ4, hA4, hc4⟩
          have hb4 := (H.out.2.1.chg hc4 (by unfold Of; omega)).1
          have m1 : w4.cell? ⟨p, 1, none⟩ = some (.int .i64 c) := by rw [hb4.cell]; rfl
          have m3 : w4.cell? ⟨p, 3, none⟩ = some (.int .i64 most) := by rw [hb4.cell]; rfl
          have HA4 := Lib.hid (And.intro hA4 hc4)
          clear hA4 hc4 hb4 e1 e3
          go_wp2_with fail
          refine (HB.out _ σ4 HA4.out.2).mono ?_
          rintro e w5 ⟨rfl, σ5, hR5, hc5⟩
          have hB5 := H.out.1.both HA4.out.1 HA4.out.2 hR5 hc5
          rw [HN.out] at hB5
          have HR5 := Lib.hid hB5
          clear hR5 hc5 hB5 m1 m3
          have q1 : (z1 == z1) = true := by simp
          have q2 : (z2 == z2) = true := by simp
          go_wp2
          go_ret
          exact ⟨by first | rfl | simp, _, HR5.out⟩
      · skip
        by_cases h4 : kd = 4
        · subst h4
          clear h1 h2 h3
          rw [show (N.did ⟨4, c, A, n, cp, L, most⟩).2.2 = (N.take c).2.2 from rfl]
          as_aux_lemma =>
            go_enter Try.func32, Try.ntmps32
            go_upto_region 12 with fail
            generalize w.alloc (.cells #[.int .i64 4, .int .i64 c, .slice A n cp, .int .i64 most] 49) = w3 at H ⊢
            generalize K.upd σ w.heap.size 0 = σ3 at H
            generalize w.heap.size = p at H ⊢
            obtain ⟨z2, hz2⟩ : ∃ z, (N.take c).2.1 = z := ⟨_, rfl⟩
            obtain ⟨N1, hN1⟩ : ∃ N1, (N.take c).2.2 = N1 := ⟨_, rfl⟩
            obtain ⟨M, hM⟩ : ∃ M, (N.take c).1 = M := ⟨_, rfl⟩
            have hA := take_n w3 σ3 1000 g N H.out.1.a c Hok.out.wc
            have hB := fun W σ1 (cc : Chg (Of 1000) σ3 w3 σ1 W) => q_take W σ1 2000 r N (H.out.1.r.chg cc (by unfold Of Od; omega)) c
            rw [hz2, hN1, hM] at hA
            simp only [hz2, hN1, hM] at hB
            have HB := Lib.hid hB
            have HA := Lib.hid hA
            have HN : Hid (N1 = (N.take c).2.2) := Lib.hid hN1.symm
            have e1 : w3.cell? ⟨p, 1, none⟩ = some (.int .i64 c) := by rw [H.out.2.1.1.cell]; rfl
            clear hA hB hz2 hN1 hM
            go_wp2_with fail
            refine HA.out.mono ?_
            rintro e w4 ⟨v, rfl, σ4, hA4, hc4, hrow, hfar⟩
            obtain ⟨Av, cv, rfl⟩ := hrow.slice
            have hb4 := (H.out.2.1.chg hc4 (by unfold Of; omega)).1
            have m1 : w4.cell? ⟨p, 1, none⟩ = some (.int .i64 c) := by rw [hb4.cell]; rfl
            have HA4 := Lib.hid (And.intro hA4 (And.intro hc4 hrow))
            clear hA4 hc4 hb4 e1 hrow hfar
            go_wp2_with fail
            refine (HB.out _ σ4 HA4.out.2.1).mono ?_
            rintro e w5 ⟨Ab, nb, cb, rfl, hnc, hlen, hrd, σ5, hR5, hc5⟩
            have hB5 := H.out.1.both HA4.out.1 HA4.out.2.1 hR5 hc5
            rw [HN.out] at hB5
            have hrow5 : Row w5 σ5 0 5 1 (.slice Av M.length cv) M.length (bs M) := HA4.out.2.2.chg hc5 (by unfold Od; omega)
            have q1 := conv_reads (w := w5) (n := M.length) (cp := cv) rfl (Reads.of_row hrow5.1)
            have q2 := conv_reads (w := w5) (n := nb) (cp := cb) hlen hrd
            have HR5 := Lib.hid hB5
            clear hR5 hc5 hB5 m1 hrow5 hrd hlen hnc
            have q3 : (z2 == z2) = true := by simp
            go_wp2
            go_ret
            exact ⟨by first | rfl | simp, _, HR5.out⟩
        · skip
          by_cases h5 : kd = 5
          · subst h5
            clear h1 h2 h3 h4
            rw [show (N.did ⟨5, c, A, n, cp, L, most⟩).2.2 = (N.write c L).2.2 from rfl]
            as_aux_lemma =>
              go_enter Try.func32, Try.ntmps32
              go_upto_region 16 with fail
              generalize w.alloc (.cells #[.int .i64 5, .int .i64 c, .slice A n cp, .int .i64 most] 49) = w3 at H ⊢
              generalize K.upd σ w.heap.size 0 = σ3 at H
              generalize w.heap.size = p at H ⊢
              have e1 : w3.cell? ⟨p, 1, none⟩ = some (.int .i64 c) := by rw [H.out.2.1.1.cell]; rfl
              have e2 : w3.cell? ⟨p, 2, none⟩ = some (.slice A n cp) := by rw [H.out.2.1.1.cell]; rfl
              go_wp2_with fail
              refine (lend_big w3 A n cp L Hok.out.len Hok.out.cap Hok.out.lim (H.out.1.reads Hok.out.rd)).mono ?_
              rintro e w4 ⟨q, rfl, hq0, hql, hbq, hbb⟩
              have hP4 := (H.out.1.upd (Nat.le_refl _) 0).below hbq
              have hp4 : MBlk w4 (K.upd σ3 w3.heap.size 0) 0 p 49 #[.int .i64 5, .int .i64 c, .slice A n cp, .int .i64 most] := (H.out.2.1.upd (Nat.le_refl _) 0).below hbq
              have hq4 : MBlk w4 (K.upd σ3 w3.heap.size 0) 0 q 5 (bs (lent L)).toArray := ⟨hbb, upd_new hq0⟩
              have hqw : w0.heap.size ≤ q := Nat.le_trans H.out.1.c.size hq0
              have HL4 := Lib.hid (And.intro hP4 (And.intro hp4 (And.intro hq4 hqw)))
              clear e1 e2 hbb hql hbq hP4 hp4 hq4 hqw hq0
              generalize K.upd σ3 w3.heap.size 0 = σ4 at HL4
              obtain ⟨z1, hz1⟩ : ∃ z, (N.write c L).1 = z := ⟨_, rfl⟩
              obtain ⟨z2, hz2⟩ : ∃ z, (N.write c L).2.1 = z := ⟨_, rfl⟩
              obtain ⟨N1, hN1⟩ : ∃ N1, (N.write c L).2.2 = N1 := ⟨_, rfl⟩
              have hA := write_c w4 σ4 1000 g N HL4.out.1.a c Hok.out.wc (some ⟨q, 0, none⟩) n (n + 9) L Hok.out.len Hok.out.lim (by omega) (by have := (show BB w4 q (lent L) from HL4.out.2.2.1.1).reads; unfold lent lentAt at this; rw [bs_append] at this; have h2 := this.take (bs L).length; rwa [List.take_left] at h2)
              have hB := fun W σ1 (cc : Chg (Of 1000) σ4 w4 σ1 W) => q_write W σ1 2000 r N (HL4.out.1.r.chg cc (by unfold Of Od; omega)) c A n cp L Hok.out.len Hok.out.lim Hok.out.cap (reads_chg Hok.out.rd (HL4.out.1.c.trans (cc.mono (S' := O2) (fun _ h => .inl h))) (fun _ _ => O2_zero))
              rw [hz1, hz2, hN1] at hA
              simp only [hz1, hz2, hN1] at hB
              have HB := Lib.hid hB
              have HA := Lib.hid hA
              have HN : Hid (N1 = (N.write c L).2.2) := Lib.hid hN1.symm
              have e1 : w4.cell? ⟨p, 1, none⟩ = some (.int .i64 c) := by rw [HL4.out.2.1.1.cell]; rfl
              have e2 : w4.cell? ⟨p, 2, none⟩ = some (.slice A n cp) := by rw [HL4.out.2.1.1.cell]; rfl
              clear hA hB hz1 hz2 hN1
              go_wp2_with fail
              refine HA.out.mono ?_
              rintro e w5 ⟨rfl, σ5, hA5, hc5⟩
              have hb5 := (HL4.out.2.1.chg hc5 (by unfold Of; omega)).1
              have m1 : w5.cell? ⟨p, 1, none⟩ = some (.int .i64 c) := by rw [hb5.cell]; rfl
              have m2 : w5.cell? ⟨p, 2, none⟩ = some (.slice A n cp) := by rw [hb5.cell]; rfl
              have HA5 := Lib.hid (And.intro hA5 hc5)
              clear hA5 hc5 hb5 e1 e2
              go_wp2_with fail
              refine (HB.out _ σ5 HA5.out.2).mono ?_
              rintro e w6 ⟨rfl, σ6, hR6, hc6⟩
              have hP6 := HL4.out.1.both HA5.out.1 HA5.out.2 hR6 hc6
              have hq6 := blk_both HL4.out.2.2.1 HA5.out.2 hc6
              have hp6 := blk_both HL4.out.2.1 HA5.out.2 hc6
              have m3 : w6.cell? ⟨p, 2, none⟩ = some (.slice A n cp) := by rw [hp6.1.cell]; rfl
              have HP6 := Lib.hid (And.intro hP6 hq6)
              clear hR6 hc6 hP6 hq6 hp6 m1 m2
              have q1 : (z1 == z1) = true := by simp
              have q2 : (z2 == z2) = true := by simp
              go_wp2_with fail
              refine (back_big w6 q A n cp L Hok.out.len Hok.out.lim (HP6.out.1.reads Hok.out.rd) HP6.out.2.1).mono ?_
              rintro e w7 ⟨rfl, ho⟩
              have hP7 := HP6.out.1.own ho HP6.out.2.2 HL4.out.2.2.2
              rw [HN.out] at hP7
              have HP7 := Lib.hid hP7
              clear ho hP7
              go_wp2
              go_ret
              exact ⟨by first | rfl | simp, _, HP7.out⟩
          · skip
            by_cases h6 : kd = 6
            · subst h6
              clear h1 h2 h3 h4 h5
              rw [show (N.did ⟨6, c, A, n, cp, L, most⟩).2.2 = (N.fetch c most).2.2 from rfl]
              as_aux_lemma =>
                go_enter Try.func32, Try.ntmps32
                go_upto_region 21 with fail
                generalize w.alloc (.cells #[.int .i64 6, .int .i64 c, .slice A n cp, .int .i64 most] 49) = w3 at H ⊢
                generalize K.upd σ w.heap.size 0 = σ3 at H
                generalize w.heap.size = p at H ⊢
                obtain ⟨z1, hz1⟩ : ∃ z, (N.fetch c most).1 = z := ⟨_, rfl⟩
                obtain ⟨z2, hz2⟩ : ∃ z, (N.fetch c most).2.1 = z := ⟨_, rfl⟩
                obtain ⟨N1, hN1⟩ : ∃ N1, (N.fetch c most).2.2 = N1 := ⟨_, rfl⟩
                have hA := fetch_c w3 σ3 1000 g N H.out.1.a (by have := Hmv.out; omega) c most Hok.out.wc
                have hB := fun W σ1 (cc : Chg (Of 1000) σ3 w3 σ1 W) => q_fetch W σ1 2000 r N (H.out.1.r.chg cc (by unfold Of Od; omega)) (by have := Hmv.out; omega) c most
                rw [hz1, hz2, hN1] at hA
                simp only [hz1, hz2, hN1] at hB
                have HB := Lib.hid hB
                have HA := Lib.hid hA
                have HN : Hid (N1 = (N.fetch c most).2.2) := Lib.hid hN1.symm
                have e1 : w3.cell? ⟨p, 1, none⟩ = some (.int .i64 c) := by rw [H.out.2.1.1.cell]; rfl
                have e3 : w3.cell? ⟨p, 3, none⟩ = some (.int .i64 most) := by rw [H.out.2.1.1.cell]; rfl
                clear hA hB hz1 hz2 hN1
                go_wp2_with fail
                refine HA.out.mono ?_
                rintro e w4 ⟨rfl, σ4, hA4, hc4⟩
                have hb4 := (H.out.2.1.chg hc4 (by unfold Of; omega)).1
                have m1 : w4.cell? ⟨p, 1, none⟩ = some (.int .i64 c) := by rw [hb4.cell]; rfl
                have m3 : w4.cell? ⟨p, 3, none⟩ = some (.int .i64 most) := by rw [hb4.cell]; rfl
                have HA4 := Lib.hid (And.intro hA4 hc4)
                clear hA4 hc4 hb4 e1 e3
                go_wp2_with fail
                refine (HB.out _ σ4 HA4.out.2).mono ?_
                rintro e w5 ⟨rfl, σ5, hR5, hc5⟩
                have hB5 := H.out.1.both HA4.out.1 HA4.out.2 hR5 hc5
                rw [HN.out] at hB5
                have HR5 := Lib.hid hB5
                clear hR5 hc5 hB5 m1 m3
                have q1 : (z1 == z1) = true := by simp
                have q2 : (z2 == z2) = true := by simp
                go_wp2
                go_ret
                exact ⟨by first | rfl | simp, _, HR5.out⟩
            · skip
              by_cases h7 : kd = 7
              · subst h7
                clear h1 h2 h3 h4 h5 h6
                rw [show (N.did ⟨7, c, A, n, cp, L, most⟩).2.2 = (N.close c).2 from rfl]
                as_aux_lemma =>
                  go_enter Try.func32, Try.ntmps32
                  go_upto_region 25 with fail
                  generalize w.alloc (.cells #[.int .i64 7, .int .i64 c, .slice A n cp, .int .i64 most] 49) = w3 at H ⊢
                  generalize K.upd σ w.heap.size 0 = σ3 at H
                  generalize w.heap.size = p at H ⊢
                  obtain ⟨z, hz⟩ : ∃ z, (N.close c).1 = z := ⟨_, rfl⟩
                  obtain ⟨N1, hN1⟩ : ∃ N1, (N.close c).2 = N1 := ⟨_, rfl⟩
                  have HA : Hid (∀ W, Below w3.heap.size w3 W → Calls Try.prog 29 #[.pointer (some ⟨g, 0, none⟩), .int .i64 c] W fun e w' => e = .returned (.int .i64 z) ∧ ∃ σ', NetAt w' σ' 1000 g N1 ∧ Chg (Of 1000) σ3 w3 σ' w') := Lib.hid (fun W hb => by
                    have := close_c W σ3 1000 g N (H.out.1.a.below hb) c Hok.out.wc
                    rw [hz, hN1] at this
                    exact this.mono (fun e w' ⟨he, σ', h', c'⟩ => ⟨he, σ', h', (Chg.of_below _ _ hb).trans c'⟩))
                  have HB : Hid (∀ W σ1, Chg (Of 1000) σ3 w3 σ1 W → Calls Try.prog 51 #[.pointer (some ⟨r, 0, none⟩), .int .i64 c] W fun e w' => e = .returned (.int .i64 z) ∧ ∃ σ', RefAt w' σ' 2000 r N1 ∧ Chg (Od 2000) σ1 W σ' w') := Lib.hid (fun W σ1 cc => by
                    have := q_close W σ1 2000 r N (H.out.1.r.chg cc (by unfold Of Od; omega)) c
                    rw [hz, hN1] at this
                    exact this)
                  have hN : N1 = (N.close c).2 := hN1.symm
                  have HN := Lib.hid hN
                  have e1 : w3.cell? ⟨p, 1, none⟩ = some (.int .i64 c) := by rw [H.out.2.1.1.cell]; rfl
                  have K1 : Hid (∀ W σ1, Chg (Of 1000) σ3 w3 σ1 W → W.cell? ⟨p, 1, none⟩ = some (.int .i64 c)) := Lib.hid (fun W σ1 cc => by
                    have hb := (H.out.2.1.chg cc (by unfold Of; omega)).1
                    rw [hb.cell]; rfl)
                  have HDR : Hid (Below w3.heap.size w3 w3.drew) := Lib.hid (Below.refl _ _).drew
                  have hzz : (z == z) = true := by simp
                  clear hz hN1 hN
                  go_region_law (first
                    | (rw [if_pos (by rfl)]; go_simp; go_at_call 29; refine (HA.out _ (by first | exact HDR.out | exact Below.refl _ _)).mono ?_; rintro e w4 ⟨rfl, σ4, hA4, hc4⟩; have m1 := K1.out w4 σ4 hc4)
                    | (rw [if_pos (by rfl)]; go_simp; go_at_call 51; refine (HB.out _ σ4 hc4).mono ?_; rintro e w5 ⟨rfl, σ5, hR5, hc5⟩)
                    | fail)
                  all_goals
                    have hB := H.out.1.both hA4 hc4 hR5 hc5
                    rw [HN.out] at hB
                    have HBB := Lib.hid hB
                    clear hA4 hc4 hR5 hc5 m1 hB
                    go_wp2
                    go_ret
                    exact ⟨by first | rfl | simp, _, HBB.out⟩
              · skip
                by_cases h8 : kd = 8
                · subst h8
                  clear h1 h2 h3 h4 h5 h6 h7
                  rw [show (N.did ⟨8, c, A, n, cp, L, most⟩).2.2 = (N.cut_ c).2 from rfl]
                  as_aux_lemma =>
                    go_enter Try.func32, Try.ntmps32
                    go_upto_region 27 with fail
                    generalize w.alloc (.cells #[.int .i64 8, .int .i64 c, .slice A n cp, .int .i64 most] 49) = w3 at H ⊢
                    generalize K.upd σ w.heap.size 0 = σ3 at H
                    generalize w.heap.size = p at H ⊢
                    obtain ⟨z, hz⟩ : ∃ z, (N.cut_ c).1 = z := ⟨_, rfl⟩
                    obtain ⟨N1, hN1⟩ : ∃ N1, (N.cut_ c).2 = N1 := ⟨_, rfl⟩
                    have HA : Hid (∀ W, Below w3.heap.size w3 W → Calls Try.prog 30 #[.pointer (some ⟨g, 0, none⟩), .int .i64 c] W fun e w' => e = .returned (.int .i64 z) ∧ ∃ σ', NetAt w' σ' 1000 g N1 ∧ Chg (Of 1000) σ3 w3 σ' w') := Lib.hid (fun W hb => by
                      have := cut_c W σ3 1000 g N (H.out.1.a.below hb) c Hok.out.wc
                      rw [hz, hN1] at this
                      exact this.mono (fun e w' ⟨he, σ', h', c'⟩ => ⟨he, σ', h', (Chg.of_below _ _ hb).trans c'⟩))
                    have HB : Hid (∀ W σ1, Chg (Of 1000) σ3 w3 σ1 W → Calls Try.prog 52 #[.pointer (some ⟨r, 0, none⟩), .int .i64 c] W fun e w' => e = .returned (.int .i64 z) ∧ ∃ σ', RefAt w' σ' 2000 r N1 ∧ Chg (Od 2000) σ1 W σ' w') := Lib.hid (fun W σ1 cc => by
                      have := q_cut_ W σ1 2000 r N (H.out.1.r.chg cc (by unfold Of Od; omega)) c
                      rw [hz, hN1] at this
                      exact this)
                    have hN : N1 = (N.cut_ c).2 := hN1.symm
                    have HN := Lib.hid hN
                    have e1 : w3.cell? ⟨p, 1, none⟩ = some (.int .i64 c) := by rw [H.out.2.1.1.cell]; rfl
                    have K1 : Hid (∀ W σ1, Chg (Of 1000) σ3 w3 σ1 W → W.cell? ⟨p, 1, none⟩ = some (.int .i64 c)) := Lib.hid (fun W σ1 cc => by
                      have hb := (H.out.2.1.chg cc (by unfold Of; omega)).1
                      rw [hb.cell]; rfl)
                    have HDR : Hid (Below w3.heap.size w3 w3.drew) := Lib.hid (Below.refl _ _).drew
                    have hzz : (z == z) = true := by simp
                    clear hz hN1 hN
                    go_region_law (first
                      | (rw [if_pos (by rfl)]; go_simp; go_at_call 30; refine (HA.out _ (by first | exact HDR.out | exact Below.refl _ _)).mono ?_; rintro e w4 ⟨rfl, σ4, hA4, hc4⟩; have m1 := K1.out w4 σ4 hc4)
                      | (rw [if_pos (by rfl)]; go_simp; go_at_call 52; refine (HB.out _ σ4 hc4).mono ?_; rintro e w5 ⟨rfl, σ5, hR5, hc5⟩)
                      | fail)
                    all_goals
                      have hB := H.out.1.both hA4 hc4 hR5 hc5
                      rw [HN.out] at hB
                      have HBB := Lib.hid hB
                      clear hA4 hc4 hR5 hc5 m1 hB
                      go_wp2
                      go_ret
                      exact ⟨by first | rfl | simp, _, HBB.out⟩
                · skip
                  have hdid : (N.did ⟨kd, c, A, n, cp, L, most⟩).2.2 = N := by unfold NS.did; simp only [h1, h2, h3, h4, h5, h6, h7, h8, if_false]
                  rw [hdid]
                  have b1 : (kd == 1) = false := by simpa using h1
                  have b2 : (kd == 2) = false := by simpa using h2
                  have b3 : (kd == 3) = false := by simpa using h3
                  have b4 : (kd == 4) = false := by simpa using h4
                  have b5 : (kd == 5) = false := by simpa using h5
                  have b6 : (kd == 6) = false := by simpa using h6
                  have b7 : (kd == 7) = false := by simpa using h7
                  have b8 : (kd == 8) = false := by simpa using h8
                  go_enter Try.func32, Try.ntmps32
                  go_wp2
                  go_ret
                  exact ⟨rfl, _, H.out.1⟩
end Go.Proofs.Ytalabfbnbiagiaa.C
