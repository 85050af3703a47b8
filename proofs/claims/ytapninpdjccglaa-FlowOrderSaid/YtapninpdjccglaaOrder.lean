/-
  The call of the law FlowOrder (under way).
-/
import Derived.Test.YtapninpdjccglaaOrderY
set_option linter.unusedVariables false
set_option linter.unusedSimpArgs false
namespace Go.Proofs.Ytapninpdjccglaa.C
open Go.RowKit Go.Proofs.Ytapninpdjccglaa.K

theorem info45' : (Try.prog.info? 45).map (fun i => (i.zero, i.size, i.bytes)) = some (some (.slice none 0 0), 1, 24) := by kernel_rfl
theorem info50' : (Try.prog.info? 50).map (fun i => (i.zero, i.size, i.bytes)) = some (some (.slice none 0 0), 1, 24) := by kernel_rfl

set_option maxRecDepth 100000 in
set_option maxHeartbeats 3200000 in
theorem flowOrder_walk (w : World) (a0 : Int) (y0 : (Lit.int .i64 a0).wf = true) (a1 : Int) (y1 : (Lit.int .i64 a1).wf = true) (a2 : Int) (y2 : (Lit.int .i64 a2).wf = true)
    (v : Value) (hv : ∃ (A : Option Addr) (n c : Nat) (f : Nat → St), v = .slice A n c ∧ n ≤ c ∧ Steps w A n f ∧ n ≤ 140737488351232) :
    Calls Try.prog 6 #[.int .i64 a0, .int .i64 a1, .int .i64 a2, v] w fun e w' => e = .returned (.bool true) ∧ Below w.heap.size w w' := by
  obtain ⟨A, n, c, f, rfl, hnc, hS, hcm⟩ := hv
  obtain ⟨j1, hj1, ha0, ha1, ha2⟩ := info_of info45'
  obtain ⟨j2, hj2, hv0, hv1, hv2⟩ := info_of info50'
  have HS := Lib.hid (And.intro hS (And.intro hnc hcm))
  clear hS hnc y0 y1 y2
  by_cases hn : (5000 : Int) < (n : Int)
  · go_enter Try.func6, Try.ntmps6
    go_wp2_with fail
    refine (known_c w).mono ?_
    rintro e w1 ⟨rfl, hb1⟩
    go_wp2
    go_ret
    exact ⟨rfl, hb1⟩
  · go_enter Try.func6, Try.ntmps6
    go_wp2_with fail
    refine (known_c w).mono ?_
    rintro e w1 ⟨rfl, hb1⟩
    go_wp2_with fail
    refine (small_c w1 a0 8 (by omega) (by omega)).mono ?_
    rintro e wx ⟨s, rfl, hs1, hs2, rfl⟩
    go_wp2_with fail
    refine (small_c w1 a1 8 (by omega) (by omega)).mono ?_
    rintro e wx ⟨o, rfl, ho1, ho2, rfl⟩
    go_wp2_with fail
    refine (small_c w1 a2 64 (by omega) (by omega)).mono ?_
    rintro e wx ⟨m, rfl, hm1, hm2, rfl⟩
    obtain ⟨s, rfl⟩ := Int.eq_ofNat_of_zero_le (show 0 ≤ s by omega)
    obtain ⟨o, rfl⟩ := Int.eq_ofNat_of_zero_le (show 0 ≤ o by omega)
    obtain ⟨m, rfl⟩ := Int.eq_ofNat_of_zero_le (show 0 ≤ m by omega)
    have hk : okNew s o m := by unfold okNew; omega
    go_wp2_with fail
    refine (new_yes w1 (fun _ => 0) 1000 s o m hk).mono ?_
    rintro e w2 ⟨g, σ2, rfl, h2, c2, hg⟩
    have hm1 := fun W => run_make_rowN (P := Try.prog) 42 45 j1 _ Try.underlying42 hj1 ha0 .i64 .i64 s s (Nat.le_refl _) (by rw [ha2]; omega) (by omega) W
    have hm2 := fun W => run_make_rowN (P := Try.prog) 43 50 j2 _ Try.underlying43 hj2 hv0 .i64 .i64 o o (Nat.le_refl _) (by rw [hv2]; omega) (by omega) W
    rw [ha1] at hm1
    rw [hv1] at hm2
    have hi2 : FInv (FS.new s o m) := FInv.new hk
    have c2' : Chg (Of 1000) (fun _ => 0) w σ2 w2 := (Chg.of_below (Of 1000) (fun _ => 0) hb1).trans (c2.mono (fun _ h => h.elim))
    have H2a := OW.new (len := n) h2 hi2 c2'
    rw [Nat.mul_one, Nat.mul_one] at H2a
    have H2 := Lib.hid H2a
    have h8 : s ≤ 8 ∧ o ≤ 8 := by omega
    have hn5 : n ≤ 5000 := by omega
    clear H2a hj1 hj2 ha0 ha1 ha2 hv0 hv1 hv2 h2 hi2 c2 c2' hb1 hg
    go_wp2_with fail
    go_loopw [13] (fun i wr => ∃ (k : Nat) (σ : Nat → Nat) (F : FS) (P : Nat → List It) (T : Nat → List Ms) (pv tv : Nat → Value), k ≤ n ∧ i = .int .i64 k ∧ OW w g w2.heap.size (w2.heap.size + 1) o s n wr σ F P T pv tv ∧ OInv F P T ∧ (∀ i, i < s → (P i).length ≤ k ∧ ∀ x ∈ P i, ItOk x) ∧ ∀ j, j < o → (T j).length + pot F ≤ 8 * k) (fun i _ => n - (intOf i).toNat)
    case atStart => exact ⟨0, _, _, _, _, _, _, Nat.zero_le _, rfl, H2.out, OInv.new s o m, fun i _ => ⟨Nat.le_refl _, by simp⟩, fun j _ => by
      have : pot (FS.new s o m) = 0 := by
        unfold pot
        rw [sumTo_zero (fun k _ => by unfold qleft costs; rfl), sumTo_zero (f := fun j => ((FS.new s o m).b j).length) (fun k _ => rfl)]
      rw [this]
      exact Nat.le_refl _⟩
    case round =>
      clear H2 hm1 hm2
      obtain ⟨k, σ, F, P, T, pv, tv, hk, rfl, hW, hI, hP, hT⟩ := hrel
      generalize w2.heap.size = gp at hW ⊢
      generalize hgt : gp + 1 = gt at hW ⊢
      clear hgt
      by_cases hlt : k < n
      · obtain ⟨b, off, rfl, hb, hc⟩ := HS.out.1.at_ (by omega)
        obtain ⟨wk, wa⟩ := HS.out.1.wf k hlt
        have hcs := hc k hlt
        clear hc
        generalize f k = st at wk wa hcs
        obtain ⟨kd, a, x⟩ := st
        obtain ⟨xm, xk, xt, xv⟩ := x
        have hbk : ∀ j, wr.cell? ⟨b, j, none⟩ = w.cell? ⟨b, j, none⟩ := fun j => World.cell?_of_block (a := ⟨b, j, none⟩) (hW.c.block b hb (by unfold OS Of; omega))
        have d0 : wr.cell? ⟨b, off + k * 6, none⟩ = some (.int .i64 kd) := (hbk _).trans (hcs 0 _ rfl)
        have d1 : wr.cell? ⟨b, off + k * 6 + 1, none⟩ = some (.int .i64 a) := (hbk _).trans (hcs 1 _ rfl)
        have d2 : wr.cell? ⟨b, off + k * 6 + 2, none⟩ = some (.bool xm) := (hbk _).trans (hcs 2 _ rfl)
        have d3 : wr.cell? ⟨b, off + k * 6 + 3, none⟩ = some (.string xk) := (hbk _).trans (hcs 3 _ rfl)
        have d4 : wr.cell? ⟨b, off + k * 6 + 4, none⟩ = some (.int .i64 xt) := (hbk _).trans (hcs 4 _ rfl)
        have d5 : wr.cell? ⟨b, off + k * 6 + 5, none⟩ = some (.int .i64 xv) := (hbk _).trans (hcs 5 _ rfl)
        have i0 : (0 : Int) ≤ (k : Int) := by omega
        have i1 : (k : Int) < (n : Int) := by omega
        have H3 : Hid (OX w g gp gt o s n wr.heap.size 35 #[.int .i64 kd, .int .i64 a, .bool xm, .string xk, .int .i64 xt, .int .i64 xv] (wr.alloc (.cells #[.int .i64 kd, .int .i64 a, .bool xm, .string xk, .int .i64 xt, .int .i64 xv] 35)) (K.upd σ wr.heap.size 0) F P T pv tv) := OX.new hW h8.1 h8.2 35 _
        have HX := Lib.hid (And.intro hI (And.intro hP hT))
        clear hW hI hP hT hbk hcs hb
        by_cases h1 : kd = 1
        · subst h1
          go_wp2_with fail
          clear d0 d1 d2 d3 d4 d5
          generalize hw3 : wr.alloc (.cells #[.int .i64 1, .int .i64 a, .bool xm, .string xk, .int .i64 xt, .int .i64 xv] 35) = w3 at H3 ⊢
          clear hw3
          generalize K.upd σ wr.heap.size 0 = σ3 at H3
          generalize wr.heap.size = p at H3 ⊢
          have e0 : w3.cell? ⟨p, 0, none⟩ = some (.int .i64 1) := by rw [H3.out.blk.1.cell]; rfl
          have e1 : w3.cell? ⟨p, 1, none⟩ = some (.int .i64 a) := by rw [H3.out.blk.1.cell]; rfl
          have e2 : w3.cell? ⟨p, 2, none⟩ = some (.bool xm) := by rw [H3.out.blk.1.cell]; rfl
          have e3 : w3.cell? ⟨p, 3, none⟩ = some (.string xk) := by rw [H3.out.blk.1.cell]; rfl
          have e4 : w3.cell? ⟨p, 4, none⟩ = some (.int .i64 xt) := by rw [H3.out.blk.1.cell]; rfl
          have e5 : w3.cell? ⟨p, 5, none⟩ = some (.int .i64 xv) := by rw [H3.out.blk.1.cell]; rfl
          go_wp2_with fail
          refine (put_any w3 σ3 1000 g F H3.out.at_ a ⟨xm, xk, xt, xv⟩).mono ?_
          rintro e w5 ⟨he, σ5, h5, d5⟩
          clear e0 e1 e2 e3 e4 e5
          by_cases hr : (F.put a ⟨xm, xk, xt, xv⟩).1 = 0
          · obtain ⟨ha0, ha1, hmay⟩ := put_in hr
            rw [H3.out.hs] at ha1
            obtain ⟨d, rfl⟩ := Int.eq_ofNat_of_zero_le ha0
            have hd : d < s := by omega
            rw [hr] at he
            subst he
            have hI5 := HX.out.1.put hr
            have hp5 := put_pot H3.out.at_.good d ⟨xm, xk, xt, xv⟩
            have H5 : Hid (OX w g gp gt o s n p 35 #[.int .i64 1, .int .i64 (d : Int), .bool xm, .string xk, .int .i64 xt, .int .i64 xv] w5 σ5 (F.put d ⟨xm, xk, xt, xv⟩).2 P T pv tv) := H3.out.flow h5 (H3.out.inv.put d _) (put_like _ _ _) h8.1 h8.2 d5
            generalize (F.put d ⟨xm, xk, xt, xv⟩).2 = F5 at H5 hI5 hp5
            have hT5 : ∀ j, j < o → (T j).length + pot F5 ≤ 8 * (k + 1) := fun j hj => by have := HX.out.2.2 j hj; omega
            have hP5 := put_keeps (k := k) hd HX.out.2.1 (may_ok hmay)
            have hnk := (HX.out.2.1 d hd).1
            have HY := Lib.hid (And.intro hI5 (And.intro hP5 hT5))
            clear h5 d5 hr HX H3 hI5 hp5 hT5 hP5 hmay
            obtain ⟨A2, n2, c2, hpre⟩ := H5.out.preP h8.1 hd ⟨xm, xk, xt, xv⟩
            have hln := hpre.len
            rw [hln] at hnk
            have HPR := Lib.hid hpre
            have e0 : w5.cell? ⟨p, 0, none⟩ = some (.int .i64 1) := by rw [H5.out.blk.1.cell]; rfl
            have e1 : w5.cell? ⟨p, 1, none⟩ = some (.int .i64 (d : Int)) := by rw [H5.out.blk.1.cell]; rfl
            have e2 : w5.cell? ⟨p, 2, none⟩ = some (.bool xm) := by rw [H5.out.blk.1.cell]; rfl
            have e3 : w5.cell? ⟨p, 3, none⟩ = some (.string xk) := by rw [H5.out.blk.1.cell]; rfl
            have e4 : w5.cell? ⟨p, 4, none⟩ = some (.int .i64 xt) := by rw [H5.out.blk.1.cell]; rfl
            have e5 : w5.cell? ⟨p, 5, none⟩ = some (.int .i64 xv) := by rw [H5.out.blk.1.cell]; rfl
            have q0 := hpre.c0
            have kq : (w5.alloc (.cells #[.bool xm, .string xk, .int .i64 xt, .int .i64 xv] 33)).cell? ⟨gp, d, none⟩ = some (.slice A2 n2 c2) := hpre.ca
            have ke : (w5.alloc (.cells #[.bool xm, .string xk, .int .i64 xt, .int .i64 xv] 33)).cell? ⟨p, 1, none⟩ = some (.int .i64 (d : Int)) := (((Below.refl _ _).alloc (Nat.le_refl _) _ : Below w5.heap.size w5 _).cell (p := ⟨p, 1, none⟩) (World.block_lt_of_cell? _ _ e1)).trans e1
            have hfz := hpre.fz
            have hne1 := World.new_ne w5 _ q0
            have hne2 : ¬ gp = w5.heap.size := fun e => hne1 e.symm
            have hne3 := World.new_ne w5 _ e1
            have hne4 : ¬ p = w5.heap.size := fun e => hne3 e.symm
            clear hpre hln
            obtain ⟨i3, hi3, hz0, hz1, hz2⟩ := info_of info33'
            have KK : Hid (∀ (w2 : World) (σ2 : Nat → Nat), Chg (fun y => y = 50 + d) σ5 ((w5.alloc (.cells (it ⟨xm, xk, xt, xv⟩).toArray 33)).drew) σ2 w2 → w2.cell? ⟨gp, d, none⟩ = some (.slice A2 n2 c2) ∧ w2.cell? ⟨p, 1, none⟩ = some (.int .i64 (d : Int)) ∧ w2.frozen? ⟨gp, d, none⟩ = false) := Lib.hid (fun w2 σ2 hc2 => by
              obtain ⟨k1, k2, k3⟩ := HPR.out.kk w2 σ2 hc2
              exact ⟨k1, (k2 1).trans e1, k3⟩)
            go_wp2_with fail
            refine wp_last ?_
            intro Kq hKq
            go_cut [] (fun w' => ∃ (σ' : Nat → Nat) (pv' : Nat → Value), OW w g gp gt o s n w' σ' F5 (updL P d (P d ++ [⟨xm, xk, xt, xv⟩])) T pv' tv)
            case first =>
              go_region_law (first | (refine step_append_srow (by rfl) _ _ 45 (by rfl) σ5 (50 + d) 33 i3 _ 4 40 Try.underlying45 hi3 hz0 hz1 hz2 rfl (by omega) (.slice A2 n2 c2) n2 (its (P d)) (by rfl) (HPR.out.row.below HPR.out.bel) ⟨w5.heap.size, 0, none⟩ 1 1 (it ⟨xm, xk, xt, xv⟩) (by rfl) rfl (HPR.out.news) (it_one _) (by unfold maxLen; omega) (by omega) ?_; intro v2 w2 hs2 hc2; obtain ⟨A2, c2, rfl, -⟩ := hs2.slice; obtain ⟨kk0, kk1, kkf⟩ := KK.out _ _ hc2) | fail)
              all_goals
                have hres := OW.tput H5.out.toOW hd ⟨xm, xk, xt, xv⟩ h8.1 h8.2 HPR.out.bel HPR.out.len hs2 hc2
                clear hs2 hc2 kk0 kk1 kkf
                go_wp2_with fail
                go_meet
                case rel => exact ⟨_, _, hres⟩
            case rest =>
              rename World => w6
              obtain ⟨σ6, pv6, h6⟩ := hcut
              have H6 := Lib.hid h6
              clear h6 e0 e1 e2 e3 e4 e5 q0 kq ke hfz
              refine hKq _ _ ?_
              go_wp2_with fail
              go_roundw
              case rel => exact ⟨k + 1, _, F5, _, T, _, tv, by omega, by go_num, H6.out, HY.out⟩
              case measure => simp [intOf]; omega
          · have hno := put_no hr
            rw [hno] at h5
            have hf : ((F.put a ⟨xm, xk, xt, xv⟩).1 == 0) = false := by simpa using hr
            generalize (F.put a ⟨xm, xk, xt, xv⟩).1 = r at he hf
            subst he
            have H5 := Lib.hid (H3.out.flow h5 H3.out.inv ⟨rfl, rfl, rfl⟩ h8.1 h8.2 d5).toOW
            clear h5 d5 hr hno H3
            go_wp2_with fail
            go_roundw
            case rel => exact ⟨k + 1, _, F, P, T, pv, tv, by omega, by go_num, H5.out, HX.out.1, fun i hi => ⟨by have := (HX.out.2.1 i hi).1; omega, (HX.out.2.1 i hi).2⟩, fun j hj => by have := HX.out.2.2 j hj; omega⟩
            case measure => simp [intOf]; omega
        · by_cases h2 : kd = 2
          · subst h2
            clear h1
            go_wp2_with fail
            clear d0 d1 d2 d3 d4 d5
            generalize hw3 : wr.alloc (.cells #[.int .i64 2, .int .i64 a, .bool xm, .string xk, .int .i64 xt, .int .i64 xv] 35) = w3 at H3 ⊢
            clear hw3
            generalize K.upd σ wr.heap.size 0 = σ3 at H3
            generalize wr.heap.size = p at H3 ⊢
            have e0 : w3.cell? ⟨p, 0, none⟩ = some (.int .i64 2) := by rw [H3.out.blk.1.cell]; rfl
            have e1 : w3.cell? ⟨p, 1, none⟩ = some (.int .i64 a) := by rw [H3.out.blk.1.cell]; rfl
            have e2 : w3.cell? ⟨p, 2, none⟩ = some (.bool xm) := by rw [H3.out.blk.1.cell]; rfl
            have e3 : w3.cell? ⟨p, 3, none⟩ = some (.string xk) := by rw [H3.out.blk.1.cell]; rfl
            have e4 : w3.cell? ⟨p, 4, none⟩ = some (.int .i64 xt) := by rw [H3.out.blk.1.cell]; rfl
            have e5 : w3.cell? ⟨p, 5, none⟩ = some (.int .i64 xv) := by rw [H3.out.blk.1.cell]; rfl
            go_wp2_with fail
            refine (pass_any w3 σ3 1000 g F H3.out.at_ H3.out.inv.ok H3.out.inv.tz a).mono ?_
            rintro e w5 ⟨he, σ5, h5, d5⟩
            clear e0 e1 e2 e3 e4 e5
            have hI5 := HX.out.1.pass H3.out.inv.tz a
            have hp5 := pass_kept HX.out.1 H3.out.inv.tz H3.out.at_.good a
            have H5 := Lib.hid (H3.out.flow h5 (H3.out.inv.pass H3.out.at_.good a) (pass_like _ _) h8.1 h8.2 d5).toOW
            generalize (F.pass a).2.2 = F5 at H5 hI5 hp5 h5
            generalize (F.pass a).1 = z1 at he
            generalize (F.pass a).2.1 = z2 at he
            subst he
            have HI := Lib.hid hI5
            clear h5 d5 H3 hI5
            go_wp2_with fail
            go_roundw
            case rel => exact ⟨k + 1, _, F5, P, T, pv, tv, by omega, by go_num, H5.out, HI.out, fun i hi => ⟨by have := (HX.out.2.1 i hi).1; omega, (HX.out.2.1 i hi).2⟩, fun j hj => by have := HX.out.2.2 j hj; omega⟩
            case measure => simp [intOf]; omega
          · by_cases h3 : kd = 3
            · subst h3
              clear h1 h2
              go_wp2_with fail
              clear d0 d1 d2 d3 d4 d5
              generalize hw3 : wr.alloc (.cells #[.int .i64 3, .int .i64 a, .bool xm, .string xk, .int .i64 xt, .int .i64 xv] 35) = w3 at H3 ⊢
              clear hw3
              generalize K.upd σ wr.heap.size 0 = σ3 at H3
              generalize wr.heap.size = p at H3 ⊢
              have e0 : w3.cell? ⟨p, 0, none⟩ = some (.int .i64 3) := by rw [H3.out.blk.1.cell]; rfl
              have e1 : w3.cell? ⟨p, 1, none⟩ = some (.int .i64 a) := by rw [H3.out.blk.1.cell]; rfl
              have e2 : w3.cell? ⟨p, 2, none⟩ = some (.bool xm) := by rw [H3.out.blk.1.cell]; rfl
              have e3 : w3.cell? ⟨p, 3, none⟩ = some (.string xk) := by rw [H3.out.blk.1.cell]; rfl
              have e4 : w3.cell? ⟨p, 4, none⟩ = some (.int .i64 xt) := by rw [H3.out.blk.1.cell]; rfl
              have e5 : w3.cell? ⟨p, 5, none⟩ = some (.int .i64 xv) := by rw [H3.out.blk.1.cell]; rfl
              go_wp2_with fail
              refine (take_c w3 σ3 1000 g (by decide) F H3.out.at_ a).mono ?_
              rintro e w5 ⟨he, σ5, h5, d5⟩
              clear e0 e1 e2 e3 e4 e5
              by_cases hr : (F.take a).2.2.1 = 0
              · obtain ⟨ha0, ha1⟩ := take_in hr
                rw [H3.out.ho] at ha1
                obtain ⟨d, rfl⟩ := Int.eq_ofNat_of_zero_le ha0
                have hd : d < o := by omega
                have hI5 := HX.out.1.take hr
                have hp5 := take_pot hr
                have H5 : Hid (OX w g gp gt o s n p 35 #[.int .i64 3, .int .i64 (d : Int), .bool xm, .string xk, .int .i64 xt, .int .i64 xv] w5 σ5 (F.take d).2.2.2 P T pv tv) := H3.out.flow h5 (H3.out.inv.take d) (take_like _ _) h8.1 h8.2 d5
                rw [hr] at he
                generalize (F.take d).2.2.2 = F5 at H5 hI5 hp5 h5
                generalize (F.take d).1 = sr at he hI5
                generalize (F.take d).2.1 = tx at he hI5
                obtain ⟨tm, tk, tt, tvl⟩ := tx
                subst he
                unfold itv
                dsimp only
                have hT5 := take_keeps hd (m := ⟨sr, ⟨tm, tk, tt, tvl⟩⟩) (c := 8 * k) (show pot F5 + 1 = pot F from hp5) HX.out.2.2
                have hnk := HX.out.2.2 d hd
                have HY := Lib.hid (And.intro hI5 (And.intro HX.out.2.1 hT5))
                clear h5 d5 hr HX H3 hI5 hT5
                go_upto_region 25 with fail
                have H6 := Lib.hid (H5.out.two h8.1 h8.2 33 #[.bool tm, .string tk, .int .i64 tt, .int .i64 tvl])
                clear H5
                generalize hw6 : w5.alloc (.cells #[.bool tm, .string tk, .int .i64 tt, .int .i64 tvl] 33) = w6 at H6 ⊢
                clear hw6
                generalize K.upd σ5 w5.heap.size 0 = σ6 at H6
                generalize w5.heap.size = q at H6 ⊢
                obtain ⟨A2, n2, c2, hpre⟩ := H6.out.1.toOW.preT H6.out.1.blk H6.out.2 h8.1 hd ⟨sr, ⟨tm, tk, tt, tvl⟩⟩
                have hln := hpre.len
                rw [hln] at hnk
                have hnk2 : n2 ≤ 40000 := by omega
                have HPR := Lib.hid hpre
                have e1 : w6.cell? ⟨p, 1, none⟩ = some (.int .i64 (d : Int)) := by rw [H6.out.1.blk.1.cell]; rfl
                have f0 : w6.cell? ⟨q, 0, none⟩ = some (.bool tm) := by rw [H6.out.2.1.cell]; rfl
                have f1 : w6.cell? ⟨q, 1, none⟩ = some (.string tk) := by rw [H6.out.2.1.cell]; rfl
                have f2 : w6.cell? ⟨q, 2, none⟩ = some (.int .i64 tt) := by rw [H6.out.2.1.cell]; rfl
                have f3 : w6.cell? ⟨q, 3, none⟩ = some (.int .i64 tvl) := by rw [H6.out.2.1.cell]; rfl
                have q0 := hpre.c0
                have hal : Below w6.heap.size w6 (w6.alloc (.cells #[.int .i64 sr, .bool tm, .string tk, .int .i64 tt, .int .i64 tvl] 52)) := (Below.refl _ _).alloc (Nat.le_refl _) _
                have kq : (w6.alloc (.cells #[.int .i64 sr, .bool tm, .string tk, .int .i64 tt, .int .i64 tvl] 52)).cell? ⟨gt, d, none⟩ = some (.slice A2 n2 c2) := hpre.ca
                have ke : (w6.alloc (.cells #[.int .i64 sr, .bool tm, .string tk, .int .i64 tt, .int .i64 tvl] 52)).cell? ⟨p, 1, none⟩ = some (.int .i64 (d : Int)) := (hal.cell (p := ⟨p, 1, none⟩) (World.block_lt_of_cell? _ _ e1)).trans e1
                have hfz := hpre.fz
                have hne1 := World.new_ne w6 _ q0
                have hne2 : ¬ gt = w6.heap.size := fun e => hne1 e.symm
                have hne3 := World.new_ne w6 _ e1
                have hne4 : ¬ p = w6.heap.size := fun e => hne3 e.symm
                have hdo : (d : Int) < (o : Int) := by omega
                clear hpre hln hal hp5
                obtain ⟨i5, hi5, hz0, hz1, hz2⟩ := info_of info52'
                have KK : Hid (∀ (w2 : World) (σ2 : Nat → Nat), Chg (fun y => y = 60 + d) σ6 ((w6.alloc (.cells (ms ⟨sr, ⟨tm, tk, tt, tvl⟩⟩).toArray 52)).drew) σ2 w2 → w2.cell? ⟨gt, d, none⟩ = some (.slice A2 n2 c2) ∧ w2.cell? ⟨p, 1, none⟩ = some (.int .i64 (d : Int)) ∧ w2.frozen? ⟨gt, d, none⟩ = false) := Lib.hid (fun w2 σ2 hc2 => by
                  obtain ⟨k1, k2, k3, k4⟩ := HPR.out.kk w2 σ2 hc2
                  exact ⟨k1, (k2 1).trans e1, k4⟩)
                go_wp2_with fail
                refine wp_last ?_
                intro Kq hKq
                go_cut [] (fun w' => ∃ (σ' : Nat → Nat) (tv' : Nat → Value), OW w g gp gt o s n w' σ' F5 P (updL T d (T d ++ [⟨sr, ⟨tm, tk, tt, tvl⟩⟩])) pv tv')
                case first =>
                  go_region_law (first | (refine step_append_srow (by rfl) _ _ 50 (by rfl) σ6 (60 + d) 52 i5 _ 5 48 Try.underlying50 hi5 hz0 hz1 hz2 rfl (by omega) (.slice A2 n2 c2) n2 ((T d).flatMap ms) (by rfl) (HPR.out.row.below HPR.out.bel) ⟨w6.heap.size, 0, none⟩ 1 1 (ms ⟨sr, ⟨tm, tk, tt, tvl⟩⟩) (by rfl) rfl (HPR.out.news) (ms_one _) (by unfold maxLen; omega) (by omega) ?_; intro v2 w2 hs2 hc2; obtain ⟨A2, c2, rfl, -⟩ := hs2.slice; obtain ⟨kk0, kk1, kkf⟩ := KK.out _ _ hc2) | fail)
                  all_goals
                    have hres := OW.ttook H6.out.1.toOW hd ⟨sr, ⟨tm, tk, tt, tvl⟩⟩ h8.1 h8.2 HPR.out.bel HPR.out.len hs2 hc2
                    clear hs2 hc2 kk0 kk1 kkf
                    go_wp2_with fail
                    go_meet
                    case rel => exact ⟨_, _, hres⟩
                case rest =>
                  rename World => w7
                  obtain ⟨σ7, tv7, h7⟩ := hcut
                  have H7 := Lib.hid h7
                  clear h7 e1 f0 f1 f2 f3 q0 kq ke hfz
                  refine hKq _ _ ?_
                  go_wp2_with fail
                  go_roundw
                  case rel => exact ⟨k + 1, _, F5, P, _, pv, _, by omega, by go_num, H7.out, HY.out.1, fun i hi => ⟨by have := (HY.out.2.1 i hi).1; omega, (HY.out.2.1 i hi).2⟩, fun j hj => by have := HY.out.2.2 j hj; omega⟩
                  case measure => simp [intOf]; omega
              · have hno := take_kept hr
                rw [hno] at h5
                have hf : ((F.take a).2.2.1 == 0) = false := by simpa using hr
                generalize (F.take a).2.2.1 = r at he hf
                generalize (F.take a).1 = sr at he
                generalize (F.take a).2.1 = tx at he
                obtain ⟨tm, tk, tt, tvl⟩ := tx
                subst he
                unfold itv
                dsimp only
                have H5 := Lib.hid (H3.out.flow h5 H3.out.inv ⟨rfl, rfl, rfl⟩ h8.1 h8.2 d5).toOW
                clear h5 d5 hr hno H3
                go_wp2_with fail
                go_roundw
                case rel => exact ⟨k + 1, _, F, P, T, pv, tv, by omega, by go_num, H5.out.below ((Below.refl _ _).alloc (Nat.le_refl _) _), HX.out.1, fun i hi => ⟨by have := (HX.out.2.1 i hi).1; omega, (HX.out.2.1 i hi).2⟩, fun j hj => by have := HX.out.2.2 j hj; omega⟩
                case measure => simp [intOf]; omega
            · have b1 : (kd == 1) = false := by simpa using h1
              have b2 : (kd == 2) = false := by simpa using h2
              have b3 : (kd == 3) = false := by simpa using h3
              go_wp2_with fail
              clear d0 d1 d2 d3 d4 d5
              generalize hw3 : wr.alloc (.cells #[.int .i64 kd, .int .i64 a, .bool xm, .string xk, .int .i64 xt, .int .i64 xv] 35) = w3 at H3 ⊢
              clear hw3
              generalize K.upd σ wr.heap.size 0 = σ3 at H3
              generalize wr.heap.size = p at H3 ⊢
              have e0 : w3.cell? ⟨p, 0, none⟩ = some (.int .i64 kd) := by rw [H3.out.blk.1.cell]; rfl
              have e1 : w3.cell? ⟨p, 1, none⟩ = some (.int .i64 a) := by rw [H3.out.blk.1.cell]; rfl
              have e2 : w3.cell? ⟨p, 2, none⟩ = some (.bool xm) := by rw [H3.out.blk.1.cell]; rfl
              have e3 : w3.cell? ⟨p, 3, none⟩ = some (.string xk) := by rw [H3.out.blk.1.cell]; rfl
              have e4 : w3.cell? ⟨p, 4, none⟩ = some (.int .i64 xt) := by rw [H3.out.blk.1.cell]; rfl
              have e5 : w3.cell? ⟨p, 5, none⟩ = some (.int .i64 xv) := by rw [H3.out.blk.1.cell]; rfl
              go_wp2_with fail
              go_roundw
              case rel => exact ⟨k + 1, _, F, P, T, pv, tv, by omega, by go_num, H3.out.toOW, HX.out.1, fun i hi => ⟨by have := (HX.out.2.1 i hi).1; omega, (HX.out.2.1 i hi).2⟩, fun j hj => by have := HX.out.2.2 j hj; omega⟩
              case measure => simp [intOf]; omega
      · have hkn : k = n := by omega
        have HX := Lib.hid (And.intro hW (And.intro hI (And.intro hP hT)))
        clear hW hI hP hT
        go_wp2_with fail
        clear hlt hk
        subst hkn
        go_loopw [18] (fun r wx => ∃ (z : Nat) (σ : Nat → Nat) (F : FS) (T : Nat → List Ms) (tv : Nat → Value), r = .int .i64 z ∧ OW w g gp gt o s k wx σ F P T pv tv ∧ OInv F P T ∧ (∀ j, j < o → (T j).length + pot F ≤ 8 * k) ∧ z + pot F ≤ 8 * k) (fun r _ => 8 * k - (intOf r).toNat)
        case atStart => exact ⟨0, σ, F, T, tv, rfl, HX.out.1, HX.out.2.1, HX.out.2.2.2, by have := HX.out.2.2.2 0 (by omega); omega⟩
        case round =>
          have HP := Lib.hid HX.out.2.2.1
          clear HX
          rename World => wq
          obtain ⟨r, σ, F, T, tv, rfl, hW, hI, hT, hr⟩ := hrel
          have HX := Lib.hid (And.intro hW (And.intro hI (And.intro hT hr)))
          have hr8 : (r : Int) ≤ 8 * (k : Int) := by omega
          clear hW hI hT hr
          go_wp2_with fail
          refine (empty_c wq σ 1000 g F HX.out.1.at_).mono ?_
          rintro e w8 ⟨he, hbe⟩
          by_cases hl0 : F.left = 0
          · rw [hl0] at he
            obtain rfl : e = .returned (.bool true) := he
            clear hr8
            have hle0 := HX.out.2.1.end_ hl0 HX.out.1.hs HX.out.1.ho
            have hT8 : ∀ j, j < o → (T j).length ≤ 40000 := fun j hj => by have := HX.out.2.2.1 j hj; omega
            have hP8 : ∀ i, i < s → (P i).length ≤ 5000 ∧ ∀ x ∈ P i, ItOk x := fun i hi => ⟨by have := (HP.out i hi).1; omega, (HP.out i hi).2⟩
            have HW := Lib.hid (HX.out.1.below hbe)
            have HD := Lib.hid (And.intro hP8 (And.intro hT8 hle0))
            clear HX HP hle0 hT8 hP8 hbe hl0
            go_wp2_with fail
            go_loopw [24] (fun j wx => ∃ (y : Nat), y ≤ o ∧ j = .int .i64 y ∧ OW w g gp gt o s k wx σ F P T pv tv) (fun j _ => o - (intOf j).toNat)
            case atStart => exact ⟨0, Nat.zero_le _, rfl, HW.out⟩
            case round =>
              clear HW
              obtain ⟨y, hy, rfl, hW⟩ := hrel
              have HW := Lib.hid hW
              clear hW
              by_cases hyo : y < o
              · have hyo1 : (y : Int) < (o : Int) := by omega
                go_wp2_with fail
                go_loopw [25] (fun j wx => ∃ (z : Nat), z ≤ s ∧ j = .int .i64 z ∧ OW w g gp gt o s k wx σ F P T pv tv) (fun j _ => s - (intOf j).toNat)
                case atStart => exact ⟨0, Nat.zero_le _, rfl, HW.out⟩
                case round =>
                  clear HW
                  rename World => wz
                  obtain ⟨z, hz, rfl, hW⟩ := hrel
                  have HW := Lib.hid hW
                  clear hW
                  by_cases hzs : z < s
                  · have hzs1 : (z : Int) < (s : Int) := by omega
                    obtain ⟨A4, n4, c4, B5, n5, c5, hv4, hv5, q4, q5, hcall⟩ := HW.out.check HD.out.1 HD.out.2.1 HD.out.2.2 hzs hyo
                    have HC := Lib.hid hcall
                    clear hcall hv4 hv5
                    go_wp2_with fail
                    go_region_with ((go_at_call 21; refine (HC.out _ (Below.refl _ _).drew).mono ?_; rintro e w1 ⟨rfl, hb1⟩))
                    all_goals
                      have hbz : Below wz.heap.size wz w1 := Below.then_ ((Below.refl wz.heap.size wz).drew) (Nat.le_refl _) hb1
                      go_wp2_with fail
                      go_roundw
                      case rel => exact ⟨z + 1, by omega, by go_num, HW.out.below hbz⟩
                      case measure => simp [intOf]; omega
                  · have hzs1 : z = s := by omega
                    subst hzs1
                    have Hr := Lib.hid HW.out
                    clear HW
                    go_wp2_with fail
                    go_roundw
                    case rel => exact ⟨y + 1, by omega, by go_num, Hr.out⟩
                    case measure => simp [intOf]; omega
              · have hyo1 : y = o := by omega
                subst hyo1
                have hc := HW.out.c
                go_wp2_with fail
                go_ret
                exact ⟨rfl, ⟨hc.os, hc.tape, hc.output, hc.size, fun b hb => hc.block b hb (by unfold OS Of; omega)⟩⟩
          · have hf : ((F.left : Int) == 0) = false := by simpa using hl0
            rw [hf] at he
            subst he
            have hpos := left_pos HX.out.2.1 HX.out.1.inv.tz hl0
            obtain ⟨p0, hp0⟩ : ∃ p0, pot F = p0 := ⟨_, rfl⟩
            have hr := HX.out.2.2.2
            have hT := HX.out.2.2.1
            rw [hp0] at hpos hr hT
            have H8 := Lib.hid (And.intro (HX.out.1.below hbe) (And.intro HX.out.2.1 (And.intro hp0 hT)))
            have hk5 : (k : Int) ≤ 5000 := by omega
            have hr20 : ¬ (20 * (k : Int) + 100 < (r : Int)) := by omega
            clear HX hbe hl0 hf hp0 hT
            go_wp2_with fail
            go_loopw [19] (fun i wx => ∃ (z : Nat) (σ : Nat → Nat) (F : FS), z ≤ s ∧ i = .int .i64 z ∧ OW w g gp gt o s k wx σ F P T pv tv ∧ OInv F P T ∧ pot F = p0 ∧ Prog F z) (fun i _ => s - (intOf i).toNat)
            case atStart => exact ⟨0, σ, F, Nat.zero_le _, rfl, H8.out.1, H8.out.2.1, H8.out.2.2.1, .inr (fun k hk => absurd hk (Nat.not_lt_zero _))⟩
            case round =>
              have HT := Lib.hid H8.out.2.2.2
              clear H8
              rename World => wz
              obtain ⟨z, σ, F, hz, rfl, hW, hI, hp, hg⟩ := hrel
              have HX := Lib.hid (And.intro hW (And.intro hI (And.intro hp hg)))
              clear hW hI hp hg
              by_cases hzs : z < s
              · have hzs1 : (z : Int) < (s : Int) := by omega
                go_wp2_with fail
                refine (pass_any wz σ 1000 g F HX.out.1.at_ HX.out.1.inv.ok HX.out.1.inv.tz z).mono ?_
                rintro e w5 ⟨he, σ5, h5, d5⟩
                have hI5 := HX.out.2.1.pass HX.out.1.inv.tz z
                have hp5 := (pass_kept HX.out.2.1 HX.out.1.inv.tz HX.out.1.at_.good z).trans HX.out.2.2.1
                have hg5 := pass_prog HX.out.1.at_.good HX.out.1.inv.tz (d := z) (by rw [HX.out.1.hs]; exact hzs) HX.out.2.2.2
                have H5 := HX.out.1.flow h5 (HX.out.1.inv.pass HX.out.1.at_.good z) (pass_like _ _) h8.1 h8.2 d5
                generalize (F.pass z).2.2 = F5 at H5 hI5 hp5 h5 hg5
                generalize (F.pass z).1 = z1 at he
                generalize (F.pass z).2.1 = z2 at he
                subst he
                have HY := Lib.hid (And.intro H5 (And.intro hI5 (And.intro hp5 hg5)))
                clear h5 d5 hI5 HX hp5 hg5 H5
                go_wp2_with fail
                go_roundw
                case rel => exact ⟨z + 1, σ5, F5, by omega, by go_num, HY.out⟩
                case measure => simp [intOf]; omega
              · have hzs1 : z = s := by omega
                subst hzs1
                have hex := prog_end (F := F) (by rw [HX.out.1.hs]; exact HX.out.2.2.2) (by rw [HX.out.2.2.1]; exact hpos)
                have HY := Lib.hid (And.intro HX.out.1 (And.intro HX.out.2.1 (And.intro HX.out.2.2.1 hex)))
                clear HX hex
                go_wp2_with fail
                go_loopw [20] (fun j wx => ∃ (y : Nat) (σ : Nat → Nat) (F : FS) (T : Nat → List Ms) (tv : Nat → Value), y ≤ o ∧ j = .int .i64 y ∧ OW w g gp gt o z k wx σ F P T pv tv ∧ OInv F P T ∧ (∀ j, j < o → (T j).length + pot F ≤ 8 * k) ∧ Tprog F p0 y) (fun j _ => o - (intOf j).toNat)
                case atStart => exact ⟨0, σ, F, T, tv, Nat.zero_le _, rfl, HY.out.1, HY.out.2.1, by rw [HY.out.2.2.1]; exact HT.out, .inr ⟨HY.out.2.2.1, by obtain ⟨j, h1, h2⟩ := HY.out.2.2.2; exact ⟨j, Nat.zero_le _, h1, h2⟩⟩⟩
                case round =>
                  clear HY HT
                  rename World => wy
                  obtain ⟨y, σ, F, T, tv, hy, rfl, hW, hI, hT, hg⟩ := hrel
                  have HX := Lib.hid (And.intro hW (And.intro hI (And.intro hT hg)))
                  clear hW hI hT hg
                  by_cases hyo : y < o
                  · have hyo1 : (y : Int) < (o : Int) := by omega
                    go_wp2_with fail
                    refine (take_c wy σ 1000 g (by decide) F HX.out.1.at_ y).mono ?_
                    rintro e w5 ⟨he, σ5, h5, d5⟩
                    have hg5 := take_prog (F := F) (p := p0) (j := y) (by rw [HX.out.1.ho]; exact hyo) HX.out.2.2.2
                    by_cases hr0 : (F.take y).2.2.1 = 0
                    · have hI5 := HX.out.2.1.take hr0
                      have hp5 := take_pot hr0
                      have H5 := Lib.hid (HX.out.1.flow h5 (HX.out.1.inv.take y) (take_like _ _) h8.1 h8.2 d5)
                      rw [hr0] at he
                      generalize (F.take y).2.2.2 = F5 at H5 hI5 hp5 h5 hg5
                      generalize (F.take y).1 = sr at he hI5
                      generalize (F.take y).2.1 = tx at he hI5
                      obtain ⟨tm, tk, tt, tvl⟩ := tx
                      subst he
                      unfold itv
                      dsimp only
                      have hT5 := take_keeps hyo (m := ⟨sr, ⟨tm, tk, tt, tvl⟩⟩) (c := 8 * k) (show pot F5 + 1 = pot F from hp5) HX.out.2.2.1
                      have hnk := HX.out.2.2.1 y hyo
                      have HY := Lib.hid (And.intro hI5 (And.intro hT5 hg5))
                      clear h5 d5 hr0 HX hI5 hT5 hg5
                      go_upto_region 40 with fail
                      have H6 := Lib.hid (H5.out.plus h8.1 h8.2 33 #[.bool tm, .string tk, .int .i64 tt, .int .i64 tvl])
                      clear H5
                      generalize hw6 : w5.alloc (.cells #[.bool tm, .string tk, .int .i64 tt, .int .i64 tvl] 33) = w6 at H6 ⊢
                      clear hw6
                      generalize K.upd σ5 w5.heap.size 0 = σ6 at H6
                      generalize w5.heap.size = q at H6 ⊢
                      obtain ⟨A2, n2, c2, hpre⟩ := H6.out.1.preT H6.out.2 H6.out.2 h8.1 hyo ⟨sr, ⟨tm, tk, tt, tvl⟩⟩
                      have hln := hpre.len
                      rw [hln] at hnk
                      have hnk2 : n2 ≤ 40000 := by omega
                      have HPR := Lib.hid hpre
                      have f0 : w6.cell? ⟨q, 0, none⟩ = some (.bool tm) := by rw [H6.out.2.1.cell]; rfl
                      have f1 : w6.cell? ⟨q, 1, none⟩ = some (.string tk) := by rw [H6.out.2.1.cell]; rfl
                      have f2 : w6.cell? ⟨q, 2, none⟩ = some (.int .i64 tt) := by rw [H6.out.2.1.cell]; rfl
                      have f3 : w6.cell? ⟨q, 3, none⟩ = some (.int .i64 tvl) := by rw [H6.out.2.1.cell]; rfl
                      have q0 := hpre.c0
                      have kq : (w6.alloc (.cells #[.int .i64 sr, .bool tm, .string tk, .int .i64 tt, .int .i64 tvl] 52)).cell? ⟨gt, y, none⟩ = some (.slice A2 n2 c2) := hpre.ca
                      have hfz := hpre.fz
                      have hne1 := World.new_ne w6 _ q0
                      have hne2 : ¬ gt = w6.heap.size := fun e => hne1 e.symm
                      clear hpre hln hp5
                      obtain ⟨i5, hi5, hz0, hz1, hz2⟩ := info_of info52'
                      have KK : Hid (∀ (w2 : World) (σ2 : Nat → Nat), Chg (fun y' => y' = 60 + y) σ6 ((w6.alloc (.cells (ms ⟨sr, ⟨tm, tk, tt, tvl⟩⟩).toArray 52)).drew) σ2 w2 → w2.cell? ⟨gt, y, none⟩ = some (.slice A2 n2 c2) ∧ w2.frozen? ⟨gt, y, none⟩ = false) := Lib.hid (fun w2 σ2 hc2 => by
                        obtain ⟨k1, k2, k3, k4⟩ := HPR.out.kk w2 σ2 hc2
                        exact ⟨k1, k4⟩)
                      go_wp2_with fail
                      refine wp_last ?_
                      intro Kq hKq
                      go_cut [] (fun w' => ∃ (σ' : Nat → Nat) (tv' : Nat → Value), OW w g gp gt o z k w' σ' F5 P (updL T y (T y ++ [⟨sr, ⟨tm, tk, tt, tvl⟩⟩])) pv tv')
                      case first =>
                        go_region_law (first | (refine step_append_srow (by rfl) _ _ 50 (by rfl) σ6 (60 + y) 52 i5 _ 5 48 Try.underlying50 hi5 hz0 hz1 hz2 rfl (by omega) (.slice A2 n2 c2) n2 ((T y).flatMap ms) (by rfl) (HPR.out.row.below HPR.out.bel) ⟨w6.heap.size, 0, none⟩ 1 1 (ms ⟨sr, ⟨tm, tk, tt, tvl⟩⟩) (by rfl) rfl (HPR.out.news) (ms_one _) (by unfold maxLen; omega) (by omega) ?_; intro v2 w2 hs2 hc2; obtain ⟨A2, c2, rfl, -⟩ := hs2.slice; obtain ⟨kk0, kkf⟩ := KK.out _ _ hc2) | fail)
                        all_goals
                          have hres := OW.ttook H6.out.1 hyo ⟨sr, ⟨tm, tk, tt, tvl⟩⟩ h8.1 h8.2 HPR.out.bel HPR.out.len hs2 hc2
                          clear hs2 hc2 kk0 kkf
                          go_wp2_with fail
                          go_meet
                          case rel => exact ⟨_, _, hres⟩
                      case rest =>
                        rename World => w7
                        obtain ⟨σ7, tv7, h7⟩ := hcut
                        have H7 := Lib.hid h7
                        clear h7 f0 f1 f2 f3 q0 kq hfz
                        refine hKq _ _ ?_
                        go_wp2_with fail
                        go_roundw
                        case rel => exact ⟨y + 1, σ7, F5, _, tv7, by omega, by go_num, H7.out, HY.out.1, HY.out.2.1, HY.out.2.2⟩
                        case measure => simp [intOf]; omega
                    · have hno := take_kept hr0
                      rw [hno] at h5 hg5
                      have hf : ((F.take y).2.2.1 == 0) = false := by simpa using hr0
                      generalize (F.take y).2.2.1 = r' at he hf
                      generalize (F.take y).1 = sr at he
                      generalize (F.take y).2.1 = tx at he
                      obtain ⟨tm, tk, tt, tvl⟩ := tx
                      subst he
                      unfold itv
                      dsimp only
                      have H5 := Lib.hid (HX.out.1.flow h5 HX.out.1.inv ⟨rfl, rfl, rfl⟩ h8.1 h8.2 d5)
                      have HY := Lib.hid (And.intro HX.out.2.1 (And.intro HX.out.2.2.1 hg5))
                      clear h5 d5 hr0 hno hg5 HX
                      go_wp2_with fail
                      go_roundw
                      case rel => exact ⟨y + 1, σ5, F, T, tv, by omega, by go_num, H5.out.below ((Below.refl _ _).alloc (Nat.le_refl _) _), HY.out.1, HY.out.2.1, HY.out.2.2⟩
                      case measure => simp [intOf]; omega
                  · have hyo1 : y = o := by omega
                    subst hyo1
                    have hlt := tprog_end (F := F) (p := p0) (by rw [HX.out.1.ho]; exact HX.out.2.2.2)
                    have HY := Lib.hid (And.intro HX.out.1 (And.intro HX.out.2.1 HX.out.2.2.1))
                    clear HX
                    go_wp2_with fail
                    go_roundw
                    case rel => exact ⟨r + 1, σ, F, T, tv, by go_num, HY.out.1, HY.out.2.1, HY.out.2.2, by omega⟩
                    case measure => simp [intOf]; omega
end Go.Proofs.Ytapninpdjccglaa.C
