/-
  Locks: LocksOwn: the walk.
-/
import Derived.Test.YtgcnappgecdldaaQ3
import Derived.Test.YtgcnappgecdldaaN2
import Derived.Deep.CutBlock
import Derived.Deep.RegionWith
set_option linter.unusedVariables false
set_option linter.unusedSimpArgs false
namespace Go.Proofs.Ytgcnappgecdldaa.C
open Go.RowKit Go.Proofs.Ytgcnappgecdldaa.K Go.Maps

set_option maxRecDepth 100000 in
set_option maxHeartbeats 12800000 in
theorem own_walk (w : World) (a0 : Int) (w0 : (Lit.int .i64 a0).wf = true)
    (v1 : Value) (o1 : ∃ (A : Option Addr) (n c : Nat) (f : Nat → LSt), v1 = .slice A n c ∧ n ≤ c ∧ LSteps w A n f ∧ n ≤ 140737488351232)
    (v2 : Value) (o2 : ∃ (A : Option Addr) (n c : Nat) (f : Nat → LSt), v2 = .slice A n c ∧ n ≤ c ∧ LSteps w A n f ∧ n ≤ 140737488351232) :
    Calls Try.prog 9 #[.int .i64 a0, v1, v2] w fun e w' => e = .returned (.bool true) ∧ Below w.heap.size w w' := by
  obtain ⟨A1, n1, c1, f1, rfl, hc1, hF1, hn1⟩ := o1
  obtain ⟨A2, n2, c2, f2, rfl, hc2, hF2, hn2⟩ := o2
  have HF := Lib.hid (And.intro hF1 hF2)
  clear hF1 hc1 hF2 hc2
  go_enter Try.func9, Try.ntmps9
  go_wp2_with fail
  refine (known_c w).mono ?_
  rintro e w1 ⟨rfl, hb1⟩
  have HB := Lib.hid hb1
  clear hb1
  go_wp2_with fail
  by_cases hm : 1 ≤ a0 ∧ a0 ≤ 1024
  · obtain ⟨m, rfl⟩ := Int.eq_ofNat_of_zero_le (show 0 ≤ a0 by omega)
    have hm2 : m ≤ 1024 := by omega
    have hm1 : 1 ≤ m := by omega
    refine (new_mgr w1 m (by omega) (by omega) (fun _ => 0) 1000).mono ?_
    rintro e w2 ⟨ga, rfl, hga, hma, hb2⟩
    have H2 := Lib.hid (And.intro hma (((St.first w).below HB.out).upd HB.out.size 1000 |>.below hb2))
    clear hga hma hb2 HB hm
    generalize K.upd (fun _ => 0) w1.heap.size 1000 = σ2 at H2
    go_wp2_with fail
    refine (new_mgr w2 m (by omega) (by omega) σ2 2000).mono ?_
    rintro e w3 ⟨gb, rfl, hgb, hmb, hb3⟩
    have H3 := Lib.hid (And.intro ((H2.out.1.chg ((Chg.refl (fun _ => False) σ2 w2).upd (Nat.le_refl _) 2000) (fun _ _ h => h)).below hb3) (And.intro hmb ((H2.out.2.upd H2.out.2.size 2000).below hb3)))
    clear hgb hmb hb3 H2
    generalize K.upd σ2 w2.heap.size 2000 = σ3 at H3
    go_wp2_with fail
    refine (new_mgr w3 m (by omega) (by omega) σ3 3000).mono ?_
    rintro e w4 ⟨gc, rfl, hgc, hmc, hb4⟩
    have cc : Chg (fun _ => False) σ3 w3 (K.upd σ3 w3.heap.size 3000) w4 := ((Chg.refl (fun _ => False) σ3 w3).upd (Nat.le_refl _) 3000).below hb4
    have H4 := Lib.hid (show Ow w w4 (K.upd σ3 w3.heap.size 3000) ga gb gc m ⟨m, [], []⟩ ⟨m, [], []⟩ ⟨m, [], []⟩ 0 from ⟨H3.out.1.chg cc (fun _ _ h => h), H3.out.2.1.chg cc (fun _ _ h => h), hmc, ⟨rfl, .nil, .nil⟩, H3.out.2.2.chg cc (fun h => h), rfl, rfl, Nat.le_refl _, Nat.le_refl _⟩)
    clear hgc hmc hb4 H3 cc
    generalize K.upd σ3 w3.heap.size 3000 = σ4 at H4
    go_wp2_with fail
    go_loopw [13] (fun vi wr => ∃ (i : Nat) (A B C : Mgr) (σ : Nat → Nat), vi = .int .i64 i ∧ i ≤ 300 ∧ Ow w wr σ ga gb gc m A B C i) (fun vi _ => 300 - (intOf vi).toNat)
    case atStart => exact ⟨0, _, _, _, σ4, rfl, by omega, H4.out⟩
    case round =>
      clear H4
      rename World => wa
      obtain ⟨i, A, B, C, σ, rfl, hi300, hO⟩ := hrel
      have HO := Lib.hid hO
      clear hO
      have i0 : (0 : Int) ≤ (i : Int) := by omega
      by_cases hgo : (i < n1 ∨ i < n2) ∧ i < 300
      · go_upto_region 9 with fail
        go_cut [66] (fun z w' => z = .bool true ∧ w' = wa)
        case first =>
          have i2 : (i : Int) < 300 := by omega
          by_cases hk1 : (i : Int) < (n1 : Int)
          · go_wp2_with fail
            go_meet
            case rel => exact ⟨rfl, rfl⟩
          · have hk2 : (i : Int) < (n2 : Int) := by omega
            go_wp2_with fail
            go_meet
            case rel => exact ⟨rfl, rfl⟩
        case rest => as_aux_lemma =>
          rename World => wb
          obtain ⟨rfl, rfl⟩ := hcut
          go_upto_if 72 with fail
          go_cut [] (fun w' => ∃ A' C' σ', Ow w w' σ' ga gb gc m A' B C' (i + 1))
          case first =>
            by_cases hk1 : i < n1
            · have i1 : (i : Int) < (n1 : Int) := by omega
              obtain ⟨bs, ps, rfl, hbs, hcells⟩ := HF.out.1.at_ (by omega)
              have hok := HF.out.1.ok i (by omega)
              have hcc := hcells i (by omega)
              clear hcells
              obtain ⟨⟨kd, task, AL, nl, cl, L⟩, hs⟩ : ∃ s, f1 i = s := ⟨_, rfl⟩
              rw [hs] at hok hcc
              have d0 : wb.cell? ⟨bs, ps + i * 3, none⟩ = some (.int .i64 kd) := (HO.out.st.bel.cell (p := ⟨bs, ps + i * 3, none⟩) hbs).trans (hcc 0 _ rfl)
              have d1 : wb.cell? ⟨bs, ps + i * 3 + 1, none⟩ = some (.int .i64 task) := (HO.out.st.bel.cell (p := ⟨bs, ps + i * 3 + 1, none⟩) hbs).trans (hcc 1 _ rfl)
              have d2 : wb.cell? ⟨bs, ps + i * 3 + 2, none⟩ = some (.slice AL nl cl) := (HO.out.st.bel.cell (p := ⟨bs, ps + i * 3 + 2, none⟩) hbs).trans (hcc 2 _ rfl)
              have HK := Lib.hid hok
              clear hok hcc hs hbs
              go_upto_region 13 with fail
              have hba : Below wb.heap.size wb (wb.alloc (.cells #[.int .i64 kd, .int .i64 task, .slice AL nl cl] 53)) := (Below.refl _ _).alloc (Nat.le_refl _) _
              have hbx := Blk.new wb 53 #[.int .i64 kd, .int .i64 task, .slice AL nl cl]
              have HA := Lib.hid (And.intro ((HO.out.upd (Nat.le_refl _) 7).below hba) ((show MBlk _ (K.upd σ wb.heap.size 7) 7 wb.heap.size 53 _ from ⟨hbx, upd_new (Nat.le_refl _)⟩)))
              clear HO hba hbx d0 d1 d2
              generalize wb.alloc (.cells #[.int .i64 kd, .int .i64 task, .slice AL nl cl] 53) = wd at HA ⊢
              generalize K.upd σ wb.heap.size 7 = σb at HA
              generalize wb.heap.size = q at HA ⊢
              have hac := HA.out.1.ka
              have hbc := HA.out.1.kb
              have hccn := HA.out.1.kc
              have d0 : wd.cell? ⟨q, 0, none⟩ = some (.int .i64 kd) := by rw [HA.out.2.1.cell]; rfl
              go_upto_block 2 with fail
              go_cut [15] (fun ok w' => ok = .bool true ∧ ∃ A' C' σ', Ow w w' σ' ga gb gc m A' B C' (i + 1) ∧ MBlk w' σ' 7 q 53 #[.int .i64 kd, .int .i64 task, .slice AL nl cl])
              case first => as_aux_lemma =>
                by_cases hd1 : kd = 1
                · as_aux_lemma =>
                  subst hd1
                  have hask : ∀ W, W = wd.drew → Calls Try.prog 15 #[.pointer (some ⟨ga, 0, none⟩), .int .i64 task, .slice AL (min nl 40) cl] W fun e w' => _ := fun W hW => hW ▸ ask_any wd.drew σb 1000 ga A (HA.out.1.ma.below (Below.refl _ _).drew) (by omega) task AL (min nl 40) cl (L.take 40) (by have hh := HK.out.len; dsimp only at hh; rw [List.length_take, hh]; omega) (by omega) ((HK.out.rd.below (HA.out.1.st.below (Below.refl _ _).drew).bel).take 40) (fun p hp => HK.out.wl p (List.mem_of_mem_take hp))
                  have HC15 := Lib.hid hask
                  have HC26 : Hid (∀ W, Calls Try.prog 26 #[.slice AL nl cl] W fun e w' => e = .returned (.slice AL (min nl 40) cl) ∧ w' = W) := Lib.hid (fun W => first_c W AL nl cl HK.out.cap)
                  have HKS : Hid (∀ t W σ', 1000 ≤ t → Chg (Om t) σb wd.drew σ' W → W.cell? ⟨q, 1, none⟩ = some (.int .i64 task) ∧ W.cell? ⟨q, 2, none⟩ = some (.slice AL nl cl)) := Lib.hid (fun t W σ' ht c => by
                    have hb := ((HA.out.2.below (Below.refl _ _).drew).chg c (by unfold Om; omega)).1
                    exact ⟨by rw [hb.cell]; rfl, by rw [hb.cell]; rfl⟩)
                  clear hask
                  go_upto_region 16 with fail
                  go_cut [16, 17] (fun a b w' => ∃ ok v M' σ', a = .bool ok ∧ b = v ∧ AskR A task (L.take 40) w' ok v M' ∧ MgrAt w' σ' 1000 ga M' ∧ Chg (Om 1000) σb wd.drew σ' w')
                  case first =>
                    obtain ⟨s1, s2⟩ := HKS.out 1000 wd.drew σb (by omega) (Chg.refl _ _ _)
                    go_region_held3 (fun W => W.cell? ⟨q, 1, none⟩ = some (.int .i64 task) ∧ W.cell? ⟨q, 2, none⟩ = some (.slice AL nl cl)) (first | exact HKS.out 1000 _ _ (by omega) (Chg.refl _ _ _) | exact HKS.out 1000 _ _ (by omega) (by assumption) | fail)
                      ((first | (go_at_call 26; refine (HC26.out _).mono ?_; rintro e w6 ⟨rfl, rfl⟩) | (go_at_call 15; refine (HC15.out _ rfl).mono ?_; rintro e w5 ⟨ok5, v5, M5, rfl, hr5, σ5, hm5, hc5⟩) | fail))
                    go_wp2_with fail
                    go_meet
                    case rel => exact ⟨ok5, v5, M5, σ5, rfl, rfl, hr5, hm5, hc5⟩
                  case rest =>
                    rename World => we
                    obtain ⟨ok, v, A', σ1, rfl, rfl, hr, hm1', hc1⟩ := hcut
                    have hc1' := (Chg.of_below (Om 1000) σb (Below.refl wd.heap.size wd).drew).trans hc1
                    have hblk := HA.out.2.chg hc1' (by unfold Om; omega)
                    have hmc := HA.out.1.mc.chg hc1' (fun x hx => by unfold Om at *; omega)
                    have hst1 := HA.out.1.st.chg hc1' (by unfold Om; omega)
                    have hask : ∀ W, W = we.drew → Calls Try.prog 15 #[.pointer (some ⟨gc, 0, none⟩), .int .i64 task, .slice AL (min nl 40) cl] W fun e w' => _ := fun W hW => hW ▸ ask_any we.drew σ1 3000 gc C (hmc.below (Below.refl _ _).drew) (by omega) task AL (min nl 40) cl (L.take 40) (by have hh := HK.out.len; dsimp only at hh; rw [List.length_take, hh]; omega) (by omega) ((HK.out.rd.below (hst1.below (Below.refl _ _).drew).bel).take 40) (fun p hp => HK.out.wl p (List.mem_of_mem_take hp))
                    have HC15b := Lib.hid hask
                    have HKSb : Hid (∀ W σ', Chg (Om 3000) σ1 we.drew σ' W → W.cell? ⟨q, 1, none⟩ = some (.int .i64 task) ∧ W.cell? ⟨q, 2, none⟩ = some (.slice AL nl cl)) := Lib.hid (fun W σ' c => by
                      have hb := ((hblk.below (Below.refl _ _).drew).chg c (by unfold Om; omega)).1
                      exact ⟨by rw [hb.cell]; rfl, by rw [hb.cell]; rfl⟩)
                    have H1 := Lib.hid (And.intro hr (And.intro hm1' (And.intro hc1' hblk)))
                    clear hask hc1' hc1 hblk hmc hst1 hr hm1' HC15 HKS
                    go_upto_region 17 with fail
                    go_cut [18, 19] (fun a b w' => ∃ ok2 v M' σ', a = .bool ok2 ∧ b = v ∧ AskR C task (L.take 40) w' ok2 v M' ∧ MgrAt w' σ' 3000 gc M' ∧ Chg (Om 3000) σ1 we.drew σ' w')
                    case first =>
                      obtain ⟨s1, s2⟩ := HKSb.out we.drew σ1 (Chg.refl _ _ _)
                      go_region_held3 (fun W => W.cell? ⟨q, 1, none⟩ = some (.int .i64 task) ∧ W.cell? ⟨q, 2, none⟩ = some (.slice AL nl cl)) (first | exact HKSb.out _ _ (Chg.refl _ _ _) | exact HKSb.out _ _ (by assumption) | fail)
                        ((first | (go_at_call 26; refine (HC26.out _).mono ?_; rintro e w6 ⟨rfl, rfl⟩) | (go_at_call 15; refine (HC15b.out _ rfl).mono ?_; rintro e w5 ⟨ok5, v5, M5, rfl, hr5, σ5, hm5, hc5⟩) | fail))
                      go_wp2_with fail
                      go_meet
                      case rel => exact ⟨ok5, v5, M5, σ5, rfl, rfl, hr5, hm5, hc5⟩
                    case rest =>
                      rename World => wf
                      obtain ⟨ok2, v2, C', σ2, rfl, rfl, hr2, hm2', hc2⟩ := hcut
                      have hc2' := (Chg.of_below (Om 3000) σ1 (Below.refl we.heap.size we).drew).trans hc2
                      have hpar := AskR.par (φ := idt) (R := Same) same_keeps idt_inj H1.out.1 hr2 HA.out.1.pm Iff.rfl (by rw [HA.out.1.pm.m]) (fun D D' h1 h2 _ x => (h1 x).trans (h2 x).symm)
                      have hact := H1.out.1.cnt
                      have hOb := HA.out.1.both H1.out.2.2.1 hc2' H1.out.2.1 hm2' hpar.2.1 hact.2 (by omega : A'.cnt ≤ i + 1) (Nat.le_succ i)
                      have hq2 := H1.out.2.2.2.chg hc2' (by unfold Om; omega)
                      obtain rfl : ok = ok2 := hpar.1
                      have HN := Lib.hid (And.intro hOb hq2)
                      clear hr2 hm2' hc2 hc2' hpar hact hOb hq2 H1 HC15b HKSb HC26
                      have hkk : (ok == ok) = true := by simp
                      go_wp2_with fail
                      go_meet
                      case rel => exact ⟨by simp, A', C', σ2, HN.out.1, HN.out.2⟩
                by_cases hd2 : kd = 2
                · as_aux_lemma =>
                  subst hd2
                  have HKS : Hid (∀ W σ', MBlk W σ' 7 q 53 #[.int .i64 2, .int .i64 task, .slice AL nl cl] → W.cell? ⟨q, 1, none⟩ = some (.int .i64 task)) := Lib.hid (fun W σ' h => by rw [h.1.cell]; rfl)
                  have d1 := HKS.out _ _ HA.out.2
                  go_wp2_with fail
                  refine (free_any wd σb 1000 ga 8 (.inl (by omega)) A HA.out.1.ma (by omega) task).mono ?_
                  rintro e w5 ⟨x, v, out, A', rfl, hfr, σ1, hm1', hx, hc1⟩
                  have hq1 := HA.out.2.chg hc1 (by unfold Om; omega)
                  have d2 := HKS.out _ _ hq1
                  have H1 := Lib.hid (And.intro hfr (And.intro hm1' (And.intro hx (And.intro hc1 (And.intro hq1 (HA.out.1.mc.chg hc1 (fun x hx => by unfold Om at *; omega)))))))
                  clear hfr hm1' hx hc1 hq1 d0 d1
                  go_wp2_with fail
                  refine (free_any w5 σ1 3000 gc 8 (.inl (by omega)) C H1.out.2.2.2.2.2 (by omega) task).mono ?_
                  rintro e w6 ⟨y, v2, out2, C', rfl, hfr2, σ2, hm2', hy, hc2⟩
                  have hpar := FreeR.par (φ := idt) (R := Same) same_keeps idt_inj H1.out.1 (show FreeR C (idt task) w6 v2 out2 C' from hfr2) HA.out.1.pm
                  have hact := H1.out.1.cnt
                  have hOb := HA.out.1.both H1.out.2.2.2.1 hc2 H1.out.2.1 hm2' hpar.2.1 hact.2.1 (by omega : A'.cnt ≤ i + 1) (Nat.le_succ i)
                  have hq2 := H1.out.2.2.2.2.1.chg hc2 (by unfold Om; omega)
                  have hx2 := H1.out.2.2.1.chg hc2 (by unfold Om; omega)
                  have htt : out2.map (·.task) = out.map (·.task) := hpar.1.tasks
                  rw [tasks_num] at hx2 hy
                  rw [htt, hpar.1.len] at hy
                  have hol : out.length ≤ 1000000 := by omega
                  have hsi := same_ints w6 0 0 x y (out.map (·.task)) out.length (by simp) hol hx2.1 hy.1
                  have HN := Lib.hid (And.intro hOb (And.intro hq2 (And.intro hx2 hsi)))
                  clear hfr2 hm2' hy hc2 hpar hact hOb hq2 hx2 htt hsi H1 d2
                  go_wp2_with fail
                  refine HN.out.2.2.2.mono ?_
                  rintro e w7 ⟨rfl, hb7⟩
                  have HN2 := Lib.hid (And.intro (HN.out.1.below hb7) (And.intro (HN.out.2.1.below hb7) (HN.out.2.2.1.below hb7)))
                  clear hb7 HN
                  go_wp2_with fail
                  refine (spoil_c w7 σ2 8 x out.length _ hol HN2.out.2.2).mono ?_
                  rintro e w8 ⟨rfl, σ3, hc3⟩
                  have HN3 := Lib.hid (And.intro (HN2.out.1.chg hc3 (by omega)) (HN2.out.2.1.chg hc3 (by omega)))
                  clear hc3 HN2
                  go_wp2_with fail
                  go_meet
                  case rel => exact ⟨rfl, A', C', σ3, HN3.out.1, HN3.out.2⟩
                by_cases hd3 : kd = 3
                · as_aux_lemma =>
                  subst hd3
                  have HKS : Hid (∀ W σ', MBlk W σ' 7 q 53 #[.int .i64 3, .int .i64 task, .slice AL nl cl] → W.cell? ⟨q, 1, none⟩ = some (.int .i64 task)) := Lib.hid (fun W σ' h => by rw [h.1.cell]; rfl)
                  have d1 := HKS.out _ _ HA.out.2
                  obtain ⟨A', out, hq⟩ := quits_any A task
                  obtain ⟨C', out2, hqc⟩ := quits_any C task
                  have hpar := Quits.par (φ := idt) (R := Same) same_keeps idt_inj hq (show Quits C (idt task) C' out2 from hqc) HA.out.1.pm
                  have hact := hq.cnt
                  have hq1f := fun W (hm : MgrAt W σb 1000 ga A) => quit_c W σb 1000 ga 8 (.inl (by omega)) A hm (show A.cnt ≤ 100000 by omega) task A' out hq
                  have hq2f := fun W σ1 (hm : MgrAt W σ1 3000 gc C) => quit_c W σ1 3000 gc 8 (.inl (by omega)) C hm (show C.cnt ≤ 100000 by omega) task C' out2 hqc
                  have HQ := Lib.hid (And.intro hq1f (And.intro hq2f (And.intro hpar hact)))
                  clear hq hqc hq1f hq2f hpar hact
                  have hol : out.length ≤ 1000000 := by have := HQ.out.2.2.2; omega
                  go_wp2_with fail
                  refine (HQ.out.1 wd HA.out.1.ma).mono ?_
                  rintro e w5 ⟨x, rfl, σ1, hm1', hx, hc1⟩
                  have hq1 := HA.out.2.chg hc1 (by unfold Om; omega)
                  have d2 := HKS.out _ _ hq1
                  have H1 := Lib.hid (And.intro hm1' (And.intro hx (And.intro hc1 (And.intro hq1 (HA.out.1.mc.chg hc1 (fun x hx => by unfold Om at *; omega))))))
                  clear hm1' hx hc1 hq1 d0 d1
                  go_wp2_with fail
                  refine (HQ.out.2.1 w5 σ1 H1.out.2.2.2.2).mono ?_
                  rintro e w6 ⟨y, rfl, σ2, hm2', hy, hc2⟩
                  have hOb := HA.out.1.both H1.out.2.2.1 hc2 H1.out.1 hm2' HQ.out.2.2.1.2 HQ.out.2.2.2.2.1 (by have := HQ.out.2.2.2; omega : A'.cnt ≤ i + 1) (Nat.le_succ i)
                  have hq2 := H1.out.2.2.2.1.chg hc2 (by unfold Om; omega)
                  have hx2 := H1.out.2.1.chg hc2 (by unfold Om; omega)
                  have htt : out2.map (·.task) = out.map (·.task) := HQ.out.2.2.1.1.tasks
                  rw [tasks_num] at hx2 hy
                  rw [htt, HQ.out.2.2.1.1.len] at hy
                  have hsi := same_ints w6 0 0 x y (out.map (·.task)) out.length (by simp) hol hx2.1 hy.1
                  have HN := Lib.hid (And.intro hOb (And.intro hq2 (And.intro hx2 hsi)))
                  clear hm2' hy hc2 hOb hq2 hx2 htt hsi H1 d2
                  go_wp2_with fail
                  refine HN.out.2.2.2.mono ?_
                  rintro e w7 ⟨rfl, hb7⟩
                  have HN2 := Lib.hid (And.intro (HN.out.1.below hb7) (And.intro (HN.out.2.1.below hb7) (HN.out.2.2.1.below hb7)))
                  clear hb7 HN
                  go_wp2_with fail
                  refine (spoil_c w7 σ2 8 x out.length _ hol HN2.out.2.2).mono ?_
                  rintro e w8 ⟨rfl, σ3, hc3⟩
                  have HN3 := Lib.hid (And.intro (HN2.out.1.chg hc3 (by omega)) (HN2.out.2.1.chg hc3 (by omega)))
                  clear hc3 HN2
                  go_wp2_with fail
                  go_meet
                  case rel => exact ⟨rfl, A', C', σ3, HN3.out.1, HN3.out.2⟩
                · go_wp2_with fail
                  go_meet
                  case rel => exact ⟨rfl, A, C, σb, HA.out.1.more (Nat.le_succ i), HA.out.2⟩
              case rest => as_aux_lemma =>
                rename World => we
                obtain ⟨rfl, A', C', σ1, hO1, hq1⟩ := hcut
                have H1 := Lib.hid (And.intro hO1 hq1)
                have HKS : Hid (∀ W σ', MBlk W σ' 7 q 53 #[.int .i64 kd, .int .i64 task, .slice AL nl cl] → W.cell? ⟨q, 1, none⟩ = some (.int .i64 task)) := Lib.hid (fun W σ' h => by rw [h.1.cell]; rfl)
                clear hO1 hq1 HA HK d0 hac hbc hccn
                go_wp2_with fail
                refine (queue_c we σ1 1000 ga A' H1.out.1.ma).mono ?_
                rintro e w5 ⟨v5, rfl, ho5, hb5⟩
                have hrow5 := Row.fresh ho5 (σ := σ1) 8
                rw [tasks_num] at hrow5
                have hq5 := H1.out.1.ka
                have H5 := Lib.hid (And.intro ((H1.out.1.upd (Nat.le_refl _) 8).below hb5) (And.intro ((H1.out.2.upd (Nat.le_refl _) 8).below hb5) hrow5))
                clear hrow5 ho5 hb5 H1
                generalize K.upd σ1 we.heap.size 8 = σ5 at H5
                go_wp2_with fail
                refine (spoil_c w5 σ5 8 v5 A'.queue.length _ (by unfold Mgr.cnt at hq5; omega) H5.out.2.2).mono ?_
                rintro e w6 ⟨rfl, σ6, hc6⟩
                have H6 := Lib.hid (And.intro (H5.out.1.chg hc6 (by omega)) (H5.out.2.1.chg hc6 (by omega)))
                have d1 := HKS.out _ _ H6.out.2
                clear hc6 H5
                obtain ⟨Lh, hLh⟩ := hasR_any A' task
                have hm6 : A'.m ≤ 1024 := by rw [H6.out.1.mm]; omega
                have hle := hLh.le hm6
                have hhc := has_any w6 σ6 1000 ga A' H6.out.1.ma task Lh hLh
                have HH := Lib.hid hhc
                clear hhc hm6
                go_wp2_with fail
                refine HH.out.mono ?_
                rintro e w7 ⟨v7, rfl, ho7, hb7⟩
                obtain ⟨nh, hnh⟩ : ∃ x, Lh.length = x := ⟨_, rfl⟩
                rw [hnh] at ho7 hle
                obtain ⟨Ah, ch, rfl⟩ := own_slice ho7
                have hrow7 := Row.fresh ho7 (σ := σ6) 8
                have H7 := Lib.hid (And.intro ((H6.out.1.upd (Nat.le_refl _) 8).below hb7) (And.intro ((H6.out.2.upd (Nat.le_refl _) 8).below hb7) hrow7))
                clear hrow7 ho7 hb7 H6 HH d1
                generalize K.upd σ6 w6.heap.size 8 = σ7 at H7
                go_wp2_with fail
                go_loopw [26] (fun vk wr => ∃ (k : Nat) (xs : List Value), vk = .int .i64 k ∧ k ≤ nh ∧ Row wr σ7 8 32 2 (.slice Ah nh ch) nh xs ∧ Chg (fun x => x = 8) σ7 w7 σ7 wr) (fun vk _ => nh - (intOf vk).toNat)
                case atStart => exact ⟨0, _, rfl, Nat.zero_le _, H7.out.2.2, Chg.refl _ _ _⟩
                case round =>
                  rename World => w8
                  obtain ⟨k, xs, rfl, hk, hr8, hc8⟩ := hrel
                  have H8 := Lib.hid (And.intro hr8 hc8)
                  clear hr8 hc8
                  by_cases hkn : k < nh
                  · have k0 : (0 : Int) ≤ (k : Int) := by omega
                    have k1 : (k : Int) < (nh : Int) := by omega
                    obtain ⟨gh, cap, e, _, hg⟩ := H8.out.1.form (by omega)
                    obtain ⟨rfl, rfl⟩ : Ah = some ⟨gh, 0, none⟩ ∧ ch = cap := by cases e; exact ⟨rfl, rfl⟩
                    clear e hg
                    have hl : xs.length = nh * 2 := H8.out.1.1.1
                    have d0 : w8.cell? ⟨gh, k * 2, none⟩ = some xs[k * 2] := (World.ownsRow.cellAt H8.out.1.1 (k * 2) (by omega)).trans (List.getElem?_eq_getElem (by omega))
                    have d1 : w8.cell? ⟨gh, k * 2 + 1, none⟩ = some xs[k * 2 + 1] := (World.ownsRow.cellAt H8.out.1.1 (k * 2 + 1) (by omega)).trans (List.getElem?_eq_getElem (by omega))
                    have f0 := row_frozen H8.out.1 (k * 2)
                    have f1 := row_frozen H8.out.1 (k * 2 + 1)
                    generalize xs[k * 2] = x0 at d0
                    generalize xs[k * 2 + 1] = x1 at d1
                    have st1 := row_store H8.out.1 (k * 2) (.int .i64 (-3))
                    have st2 := row_store st1.1 (k * 2 + 1) (.bool false)
                    have HS := Lib.hid (And.intro st2.1 ((H8.out.2.trans st1.2).trans st2.2))
                    clear st1 st2 hl
                    go_wp2_with fail
                    go_roundw
                    case rel => exact ⟨k + 1, _, by go_num, by omega, HS.out.1, HS.out.2⟩
                    case measure => simp [intOf]; omega
                  · have k1 : ¬ (k : Int) < (nh : Int) := by omega
                    have hO8 := H7.out.1.chg H8.out.2 (by omega)
                    have hq8 := H7.out.2.1.chg H8.out.2 (by omega)
                    have HO8 := Lib.hid hO8
                    have hpm := hO8.pm
                    have hlq : C'.queue.map (·.task) = A'.queue.map (·.task) := hpm.queue.tasks
                    have hlen := hpm.queue.len
                    have hka := hO8.ka
                    have hq20 : A'.queue.length ≤ 1000000 := by unfold Mgr.cnt at hka; omega
                    obtain ⟨Lc, hLc⟩ := hasR_any C' task
                    have hLL : Lc = Lh := by
                      rcases HasR.par (φ := idt) (R := Same) idt_inj hLh (show HasR C' (idt task) Lc from hLc) hpm with ⟨h1, h2⟩ | ⟨D, D', h1, h2, h3⟩
                      · rw [h1, h2]
                      · rw [h2, h3, same_held h1]
                    rw [hLL] at hLc
                    obtain ⟨nq, hnq⟩ : ∃ x, A'.queue.length = x := ⟨_, rfl⟩
                    rw [hnq] at hq20 hlen
                    have HDR : Hid (Below w8.heap.size w8 w8.drew) := Lib.hid (Below.refl _ _).drew
                    have HCa : Hid (∀ W, Below w8.heap.size w8 W → Calls Try.prog 21 #[.pointer (some ⟨ga, 0, none⟩)] W fun e w' => ∃ v, e = .returned v ∧ w'.ownsRow W.heap.size 3 1 v nq ((A'.queue.map (·.task)).map (Value.int .i64)) ∧ Below W.heap.size W w' ∧ Below w8.heap.size w8 w') := Lib.hid (fun W hb => by
                      refine (queue_c W σ7 1000 ga A' (HO8.out.ma.below hb)).mono ?_
                      rintro e w' ⟨v, he, ho, h'⟩
                      rw [tasks_num, hnq] at ho
                      exact ⟨v, he, ho, h', Below.then_ hb hb.size h'⟩)
                    have HCc : Hid (∀ W, Below w8.heap.size w8 W → Calls Try.prog 21 #[.pointer (some ⟨gc, 0, none⟩)] W fun e w' => ∃ v, e = .returned v ∧ w'.ownsRow W.heap.size 3 1 v nq ((A'.queue.map (·.task)).map (Value.int .i64)) ∧ Below W.heap.size W w' ∧ Below w8.heap.size w8 w') := Lib.hid (fun W hb => by
                      refine (queue_c W σ7 3000 gc C' (HO8.out.mc.below hb)).mono ?_
                      rintro e w' ⟨v, he, ho, h'⟩
                      rw [tasks_num, hlq, hlen] at ho
                      exact ⟨v, he, ho, h', Below.then_ hb hb.size h'⟩)
                    have HC20 : Hid (∀ W v v' B B', Below w8.heap.size w8 W → W.ownsRow B 3 1 v nq ((A'.queue.map (·.task)).map (Value.int .i64)) → W.ownsRow B' 3 1 v' nq ((A'.queue.map (·.task)).map (Value.int .i64)) → Calls Try.prog 20 #[v, v'] W fun e w' => e = .returned (.bool true) ∧ Below w8.heap.size w8 w') := Lib.hid (fun W v v' B B' hb h0 h1 => by
                      refine (same_ints W B B' v v' (A'.queue.map (·.task)) nq (by rw [List.length_map]; exact hnq) hq20 h0 h1).mono ?_
                      rintro e w' ⟨he, h'⟩
                      exact ⟨he, Below.then_ hb hb.size h'⟩)
                    have HDa : Hid (∀ W, Below w8.heap.size w8 W → Calls Try.prog 17 #[.pointer (some ⟨ga, 0, none⟩), .int .i64 task] W fun e w' => ∃ v, e = .returned v ∧ w'.ownsRow W.heap.size 32 2 v nh (lks Lh) ∧ Below W.heap.size W w' ∧ Below w8.heap.size w8 w') := Lib.hid (fun W hb => by
                      refine (has_any W σ7 1000 ga A' (HO8.out.ma.below hb) task Lh hLh).mono ?_
                      rintro e w' ⟨v, he, ho, h'⟩
                      rw [hnh] at ho
                      exact ⟨v, he, ho, h', Below.then_ hb hb.size h'⟩)
                    have HDc : Hid (∀ W, Below w8.heap.size w8 W → Calls Try.prog 17 #[.pointer (some ⟨gc, 0, none⟩), .int .i64 task] W fun e w' => ∃ v, e = .returned v ∧ w'.ownsRow W.heap.size 32 2 v nh (lks Lh) ∧ Below W.heap.size W w' ∧ Below w8.heap.size w8 w') := Lib.hid (fun W hb => by
                      refine (has_any W σ7 3000 gc C' (HO8.out.mc.below hb) task Lh hLc).mono ?_
                      rintro e w' ⟨v, he, ho, h'⟩
                      rw [hnh] at ho
                      exact ⟨v, he, ho, h', Below.then_ hb hb.size h'⟩)
                    have HC16 : Hid (∀ W v v' B B', Below w8.heap.size w8 W → W.ownsRow B 32 2 v nh (lks Lh) → W.ownsRow B' 32 2 v' nh (lks Lh) → Calls Try.prog 16 #[v, v'] W fun e w' => e = .returned (.bool true) ∧ Below w8.heap.size w8 w') := Lib.hid (fun W v v' B B' hb h0 h1 => by
                      refine (same_locks W B B' v v' Lh nh hnh (by omega) h0 h1).mono ?_
                      rintro e w' ⟨he, h'⟩
                      exact ⟨he, Below.then_ hb hb.size h'⟩)
                    have HK8 : Hid (∀ W, Below w8.heap.size w8 W → W.cell? ⟨q, 1, none⟩ = some (.int .i64 task)) := Lib.hid (fun W hb => HKS.out W σ7 (hq8.below hb))
                    clear hO8 hq8 hpm hlq hlen hka hq20 hLc hLh hLL hnq hnh H7 H8 HKS
                    go_upto_region 36 with fail
                    have s1 := HK8.out w8.drew HDR.out
                    go_region_held3 (fun W => W.cell? ⟨q, 1, none⟩ = some (.int .i64 task)) (first | exact HK8.out _ (by first | assumption | exact HDR.out) | fail)
                      ((first
                        | (go_at_call_of 21 ga; refine (HCa.out _ (by first | assumption | exact HDR.out)).mono ?_; rintro e w21 ⟨va, rfl, hoa, hba1, hba2⟩)
                        | (go_at_call_of 21 gc; refine (HCc.out _ (by first | assumption | exact HDR.out)).mono ?_; rintro e w22 ⟨vc, rfl, hoc, hbc1, hbc2⟩; have hoa2 := own_below hoa hbc1)
                        | (go_at_call 20; refine (HC20.out _ _ _ _ _ (by first | assumption | exact HDR.out) (by assumption) (by assumption)).mono ?_; rintro e w23 ⟨rfl, hb23⟩)
                        | (go_at_call_of 17 ga; refine (HDa.out _ (by first | assumption | exact HDR.out)).mono ?_; rintro e w24 ⟨vd, rfl, hod, hbd1, hbd2⟩)
                        | (go_at_call_of 17 gc; refine (HDc.out _ (by first | assumption | exact HDR.out)).mono ?_; rintro e w25 ⟨ve, rfl, hoe, hbe1, hbe2⟩; have hod2 := own_below hod hbe1)
                        | (go_at_call 16; refine (HC16.out _ _ _ _ _ (by first | assumption | exact HDR.out) (by assumption) (by assumption)).mono ?_; rintro e w26 ⟨rfl, hb26⟩)
                        | fail))
                    go_wp2_with fail
                    go_meet
                    case rel => exact ⟨A', C', σ7, HO8.out.below (by assumption)⟩
            · have i1 : ¬ (i : Int) < (n1 : Int) := by omega
              go_wp2_with fail
              go_meet
              case rel => exact ⟨A, C, σ, HO.out.more (by omega)⟩
          case rest => as_aux_lemma =>
            rename World => wc
            obtain ⟨A', C', σ', hO'⟩ := hcut
            have HO' := Lib.hid hO'
            have hbc : B.cnt ≤ i := HO.out.kb
            clear hO' HO
            by_cases hk2 : i < n2
            · have i1 : (i : Int) < (n2 : Int) := by omega
              obtain ⟨bs, ps, rfl, hbs, hcells⟩ := HF.out.2.at_ (by omega)
              have hok := (HF.out.2.ok i (by omega)).below HO'.out.st.bel
              have hcc := hcells i (by omega)
              clear hcells
              obtain ⟨⟨kd, task, AL, nl, cl, L⟩, hs⟩ : ∃ s, f2 i = s := ⟨_, rfl⟩
              rw [hs] at hok hcc
              have d0 : wc.cell? ⟨bs, ps + i * 3, none⟩ = some (.int .i64 kd) := (HO'.out.st.bel.cell (p := ⟨bs, ps + i * 3, none⟩) hbs).trans (hcc 0 _ rfl)
              have d1 : wc.cell? ⟨bs, ps + i * 3 + 1, none⟩ = some (.int .i64 task) := (HO'.out.st.bel.cell (p := ⟨bs, ps + i * 3 + 1, none⟩) hbs).trans (hcc 1 _ rfl)
              have d2 : wc.cell? ⟨bs, ps + i * 3 + 2, none⟩ = some (.slice AL nl cl) := (HO'.out.st.bel.cell (p := ⟨bs, ps + i * 3 + 2, none⟩) hbs).trans (hcc 2 _ rfl)
              have HK := Lib.hid hok
              clear hok hcc hs hbs
              go_upto_region 40 with fail
              have hba : Below wc.heap.size wc (wc.alloc (.cells #[.int .i64 kd, .int .i64 task, .slice AL nl cl] 53)) := (Below.refl _ _).alloc (Nat.le_refl _) _
              have hbx := Blk.new wc 53 #[.int .i64 kd, .int .i64 task, .slice AL nl cl]
              have HA := Lib.hid (And.intro ((HO'.out.upd (Nat.le_refl _) 7).below hba) (And.intro (HK.out.below hba) (And.intro hbx (show K.upd σ' wc.heap.size 7 wc.heap.size = 7 from upd_new (Nat.le_refl _)))))
              clear HO' HK hba hbx d0 d1 d2
              generalize wc.alloc (.cells #[.int .i64 kd, .int .i64 task, .slice AL nl cl] 53) = wd at HA ⊢
              generalize K.upd σ' wc.heap.size 7 = σb at HA
              generalize wc.heap.size = q at HA ⊢
              have d0 : wd.cell? ⟨q, 0, none⟩ = some (.int .i64 kd) := by rw [HA.out.2.2.1.cell]; rfl
              have d1 : wd.cell? ⟨q, 1, none⟩ = some (.int .i64 task) := by rw [HA.out.2.2.1.cell]; rfl
              have d2 : wd.cell? ⟨q, 2, none⟩ = some (.slice AL nl cl) := by rw [HA.out.2.2.1.cell]; rfl
              by_cases hd1 : kd = 1
              · as_aux_lemma =>
                subst hd1
                have hask : ∀ W, W = wd.drew → Calls Try.prog 15 #[.pointer (some ⟨gb, 0, none⟩), .int .i64 task, .slice AL (min nl 40) cl] W fun e w' => _ := fun W hW => hW ▸ ask_any wd.drew σb 2000 gb B (HA.out.1.mb.below (Below.refl _ _).drew) (by omega) task AL (min nl 40) cl (L.take 40) (by have hh := HA.out.2.1.len; dsimp only at hh; rw [List.length_take, hh]; omega) (by omega) ((HA.out.2.1.rd.below (Below.refl _ _).drew).take 40) (fun p hp => HA.out.2.1.wl p (List.mem_of_mem_take hp))
                have HC15 := Lib.hid hask
                have HC26 : Hid (∀ W, Calls Try.prog 26 #[.slice AL nl cl] W fun e w' => e = .returned (.slice AL (min nl 40) cl) ∧ w' = W) := Lib.hid (fun W => first_c W AL nl cl HA.out.2.1.cap)
                have HKS : Hid (∀ W σ', Chg (Om 2000) σb wd.drew σ' W → W.cell? ⟨q, 1, none⟩ = some (.int .i64 task) ∧ W.cell? ⟨q, 2, none⟩ = some (.slice AL nl cl)) := Lib.hid (fun W σ' c => by
                  have hb : Blk W q 53 #[.int .i64 1, .int .i64 task, .slice AL nl cl] := (c.block q HA.out.2.2.1.lt (by rw [HA.out.2.2.2]; unfold Om; omega)).trans HA.out.2.2.1
                  exact ⟨by rw [hb.cell]; rfl, by rw [hb.cell]; rfl⟩)
                clear hask
                go_upto_region 42 with fail
                clear d0 d1 d2
                obtain ⟨s1, s2⟩ := HKS.out wd.drew σb (Chg.refl _ _ _)
                go_region_held3 (fun W => W.cell? ⟨q, 1, none⟩ = some (.int .i64 task) ∧ W.cell? ⟨q, 2, none⟩ = some (.slice AL nl cl)) (first | exact HKS.out _ _ (Chg.refl _ _ _) | exact HKS.out _ _ (by assumption) | fail)
                  ((first | (go_at_call 26; refine (HC26.out _).mono ?_; rintro e w6 ⟨rfl, rfl⟩) | (go_at_call 15; refine (HC15.out _ rfl).mono ?_; rintro e w5 ⟨ok5, v5, M5, rfl, hr5, σ5, hm5, hc5⟩) | fail))
                have hct := hr5.cnt
                have HN := Lib.hid (HA.out.1.other ((Chg.of_below (Om 2000) σb (Below.refl wd.heap.size wd).drew).trans hc5) hm5 hct.2 (by omega : M5.cnt ≤ i + 1) (Nat.le_refl _))
                clear hr5 hm5 hc5 hct HA HC15 HC26 HKS
                go_wp2_with fail
                go_roundw
                case rel => exact ⟨i + 1, A', M5, C', σ5, by go_num, by omega, HN.out⟩
                case measure => simp [intOf]; omega
              by_cases hd2 : kd = 2
              · as_aux_lemma =>
                subst hd2
                go_wp2_with fail
                refine (free_any wd σb 2000 gb 0 (.inl (by omega)) B HA.out.1.mb (by omega) task).mono ?_
                rintro e w5 ⟨x, v, out, M', rfl, hfr, σ', hm, hrw, hc⟩
                have hct := hfr.cnt
                have HN := Lib.hid (HA.out.1.other hc hm hct.2.1 (by omega : M'.cnt ≤ i + 1) (Nat.le_refl _))
                clear hfr hm hrw hc hct d0 d1 d2 HA
                go_wp2_with fail
                go_roundw
                case rel => exact ⟨i + 1, A', M', C', σ', by go_num, by omega, HN.out⟩
                case measure => simp [intOf]; omega
              by_cases hd3 : kd = 3
              · as_aux_lemma =>
                subst hd3
                obtain ⟨M', out, hq⟩ := quits_any B task
                go_wp2_with fail
                refine (quit_c wd σb 2000 gb 0 (.inl (by omega)) B HA.out.1.mb (show B.cnt ≤ 100000 by omega) task M' out hq).mono ?_
                rintro e w5 ⟨x, rfl, σ', hm, hrw, hc⟩
                have hct := hq.cnt
                have HN := Lib.hid (HA.out.1.other hc hm hct.2.1 (by omega : M'.cnt ≤ i + 1) (Nat.le_refl _))
                clear hq hm hrw hc hct d0 d1 d2 HA
                go_wp2_with fail
                go_roundw
                case rel => exact ⟨i + 1, A', M', C', σ', by go_num, by omega, HN.out⟩
                case measure => simp [intOf]; omega
              · have HN := Lib.hid (HA.out.1)
                clear HA
                go_wp2_with fail
                go_roundw
                case rel => exact ⟨i + 1, A', B, C', σb, by go_num, by omega, HN.out⟩
                case measure => simp [intOf]; omega
            · have i1 : ¬ (i : Int) < (n2 : Int) := by omega
              go_wp2_with fail
              go_roundw
              case rel => exact ⟨i + 1, A', B, C', σ', by go_num, by omega, HO'.out⟩
              case measure => simp [intOf]; omega
      · as_aux_lemma =>
        go_upto_region 9 with fail
        go_cut [66] (fun z w' => z = .bool false ∧ w' = wa)
        case first =>
          by_cases hk1 : (i : Int) < (n1 : Int)
          · have i2 : ¬ (i : Int) < 300 := by omega
            go_wp2_with fail
            go_meet
            case rel => exact ⟨rfl, rfl⟩
          · by_cases hk2 : (i : Int) < (n2 : Int)
            · have i2 : ¬ (i : Int) < 300 := by omega
              go_wp2_with fail
              go_meet
              case rel => exact ⟨rfl, rfl⟩
            · go_wp2_with fail
              go_meet
              case rel => exact ⟨rfl, rfl⟩
        case rest =>
          rename World => wb
          obtain ⟨rfl, rfl⟩ := hcut
          go_wp2_with fail
          go_ret
          exact ⟨rfl, HO.out.st.bel⟩
  · as_aux_lemma =>
    refine (new_bad w1 a0 hm).mono ?_
    rintro e w2 ⟨rfl, rfl⟩
    go_wp2_with fail
    refine (new_bad w2 a0 hm).mono ?_
    rintro e w3 ⟨rfl, rfl⟩
    go_wp2_with fail
    refine (new_bad w3 a0 hm).mono ?_
    rintro e w4 ⟨rfl, rfl⟩
    go_wp2_with fail
    go_ret
    exact ⟨rfl, HB.out⟩
end Go.Proofs.Ytgcnappgecdldaa.C
