/-
  Locks: LocksNamed: the walk.
-/
import Derived.Test.YtgcnappgecdldaaV3
import Derived.Test.YtgcnappgecdldaaN2
import Derived.Deep.CutBlock
import Derived.Deep.RegionWith
set_option linter.unusedVariables false
set_option linter.unusedSimpArgs false
namespace Go.Proofs.Ytgcnappgecdldaa.C
open Go.RowKit Go.Proofs.Ytgcnappgecdldaa.K Go.Maps

/-- The first k of a list turned round, under other numbers. -/
def preL (n b : Int) (P : List (Int × Bool)) (k : Nat) : List (Int × Bool) := (P.reverse.take k).map (pinp n b)

set_option maxRecDepth 100000 in
set_option maxHeartbeats 12800000 in
theorem named_walk (w : World) (a0 : Int) (w0 : (Lit.int .i64 a0).wf = true)
    (v1 : Value) (o1 : ∃ (A : Option Addr) (n c : Nat) (f : Nat → LSt), v1 = .slice A n c ∧ n ≤ c ∧ LSteps w A n f ∧ n ≤ 140737488351232)
    (a2 : Int) (w2 : (Lit.int .i64 a2).wf = true) :
    Calls Try.prog 8 #[.int .i64 a0, v1, .int .i64 a2] w fun e w' => e = .returned (.bool true) ∧ Below w.heap.size w w' := by
  obtain ⟨A1, n1, c1, f1, rfl, hc1, hF1, hn1⟩ := o1
  have HF := Lib.hid hF1
  clear hF1 hc1
  go_enter Try.func8, Try.ntmps8
  go_wp2_with fail
  refine (known_c w).mono ?_
  rintro e w1 ⟨rfl, hb1⟩
  have HB := Lib.hid hb1
  clear hb1
  go_wp2_with fail
  by_cases hm : 1 ≤ a0 ∧ a0 ≤ 1024
  · obtain ⟨m, rfl⟩ := Int.eq_ofNat_of_zero_le (show 0 ≤ a0 by omega)
    have hm2 : m ≤ 1024 := by omega
    have hm1 : 1 ≤ m := by omega
    refine (new_mgr w1 m (by omega) (by omega) (fun _ => 0) 1000).mono ?_
    rintro e w3 ⟨ga, rfl, hga, hma, hb2⟩
    have H2 := Lib.hid (And.intro hma (((St.first w).below HB.out).upd HB.out.size 1000 |>.below hb2))
    clear hga hma hb2 HB hm
    generalize K.upd (fun _ => 0) w1.heap.size 1000 = σ2 at H2
    go_wp2_with fail
    refine (new_mgr w3 m (by omega) (by omega) σ2 2000).mono ?_
    rintro e w4 ⟨gb, rfl, hgb, hmb, hb4⟩
    have cc : Chg (fun _ => False) σ2 w3 (K.upd σ2 w3.heap.size 2000) w4 := ((Chg.refl (fun _ => False) σ2 w3).upd (Nat.le_refl _) 2000).below hb4
    have H4 : ∀ b : Int, Hid (Nw w w4 (K.upd σ2 w3.heap.size 2000) ga gb m b ⟨m, [], []⟩ ⟨m, [], []⟩ 0) := fun b => Lib.hid ⟨H2.out.1.chg cc (fun _ _ h => h), hmb, ⟨rfl, .nil, .nil⟩, H2.out.2.chg cc (fun h => h), rfl, Nat.le_refl _, fun c hc => by simp [Mgr.all] at hc⟩
    clear hgb hmb hb4 cc H2
    generalize K.upd σ2 w3.heap.size 2000 = σ4 at H4
    go_wp2_with fail
    refine (within_c w4 a2 1048576 (by omega) (by omega)).mono ?_
    rintro e wx ⟨b, rfl, hbl, rfl⟩
    have H5 := H4 (b : Int)
    have hb1 : b < 1048576 := by omega
    clear H4 hbl
    go_wp2_with fail
    go_loopw [11] (fun vi wr => ∃ (i : Nat) (M N : Mgr) (σ : Nat → Nat), vi = .int .i64 i ∧ i ≤ 300 ∧ Nw w wr σ ga gb m b M N i) (fun vi _ => 300 - (intOf vi).toNat)
    case atStart => exact ⟨0, _, _, σ4, rfl, by omega, H5.out⟩
    case round =>
      clear H5
      rename World => wa
      obtain ⟨i, M, N, σ, rfl, hi300, hO⟩ := hrel
      have HO := Lib.hid hO
      clear hO
      have i0 : (0 : Int) ≤ (i : Int) := by omega
      by_cases hgo : i < n1 ∧ i < 300
      · have i1 : (i : Int) < (n1 : Int) := by omega
        have i2 : (i : Int) < 300 := by omega
        obtain ⟨bs, ps, rfl, hbs, hcells⟩ := HF.out.at_ (by omega)
        have hok := HF.out.ok i (by omega)
        have hcc := hcells i (by omega)
        clear hcells
        obtain ⟨⟨kd, task, AL, nl, cl, L⟩, hs⟩ : ∃ s, f1 i = s := ⟨_, rfl⟩
        rw [hs] at hok hcc
        have d0 : wa.cell? ⟨bs, ps + i * 3, none⟩ = some (.int .i64 kd) := (HO.out.st.bel.cell (p := ⟨bs, ps + i * 3, none⟩) hbs).trans (hcc 0 _ rfl)
        have d1 : wa.cell? ⟨bs, ps + i * 3 + 1, none⟩ = some (.int .i64 task) := (HO.out.st.bel.cell (p := ⟨bs, ps + i * 3 + 1, none⟩) hbs).trans (hcc 1 _ rfl)
        have d2 : wa.cell? ⟨bs, ps + i * 3 + 2, none⟩ = some (.slice AL nl cl) := (HO.out.st.bel.cell (p := ⟨bs, ps + i * 3 + 2, none⟩) hbs).trans (hcc 2 _ rfl)
        have HK := Lib.hid hok
        clear hok hcc hs hbs
        go_upto_region 14 with fail
        have hba : Below wa.heap.size wa (wa.alloc (.cells #[.int .i64 kd, .int .i64 task, .slice AL nl cl] 53)) := (Below.refl _ _).alloc (Nat.le_refl _) _
        have hbx := Blk.new wa 53 #[.int .i64 kd, .int .i64 task, .slice AL nl cl]
        have HA := Lib.hid (And.intro ((HO.out.upd (Nat.le_refl _) 7).below hba) (show MBlk _ (K.upd σ wa.heap.size 7) 7 wa.heap.size 53 _ from ⟨hbx, upd_new (Nat.le_refl _)⟩))
        clear HO hba hbx d0 d1 d2
        generalize wa.alloc (.cells #[.int .i64 kd, .int .i64 task, .slice AL nl cl] 53) = wd at HA ⊢
        generalize K.upd σ wa.heap.size 7 = σb at HA
        generalize wa.heap.size = q at HA ⊢
        have hac := HA.out.1.ka
        have hbc := HA.out.1.kb
        have d0 : wd.cell? ⟨q, 0, none⟩ = some (.int .i64 kd) := by rw [HA.out.2.1.cell]; rfl
        have d1 : wd.cell? ⟨q, 1, none⟩ = some (.int .i64 task) := by rw [HA.out.2.1.cell]; rfl
        by_cases hout : task < 0 ∨ 1099511627776 < task
        · as_aux_lemma =>
            by_cases ht0 : task < 0
            · go_wp2_with fail
              go_roundw
              case rel => exact ⟨i + 1, M, N, σb, by go_num, by omega, HA.out.1.more (Nat.le_succ i)⟩
              case measure => simp [intOf]; omega
            · have ht1 : 1099511627776 < task := by omega
              go_wp2_with fail
              go_roundw
              case rel => exact ⟨i + 1, M, N, σb, by go_num, by omega, HA.out.1.more (Nat.le_succ i)⟩
              case measure => simp [intOf]; omega
        · have t0 : ¬ task < 0 := by omega
          have t1 : ¬ 1099511627776 < task := by omega
          have t2 : 0 ≤ task := by omega
          have t3 : task ≤ 1099511627776 := by omega
          go_upto_block 2 with fail
          go_cut [] (fun w' => ∃ M' N' σ', Nw w w' σ' ga gb m b M' N' (i + 1) ∧ MBlk w' σ' 7 q 53 #[.int .i64 kd, .int .i64 task, .slice AL nl cl])
          case first =>
            clear d0 d1
            have d0 : wd.cell? ⟨q, 0, none⟩ = some (.int .i64 kd) := by rw [HA.out.2.1.cell]; rfl
            have d1 : wd.cell? ⟨q, 1, none⟩ = some (.int .i64 task) := by rw [HA.out.2.1.cell]; rfl
            have d2 : wd.cell? ⟨q, 2, none⟩ = some (.slice AL nl cl) := by rw [HA.out.2.1.cell]; rfl
            by_cases hd1 : kd = 1
            · as_aux_lemma =>
                subst hd1
                have HKS : Hid (∀ W σ', MBlk W σ' 7 q 53 #[.int .i64 1, .int .i64 task, .slice AL nl cl] → W.cell? ⟨q, 1, none⟩ = some (.int .i64 task)) := Lib.hid (fun W σ' h => by rw [h.1.cell]; rfl)
                obtain ⟨p, hp⟩ : ∃ p, min nl 40 = p := ⟨_, rfl⟩
                obtain ⟨P, hP⟩ : ∃ P, L.take 40 = P := ⟨_, rfl⟩
                have hPl : P.length = p := by
                  have hh := HK.out.len
                  dsimp only at hh
                  rw [← hP, List.length_take, hh, ← hp]
                  omega
                have hPw : ∀ x ∈ P, (Lit.int .i64 x.1).wf = true := fun x hx => HK.out.wl x (List.mem_of_mem_take (by rw [hP]; exact hx))
                have hPa : ∀ W, St w σb W → LksAt W AL P := fun W st => by rw [← hP]; exact (HK.out.rd.below st.bel).take 40
                have hp40 : p ≤ 40 := by omega
                have hf := first_c wd AL nl cl HK.out.cap
                rw [hp] at hf
                have HP := Lib.hid (And.intro hPl (And.intro hPw hPa))
                have HFst := Lib.hid hf
                clear hPl hPw hPa hf hp hP
                go_wp2_with fail
                refine HFst.out.mono ?_
                rintro e wx ⟨rfl, rfl⟩
                rename World => wd
                clear d0 d1 d2 HFst
                obtain ⟨i1', hi1, hy0, hy1, hy2⟩ := info_parts info32'
                have HI := Lib.hid (And.intro hi1 (And.intro hy0 (And.intro hy1 hy2)))
                clear hi1 hy0 hy1 hy2
                go_wp2_with fail
                go_loopw [14, 16] (fun vl vk wr => ∃ (k : Nat), vk = .int .i64 k ∧ k ≤ p ∧ wr.ownsRow wd.heap.size 32 2 vl k (lks (preL m b P k)) ∧ Below wd.heap.size wd wr) (fun _ vk _ => p - (intOf vk).toNat)
                case atStart => exact ⟨0, rfl, Nat.zero_le _, World.ownsRow_nil _ _ _ _, Below.refl _ _⟩
                case round =>
                  rename World => wr0
                  obtain ⟨k, rfl, hk, ho, hbr⟩ := hrel
                  obtain ⟨Av, cv, rfl⟩ := own_slice ho
                  have HR := Lib.hid (And.intro ho hbr)
                  clear ho hbr
                  by_cases hkp : k < p
                  · have k0 : (0 : Int) ≤ (k : Int) := by omega
                    have k1 : (k : Int) < (p : Int) := by omega
                    obtain ⟨z, hz⟩ : ∃ z, p - 1 - k = z := ⟨_, rfl⟩
                    have hz1 : (p : Int) - 1 - (k : Int) = (z : Int) := by omega
                    have hz2 : (z : Int) < (p : Int) := by omega
                    have hz3 : (0 : Int) ≤ (z : Int) := by omega
                    have hzl : z < P.length := by rw [HP.out.1]; omega
                    obtain ⟨gl, ol, rfl, hgl, hcl⟩ := (HP.out.2.2 wr0 (HA.out.1.st.below HR.out.2)).at_ (by rw [HP.out.1]; omega)
                    obtain ⟨c0, c1⟩ := hcl z hzl
                    clear hcl hgl
                    have hrev : preL m b P (k + 1) = preL m b P k ++ [pinp m b P[z]] := by
                      unfold preL
                      have hkr : k < P.reverse.length := by rw [List.length_reverse, HP.out.1]; exact hkp
                      rw [List.take_succ_eq_append_getElem hkr, List.map_append]
                      have e : P.reverse[k] = P[z] := by
                        rw [List.getElem_reverse]
                        congr 1
                        rw [HP.out.1]
                        exact hz
                      rw [e]
                      rfl
                    have hwx := HP.out.2.1 P[z] (List.getElem_mem hzl)
                    have HREV := Lib.hid hrev
                    clear hrev
                    generalize P[z] = pz at c0 c1 HREV hwx
                    obtain ⟨x, s⟩ := pz
                    dsimp only at c0 c1 hwx
                    have hxw : -9223372036854775808 ≤ x ∧ x ≤ 9223372036854775807 := by
                      simp [Lit.wf, IntKind.min, IntKind.max, IntKind.signed, IntKind.bits] at hwx
                      exact hwx
                    clear hwx
                    go_upto_region 24 with fail
                    have hal : Below wr0.heap.size wr0 (wr0.alloc (.cells #[.int .i64 x, .bool s] 32)) := (Below.refl _ _).alloc (Nat.le_refl _) _
                    have hbx := Blk.new wr0 32 #[.int .i64 x, .bool s]
                    have HB2 := Lib.hid (And.intro hal hbx)
                    have b0 : (wr0.alloc (.cells #[.int .i64 x, .bool s] 32)).cell? ⟨wr0.heap.size, 0, none⟩ = some (.int .i64 x) := by rw [hbx.cell]; rfl
                    have f0 := hbx.frozen 0
                    clear hal hbx c0 c1
                    generalize wr0.alloc (.cells #[.int .i64 x, .bool s] 32) = w5 at HB2 b0 f0 ⊢
                    generalize hq5 : wr0.heap.size = q5 at b0 f0 HB2 ⊢
                    have HQ5 := Lib.hid hq5
                    clear hq5
                    have m0 : ¬ (m : Int) = 0 := by omega
                    go_cut [108] (fun zz w' => zz = .bool (decide (0 ≤ x ∧ x < (m : Int))) ∧ w' = w5)
                    case first =>
                      by_cases g1 : 0 ≤ x
                      · by_cases g2 : x < (m : Int)
                        · go_wp2_with fail
                          go_meet
                          case rel => exact ⟨by rw [decide_eq_true ⟨g1, g2⟩], rfl⟩
                        · go_wp2_with fail
                          go_meet
                          case rel => exact ⟨by rw [decide_eq_false (show ¬ (0 ≤ x ∧ x < (m : Int)) by omega)], rfl⟩
                      · go_wp2_with fail
                        go_meet
                        case rel => exact ⟨by rw [decide_eq_false (show ¬ (0 ≤ x ∧ x < (m : Int)) by omega)], rfl⟩
                    case rest =>
                      rename World => w6
                      obtain ⟨rfl, rfl⟩ := hcut
                      go_upto_if 108 with fail
                      go_cut [] (fun w' => ∃ y, Hid (y = pin m b x) ∧ Blk w' q5 32 #[.int .i64 y, .bool s] ∧ Below q5 wr0 w')
                      case first =>
                        by_cases hin : 0 ≤ x ∧ x < (m : Int)
                        · have hdec : decide (0 ≤ x ∧ x < (m : Int)) = true := decide_eq_true hin
                          obtain ⟨hin1, hin2⟩ := hin
                          obtain ⟨y, hy⟩ : ∃ y, (x + (b : Int)) % (m : Int) = y := ⟨_, rfl⟩
                          have hrm : Int.tmod (x + (b : Int)) (m : Int) = y := by rw [Int.tmod_eq_emod_of_nonneg (by omega)]; exact hy
                          have HY : Hid (y = pin m b x) := Lib.hid (by unfold pin; rw [if_pos ⟨hin1, hin2⟩]; exact hy.symm)
                          clear hy
                          rw [hdec]
                          clear hdec
                          go_wp2_with fail
                          go_meet
                          case rel => exact ⟨y, HY, HB2.out.2.set_ 0 (.int .i64 y), Below.only_ HB2.out.1 ((Only.refl [q5] w6).setCell (.inl (by simp)) _) (Nat.le_of_lt HB2.out.2.lt) (fun k hk => by simp at hk; omega)⟩
                        · have hdec : decide (0 ≤ x ∧ x < (m : Int)) = false := decide_eq_false hin
                          have HY : Hid (x = pin m b x) := Lib.hid (by unfold pin; rw [if_neg hin])
                          rw [hdec]
                          clear hdec hin
                          go_wp2_with fail
                          go_meet
                          case rel => exact ⟨x, HY, HB2.out.2, HB2.out.1⟩
                      case rest =>
                        rename World => w7
                        obtain ⟨y, hy, hb7, hbel7⟩ := hcut
                        rw [← HQ5.out] at hbel7
                        have e0 : w7.cell? ⟨q5, 0, none⟩ = some (.int .i64 y) := by rw [hb7.cell]; rfl
                        have e1 : w7.cell? ⟨q5, 1, none⟩ = some (.bool s) := by rw [hb7.cell]; rfl
                        have hb77 := Below.then_ HR.out.2 HR.out.2.size hbel7
                        have H7 := Lib.hid (And.intro hb77 (own_below HR.out.1 hbel7))
                        clear hb7 hbel7 hb77 HB2 b0 f0
                        obtain ⟨hi1, hy0, hy1, hy2⟩ := HI.out
                        go_wp2_with (first | (at_builtin; refine wpList_append_reads (by rfl) _ _ 30 (by rfl) wd.heap.size 32 i1' _ 2 16 Try.underlying30 hi1 hy0 hy1 hy2 rfl (by omega) (.slice Av k cv) k (lks (preL m b P k)) (by rfl) ?c0 (some ⟨w7.heap.size, 0, none⟩) 1 1 [.int .i64 y, .bool s] (by rfl) rfl ?c2 (by intro u hu; simp at hu; rcases hu with rfl | rfl <;> rfl) ?c4 ?c5 ?c6 ?_) | fail)
                        case c0 => exact own_below H7.out.2 ((Below.refl _ _).alloc (Nat.le_refl _) _)
                        case c2 => exact reads_new2 w7 #[.int .i64 y, .bool s] 32
                        case c4 => unfold maxLen; omega
                        case c5 => omega
                        case c6 => have := H7.out.1.size; simp; omega
                        intro v' w9 hown9 hgrow hat
                        have hb9 : Below wd.heap.size wd w9 := (H7.out.1.alloc H7.out.1.size _).grown hgrow (by have := H7.out.1.size; simp; omega) (fun x e => (H7.out.2.lt x e).1)
                        have HN := Lib.hid (And.intro (show w9.ownsRow wd.heap.size 32 2 v' (k + 1) (lks (preL m b P (k + 1))) from by rw [HREV.out, lks_append, show pinp m b (x, s) = (y, s) from by rw [hy.out]; rfl]; exact hown9) hb9)
                        clear hat hgrow hown9 hb9 hi1 hy0 hy1 hy2 H7 e0 e1
                        go_wp2_with fail
                        go_roundw
                        case rel => exact ⟨k + 1, by go_num, by omega, HN.out.1, HN.out.2⟩
                        case measure => simp [intOf]; omega
                  · obtain rfl : k = p := by omega
                    have k1 : ¬ (k : Int) < (k : Int) := by omega
                    have hfull : preL m b P k = mapL m b P := by
                      unfold preL
                      rw [List.take_of_length_le (by rw [List.length_reverse, HP.out.1]; exact Nat.le_refl _)]
                      rfl
                    have hol := HR.out.1
                    rw [hfull] at hol
                    have hrow := Row.fresh hol (σ := σb) 6
                    have hmask := fun W σ' (st : St w σ' W) (hm : MgrAt W σ' 1000 ga M) (hl : LksAt W AL P) => ask_any W σ' 1000 ga M hm (by omega) task AL k cl P HP.out.1 (by omega) hl HP.out.2.1
                    have hmask2 := fun W σ' (hm : MgrAt W σ' 2000 gb N) (hl : LksAt W Av (mapL m b P)) => ask_any W σ' 2000 gb N hm (by omega) (3 * task + (b : Int)) Av k cv (mapL m b P) (by rw [mapL_len]; exact HP.out.1) (by omega) hl (fun z hz => by
                      obtain ⟨y, hy, rfl⟩ := mem_mapL.1 hz
                      exact pin_wf (by omega) (by omega) (HP.out.2.1 y hy))
                    have H6 := Lib.hid (And.intro ((HA.out.1.upd (Nat.le_refl wd.heap.size) 6).below HR.out.2) (And.intro ((HA.out.2.upd (Nat.le_refl wd.heap.size) 6).below HR.out.2) (And.intro hrow (HP.out.2.2 wr0 (HA.out.1.st.below HR.out.2)))))
                    have HM := Lib.hid (And.intro hmask hmask2)
                    clear hmask hmask2 hrow hol hfull HA HR
                    generalize K.upd σb wd.heap.size 6 = σl at H6
                    have e1 := HKS.out _ _ H6.out.2.1
                    go_wp2_with fail
                    refine (HM.out.1 wr0 σl H6.out.1.st H6.out.1.ma H6.out.2.2.2).mono ?_
                    rintro e w6 ⟨ok, v, M', rfl, hr, σ1, hm1', hc1⟩
                    have hq1 := H6.out.2.1.chg hc1 (by unfold Om; omega)
                    have H7 := Lib.hid (And.intro hr (And.intro hm1' (And.intro hc1 (And.intro hq1 (And.intro (H6.out.1.mb.chg hc1 (fun x hx => by unfold Om at *; omega)) (row_lks (H6.out.2.2.1.chg hc1 (by unfold Om; omega)) (by rw [mapL_len]; exact HP.out.1)))))))
                    clear hr hm1' hc1 hq1 e1
                    go_wp2_with fail
                    refine (HM.out.2 w6 σ1 H7.out.2.2.2.2.1 H7.out.2.2.2.2.2).mono ?_
                    rintro e w7 ⟨ok2, v2, N', rfl, hr2, σ2, hm2', hc2⟩
                    have hpm := H6.out.1.pm
                    have hmm := H6.out.1.mm
                    have hpar := AskR.par (φ := ren b) (R := Rn m b) (rn_keeps (by omega)) (ren_inj b) H7.out.1 (show AskR N (ren b task) (mapL m b P) w7 ok2 v2 N' from hr2) hpm (by unfold ren; omega) (by rw [hpm.m, hmm]; exact asks_mapL (by omega) P) (fun D D' h1 h2 hAk => ⟨P, by rw [← hmm]; exact hAk, h1, h2⟩)
                    have hact := H7.out.1.cnt
                    have hOb := H6.out.1.both H7.out.2.2.1 hc2 H7.out.2.1 hm2' hpar.2.1 hact.2 (by omega : M'.cnt ≤ i + 1) (fun c hc => by
                      rcases H7.out.1.sub c hc with h | ⟨h, _⟩
                      · exact H6.out.1.tb c h
                      · omega)
                    have hq2 := H7.out.2.2.2.1.chg hc2 (by unfold Om; omega)
                    have hv := H7.out.1.val
                    have hv2 := hr2.val
                    have hiff := hpar.2.2
                    obtain rfl : ok = ok2 := hpar.1
                    have HN := Lib.hid (And.intro hOb hq2)
                    clear hr2 hm2' hc2 hpar hact hOb hq2 H7 H6 hpm hmm HM HKS
                    have hkk : (ok != ok) = false := by simp
                    rcases hv with rfl | ⟨pb, rfl⟩
                    · obtain rfl : v2 = .nilIface := hiff.1 rfl
                      clear hv2 hiff
                      go_wp2_with fail
                      go_quiet (fail)
                      go_wp2_with fail
                      go_meet
                      case rel => exact ⟨M', N', σ2, HN.out.1.below (below_drewN (Below.refl _ _) _), HN.out.2.below (below_drewN (Below.refl _ _) _)⟩
                    · obtain ⟨pb2, rfl⟩ : ∃ pb, v2 = .iface 82 (.pointer (some ⟨pb, 0, none⟩)) := by
                        rcases hv2 with h | h
                        · have := hiff.2 h
                          cases this
                        · exact h
                      clear hv2 hiff
                      go_wp2_with fail
                      go_quiet (fail)
                      go_wp2_with fail
                      go_meet
                      case rel => exact ⟨M', N', σ2, HN.out.1.below (below_drewN (Below.refl _ _) _), HN.out.2.below (below_drewN (Below.refl _ _) _)⟩
            by_cases hd2 : kd = 2
            · as_aux_lemma =>
                subst hd2
                have HKS : Hid (∀ W σ', MBlk W σ' 7 q 53 #[.int .i64 2, .int .i64 task, .slice AL nl cl] → W.cell? ⟨q, 1, none⟩ = some (.int .i64 task)) := Lib.hid (fun W σ' h => by rw [h.1.cell]; rfl)
                go_wp2_with fail
                refine (free_any wd σb 1000 ga 8 (.inl (by omega)) M HA.out.1.ma (by omega) task).mono ?_
                rintro e w5 ⟨x, v, out, M', rfl, hfr, σ1, hm1', hx, hc1⟩
                have hq1 := HA.out.2.chg hc1 (by unfold Om; omega)
                have H1 := Lib.hid (And.intro hfr (And.intro hm1' (And.intro hx (And.intro hc1 (And.intro hq1 (HA.out.1.mb.chg hc1 (fun x hx => by unfold Om at *; omega)))))))
                clear hfr hm1' hx hc1 hq1 d0 d1 d2
                go_wp2_with fail
                refine (free_any w5 σ1 2000 gb 8 (.inl (by omega)) N H1.out.2.2.2.2.2 (by omega) (3 * task + (b : Int))).mono ?_
                rintro e w6 ⟨y, v2, out2, N', rfl, hfr2, σ2, hm2', hy, hc2⟩
                have hpar := FreeR.par (φ := ren b) (R := Rn m b) (rn_keeps (by omega)) (ren_inj b) H1.out.1 (show FreeR N (ren b task) w6 v2 out2 N' from hfr2) HA.out.1.pm
                have hact := H1.out.1.cnt
                have hsub := H1.out.1.sub
                have hOb := HA.out.1.both H1.out.2.2.2.1 hc2 H1.out.2.1 hm2' hpar.2.1 hact.2.1 (by omega : M'.cnt ≤ i + 1) (fun c hc => HA.out.1.tb c (hsub.1 c hc))
                have hq2 := H1.out.2.2.2.2.1.chg hc2 (by unfold Om; omega)
                have hx2 := H1.out.2.2.1.chg hc2 (by unfold Om; omega)
                rw [tasks_num] at hx2
                rw [pl_ren hpar.1, hpar.1.len] at hy
                have hol : out.length ≤ 1000000 := by omega
                have htb : ∀ z ∈ out.map (·.task), 0 ≤ z ∧ z ≤ 1099511627776 := fun z hz => by
                  obtain ⟨c, hc, rfl⟩ := List.mem_map.1 hz
                  exact HA.out.1.tb c (hsub.2 c hc)
                have hv := H1.out.1.val
                have hv2 := hfr2.val
                have hiff := hpar.2.2
                have HC34 : Hid (∀ W, Below w6.heap.size w6 W → Calls Try.prog 34 #[x, .int .i64 b] W fun e w' => ∃ u, e = .returned u ∧ w'.ownsRow W.heap.size 3 1 u out.length (renL b (out.map (·.task))) ∧ Below W.heap.size W w' ∧ Below w6.heap.size w6 w') := Lib.hid (fun W hb => by
                  refine (names_c W 0 x out.length (out.map (·.task)) b (by simp) hol htb (by omega) (by omega) (hx2.below hb).1).mono ?_
                  rintro e w' ⟨u, he, ho, h'⟩
                  exact ⟨u, he, ho, h', Below.then_ hb hb.size h'⟩)
                have HC20 : Hid (∀ W u B, Below w6.heap.size w6 W → W.ownsRow B 3 1 u out.length (renL b (out.map (·.task))) → Calls Try.prog 20 #[u, y] W fun e w' => e = .returned (.bool true) ∧ Below w6.heap.size w6 w') := Lib.hid (fun W u B hb h0 => by
                  refine (same_ints W B 0 u y ((out.map Clm.task).map (ren b)) out.length (by simp) hol h0 (hy.below hb).1).mono ?_
                  rintro e w' ⟨he, h'⟩
                  exact ⟨he, Below.then_ hb hb.size h'⟩)
                have HDR : Hid (Below w6.heap.size w6 w6.drew) := Lib.hid (Below.refl _ _).drew
                have HN := Lib.hid (And.intro hOb hq2)
                clear hfr2 hm2' hy hc2 hpar hact hsub hOb hq2 hx2 htb H1 hol HKS
                rcases hv with rfl | ⟨pb, rfl⟩
                · obtain rfl : v2 = .nilIface := hiff.1 rfl
                  clear hv2 hiff
                  go_upto_region 34 with fail
                  go_region_held3 (fun W => True) (first | exact trivial | fail)
                    ((first | (go_at_call 34; refine (HC34.out _ (by first | assumption | exact HDR.out)).mono ?_; rintro e w7 ⟨u, rfl, hou, hbu1, hbu2⟩) | (go_at_call 20; refine (HC20.out _ _ _ (by first | assumption | exact HDR.out) (by assumption)).mono ?_; rintro e w8 ⟨rfl, hb8⟩) | fail))
                  go_wp2_with fail
                  go_meet
                  case rel => exact ⟨M', N', σ2, HN.out.1.below (by assumption), HN.out.2.below (by assumption)⟩
                · obtain ⟨pb2, rfl⟩ : ∃ pb, v2 = .iface 82 (.pointer (some ⟨pb, 0, none⟩)) := by
                    rcases hv2 with h | h
                    · have := hiff.2 h
                      cases this
                    · exact h
                  clear hv2 hiff
                  go_upto_region 34 with fail
                  go_region_held3 (fun W => True) (first | exact trivial | fail)
                    ((first | (go_at_call 34; refine (HC34.out _ (by first | assumption | exact HDR.out)).mono ?_; rintro e w7 ⟨u, rfl, hou, hbu1, hbu2⟩) | (go_at_call 20; refine (HC20.out _ _ _ (by first | assumption | exact HDR.out) (by assumption)).mono ?_; rintro e w8 ⟨rfl, hb8⟩) | fail))
                  go_wp2_with fail
                  go_meet
                  case rel => exact ⟨M', N', σ2, HN.out.1.below (by assumption), HN.out.2.below (by assumption)⟩
            by_cases hd3 : kd = 3
            · as_aux_lemma =>
                subst hd3
                have HKS : Hid (∀ W σ', MBlk W σ' 7 q 53 #[.int .i64 3, .int .i64 task, .slice AL nl cl] → W.cell? ⟨q, 1, none⟩ = some (.int .i64 task)) := Lib.hid (fun W σ' h => by rw [h.1.cell]; rfl)
                obtain ⟨M', out, hq⟩ := quits_any M task
                obtain ⟨N', out2, hqc⟩ := quits_any N (3 * task + (b : Int))
                have hpar := Quits.par (φ := ren b) (R := Rn m b) (rn_keeps (by omega)) (ren_inj b) hq (show Quits N (ren b task) N' out2 from hqc) HA.out.1.pm
                have hact := hq.cnt
                have hsub := hq.sub
                have hq1f := fun W (hm : MgrAt W σb 1000 ga M) => quit_c W σb 1000 ga 8 (.inl (by omega)) M hm (show M.cnt ≤ 100000 by omega) task M' out hq
                have hq2f := fun W σ1 (hm : MgrAt W σ1 2000 gb N) => quit_c W σ1 2000 gb 8 (.inl (by omega)) N hm (show N.cnt ≤ 100000 by omega) (3 * task + (b : Int)) N' out2 hqc
                have HQ := Lib.hid (And.intro hq1f (And.intro hq2f (And.intro hpar (And.intro hact hsub))))
                clear hq hqc hq1f hq2f hpar hact hsub
                have hol : out.length ≤ 1000000 := by have := HQ.out.2.2.2.1; omega
                go_wp2_with fail
                refine (HQ.out.1 wd HA.out.1.ma).mono ?_
                rintro e w5 ⟨x, rfl, σ1, hm1', hx, hc1⟩
                have hq1 := HA.out.2.chg hc1 (by unfold Om; omega)
                have d3 := HKS.out _ _ hq1
                rw [tasks_num] at hx
                have hnm := names_c w5 0 x out.length (out.map (·.task)) b (by simp) hol (fun y hy => by
                  obtain ⟨c, hc, rfl⟩ := List.mem_map.1 hy
                  exact HA.out.1.tb c (HQ.out.2.2.2.2.2 c hc)) (by omega) (by omega) hx.1
                have H1 := Lib.hid (And.intro hm1' (And.intro hc1 (And.intro hq1 (And.intro (HA.out.1.mb.chg hc1 (fun x hx => by unfold Om at *; omega)) hnm))))
                clear hm1' hx hc1 hq1 hnm d0 d1 d2
                go_wp2_with fail
                refine H1.out.2.2.2.2.mono ?_
                rintro e w6 ⟨u, rfl, hou, hb6⟩
                have hru := Row.fresh hou (σ := σ1) 8
                have hcu := ((Chg.refl (fun _ => False) σ1 w5).upd (Nat.le_refl _) 8).below hb6
                have H2 := Lib.hid (And.intro (H1.out.1.chg hcu (fun _ _ h => h)) (And.intro ((H1.out.2.1.upd H1.out.2.1.size 8).below hb6) (And.intro (H1.out.2.2.1.chg hcu (fun h => h)) (And.intro (H1.out.2.2.2.1.chg hcu (fun _ _ h => h)) hru))))
                clear hru hcu hou hb6 H1 d3
                generalize K.upd σ1 w5.heap.size 8 = σ2 at H2
                go_wp2_with fail
                refine (HQ.out.2.1 w6 σ2 H2.out.2.2.2.1).mono ?_
                rintro e w7 ⟨y, rfl, σ3, hm2', hy, hc2⟩
                have hOb := HA.out.1.both H2.out.2.1 hc2 H2.out.1 hm2' HQ.out.2.2.1.2 HQ.out.2.2.2.1.2.1 (by have := HQ.out.2.2.2.1; omega : M'.cnt ≤ i + 1) (fun c hc => HA.out.1.tb c (HQ.out.2.2.2.2.1 c hc))
                have hq2 := H2.out.2.2.1.chg hc2 (by unfold Om; omega)
                have hx2 := H2.out.2.2.2.2.chg hc2 (by unfold Om; omega)
                rw [pl_ren HQ.out.2.2.1.1, HQ.out.2.2.1.1.len] at hy
                have hsi := same_ints w7 0 0 u y ((out.map Clm.task).map (ren b)) out.length (by simp) hol hx2.1 hy.1
                have HN := Lib.hid (And.intro hOb (And.intro hq2 hsi))
                clear hm2' hy hc2 hOb hq2 hx2 hsi H2
                go_wp2_with fail
                refine HN.out.2.2.mono ?_
                rintro e w8 ⟨rfl, hb8⟩
                have HN2 := Lib.hid (And.intro (HN.out.1.below hb8) (HN.out.2.1.below hb8))
                clear hb8 HN
                go_wp2_with fail
                go_meet
                case rel => exact ⟨M', N', σ3, HN2.out.1, HN2.out.2⟩
            · as_aux_lemma =>
                go_wp2_with fail
                go_meet
                case rel => exact ⟨M, N, σb, HA.out.1.more (Nat.le_succ i), HA.out.2⟩
          case rest => as_aux_lemma =>
            rename World => we
            obtain ⟨M', N', σ1, hO1, hq1⟩ := hcut
            have H1 := Lib.hid (And.intro hO1 hq1)
            clear hO1 hq1 HA HK d0 d1 hac hbc
            have HKS : Hid (∀ W, Below we.heap.size we W → W.cell? ⟨q, 1, none⟩ = some (.int .i64 task)) := Lib.hid (fun W hb => by rw [(H1.out.2.below hb).1.cell]; rfl)
            have hka := H1.out.1.ka
            have hql : M'.queue.length ≤ 1000000 := by unfold Mgr.cnt at hka; omega
            have htb : ∀ z ∈ M'.queue.map (·.task), 0 ≤ z ∧ z ≤ 1099511627776 := fun z hz => by
              obtain ⟨c, hc, rfl⟩ := List.mem_map.1 hz
              exact H1.out.1.tb c (List.mem_append_right _ hc)
            have htk := pl_ren H1.out.1.pm.queue
            have hlen := H1.out.1.pm.queue.len
            have hwt : M'.queue.any (fun c => c.task == task) = N'.queue.any (fun c => c.task == (3 * task + (b : Int))) := H1.out.1.pm.queue.any (fun c c' h1 _ => same_task (ren_inj b) task c c' h1)
            obtain ⟨L1, hL1⟩ := hasR_any M' task
            obtain ⟨L2, hL2⟩ := hasR_any N' (3 * task + (b : Int))
            have hLL : L2.length = L1.length := by
              rcases HasR.par (φ := ren b) (R := Rn m b) (ren_inj b) hL1 (show HasR N' (ren b task) L2 from hL2) H1.out.1.pm with ⟨h1, h2⟩ | ⟨D, D', h1, h2, h3⟩
              · rw [h1, h2]
              · rw [h2, h3, H1.out.1.mm]
                exact (rn_len (by omega) h1).symm
            have hle := hL1.le (show M'.m ≤ 1024 by rw [H1.out.1.mm]; omega)
            have HX := Lib.hid (And.intro hql (And.intro htb (And.intro htk (And.intro hlen (And.intro hwt (And.intro hL1 (And.intro hL2 (And.intro hLL hle))))))))
            clear hka hql htb htk hlen hwt hL1 hL2 hLL hle
            go_wp2_with fail
            refine (queue_c we σ1 1000 ga M' H1.out.1.ma).mono ?_
            rintro e w5 ⟨v5, rfl, ho5, hb5⟩
            rw [tasks_num] at ho5
            have HB5 := Lib.hid hb5
            have H5 := Lib.hid (names_c w5 _ v5 M'.queue.length (M'.queue.map (·.task)) b (by simp) HX.out.1 HX.out.2.1 (by omega) (by omega) ho5)
            clear ho5 hb5
            go_wp2_with fail
            refine H5.out.mono ?_
            rintro e w6 ⟨v6, rfl, ho6, hb6⟩
            have HB6 := Lib.hid (And.intro (Below.then_ HB5.out HB5.out.size hb6) ho6)
            clear ho6 hb6 H5
            go_wp2_with fail
            refine (queue_c w6 σ1 2000 gb N' (H1.out.1.mb.below HB6.out.1)).mono ?_
            rintro e w7 ⟨v7, rfl, ho7, hb7⟩
            rw [HX.out.2.2.1, HX.out.2.2.2.1] at ho7
            have HB7 := Lib.hid (Below.then_ HB6.out.1 HB6.out.1.size hb7)
            have H7 := Lib.hid (same_ints w7 _ _ v6 v7 ((M'.queue.map (·.task)).map (ren b)) M'.queue.length (by simp) HX.out.1 (own_below HB6.out.2 hb7) ho7)
            clear ho7 hb7
            go_wp2_with fail
            refine H7.out.mono ?_
            rintro e w8 ⟨rfl, hb8⟩
            have HB8 := Lib.hid (Below.then_ HB7.out HB7.out.size hb8)
            clear hb8 H7
            have e1 := HKS.out w8 HB8.out
            go_wp2_with fail
            refine (waits_c w8 σ1 1000 ga M' (H1.out.1.ma.below HB8.out) task).mono ?_
            rintro e w9 ⟨rfl, hb9⟩
            have HB9 := Lib.hid (Below.then_ HB8.out HB8.out.size hb9)
            clear hb9 e1
            rw [HX.out.2.2.2.2.1]
            obtain ⟨wt, hwt⟩ : ∃ x, N'.queue.any (fun c => c.task == (3 * task + (b : Int))) = x := ⟨_, rfl⟩
            rw [hwt]
            have HWt := Lib.hid hwt
            clear hwt
            go_wp2_with fail
            refine (waits_c w9 σ1 2000 gb N' (H1.out.1.mb.below HB9.out) (3 * task + (b : Int))).mono ?_
            rintro e w10 ⟨rfl, hb10⟩
            rw [HWt.out]
            have HB10 := Lib.hid (Below.then_ HB9.out HB9.out.size hb10)
            clear hb10
            have e1 := HKS.out w10 HB10.out
            have hw1 : (wt != wt) = false := by simp
            go_wp2_with fail
            refine (has_any w10 σ1 1000 ga M' (H1.out.1.ma.below HB10.out) task L1 HX.out.2.2.2.2.2.1).mono ?_
            rintro e w11 ⟨v11, rfl, ho11, hb11⟩
            have HB11 := Lib.hid (Below.then_ HB10.out HB10.out.size hb11)
            obtain ⟨A11, c11, rfl⟩ := own_slice ho11
            clear ho11 hb11 e1
            go_wp2_with fail
            refine (has_any w11 σ1 2000 gb N' (H1.out.1.mb.below HB11.out) (3 * task + (b : Int)) L2 HX.out.2.2.2.2.2.2.1).mono ?_
            rintro e w12 ⟨v12, rfl, ho12, hb12⟩
            have HB12 := Lib.hid (Below.then_ HB11.out HB11.out.size hb12)
            rw [HX.out.2.2.2.2.2.2.2.1] at ho12
            obtain ⟨A12, c12, rfl⟩ := own_slice ho12
            clear ho12 hb12
            generalize L1.length = ln
            have HN := Lib.hid (H1.out.1.below HB12.out)
            clear H1 HKS HX HB5 HB6 HB7 HB8 HB9 HB10 HB11 HB12
            go_wp2_with fail
            go_roundw
            case rel => exact ⟨i + 1, M', N', σ1, by go_num, by omega, HN.out⟩
            case measure => simp [intOf]; omega
      · as_aux_lemma =>
          go_upto_region 11 with fail
          go_cut [59] (fun z w' => z = .bool false ∧ w' = wa)
          case first =>
            by_cases hk1 : (i : Int) < (n1 : Int)
            · have i2 : ¬ (i : Int) < 300 := by omega
              go_wp2_with fail
              go_meet
              case rel => exact ⟨rfl, rfl⟩
            · go_wp2_with fail
              go_meet
              case rel => exact ⟨rfl, rfl⟩
          case rest =>
            rename World => wb
            obtain ⟨rfl, rfl⟩ := hcut
            go_wp2_with fail
            go_ret
            exact ⟨rfl, HO.out.st.bel⟩
  · as_aux_lemma =>
      refine (new_bad w1 a0 hm).mono ?_
      rintro e w2 ⟨rfl, rfl⟩
      go_wp2_with fail
      refine (new_bad w2 a0 hm).mono ?_
      rintro e w3 ⟨rfl, rfl⟩
      go_wp2_with fail
      go_ret
      exact ⟨rfl, HB.out⟩
end Go.Proofs.Ytgcnappgecdldaa.C
