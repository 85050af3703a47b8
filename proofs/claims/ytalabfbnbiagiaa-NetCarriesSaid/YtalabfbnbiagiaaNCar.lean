/-
  The call of the law NetCarries: it returns true, whatever the input.
-/
import Derived.Test.YtalabfbnbiagiaaCarL
set_option linter.unusedVariables false
set_option linter.unusedSimpArgs false
namespace Go.Proofs.Ytalabfbnbiagiaa.C
open Go.RowKit Go.Proofs.Ytalabfbnbiagiaa.K

set_option maxRecDepth 100000 in
set_option maxHeartbeats 40000000 in
theorem carries_walk (w : World) (a0 : Int) (y0 : (Lit.int .i64 a0).wf = true) (a1 : Int) (y1 : (Lit.int .i64 a1).wf = true)
    (v2 : Value) (o2 : ∃ (A : Option Addr) (n c : Nat) (f : Nat → NSt), v2 = .slice A n c ∧ n ≤ c ∧ NSteps w A n f ∧ n ≤ 140737488351232) :
    Calls Try.prog 6 #[.int .i64 a0, .int .i64 a1, v2] w fun e w' => e = .returned (.bool true) ∧ Below w.heap.size w w' := by
  obtain ⟨A2, n2, c2, f2, rfl, hnc2, hS2, hm2⟩ := o2
  obtain ⟨i0, hi0, hz0, hz1, hz2⟩ := info_parts info5'
  have HS := Lib.hid hS2
  clear hS2 y0 y1
  go_enter Try.func6, Try.ntmps6
  go_wp2_with fail
  refine (within_c w a0 40 (by omega) (by omega)).mono ?_
  rintro e w1 ⟨r0, rfl, hr0, rfl⟩
  go_wp2_with fail
  refine (within_c w a1 40 (by omega) (by omega)).mono ?_
  rintro e w1 ⟨r1, rfl, hr1, rfl⟩
  obtain ⟨ii, hii⟩ : ∃ x : Nat, (1 + (r0 : Int)) = (x : Int) := ⟨1 + r0, by omega⟩
  obtain ⟨oo, hoo⟩ : ∃ x : Nat, (1 + (r1 : Int)) = (x : Int) := ⟨1 + r1, by omega⟩
  go_wp2_with fail

  have hii2 : 1 ≤ ii ∧ ii ≤ 40 ∧ 1 ≤ oo ∧ oo ≤ 40 := by omega
  obtain ⟨hii1, hii2, hoo1, hoo2⟩ := hii2
  clear hii hoo
  refine (new_c w (ii : Int) (oo : Int) (by omega) (fun _ => 0) 1000).mono ?_
  rintro e w1 ⟨g, rfl, hg1, hg2, hb1, H1⟩
  have HA1 := Lib.hid (And.intro H1 (((St.first w).below hb1).upd (Nat.le_refl _) (1000 + 4)))
  generalize upd (fun _ => 0) w.heap.size (1000 + 4) = σ1 at HA1
  clear H1 hg1 hg2 hb1
  go_wp2_with fail
  refine (open_c w1 σ1 1000 g _ HA1.out.1 7 (by decide)).mono ?_
  rintro e w2 ⟨he, σ2, h2, c2'⟩
  obtain rfl : e = .returned (.int .i64 0) := he
  have HN0 : Hid (CW w g w2 σ2 ((NS.new (ii : Int) (oo : Int)).open_ 7).2 [] [] [] (.slice none 0 0) (.slice none 0 0) (.slice none 0 0) ∧ CL ((NS.new (ii : Int) (oo : Int)).open_ 7).2 ii oo 0 ⟨[], [], [], [], false, false⟩ [] [] []) :=
    ⟨⟨HA1.out.2.chg c2' o10, h2, Row.nil _ _ _ _ _, Row.nil _ _ _ _ _, Row.nil _ _ _ _ _⟩, ⟨⟨rfl, rfl, rfl, rfl, rfl⟩, rfl, rfl, rfl, Nat.zero_le _, Nat.zero_le _⟩⟩
  have hmv0 : ((NS.new (ii : Int) (oo : Int)).open_ 7).2.mv = 0 := rfl
  generalize ((NS.new (ii : Int) (oo : Int)).open_ 7).2 = N0 at HN0 hmv0
  have Hmv0 := Lib.hid hmv0
  clear h2 c2' HA1 hmv0
  go_wp2_with fail
  go_loopw [9, 10, 11, 12, 13, 14] (fun v9 v10 v11 v12 v13 v14 wr => ∃ (k : Nat) (σ : Nat → Nat) (N : NS) (C : Cn) (S T W : List Int) (As : Option Addr) (cs : Nat) (At : Option Addr) (ct : Nat) (Aw : Option Addr) (cw nS nT nW b : Nat) (z : Int), k ≤ n2 ∧ k ≤ 150 ∧ v9 = .slice As nS cs ∧ v10 = .slice At nT ct ∧ v11 = .slice Aw nW cw ∧ v12 = .int .i64 (b : Int) ∧ v13 = .int .i64 z ∧ v14 = .int .i64 k ∧ CW w g wr σ N S T W (.slice As nS cs) (.slice At nT ct) (.slice Aw nW cw) ∧ CL N ii oo k C S T W ∧ S.length = nS ∧ T.length = nT ∧ W.length = nW ∧ b = nT + C.inb.length ∧ N.mv = z) (fun _ _ _ _ _ v14 _ => 150 - (intOf v14).toNat)
  case atStart => exact ⟨0, σ2, N0, _, [], [], [], none, 0, none, 0, none, 0, 0, 0, 0, 0, 0, Nat.zero_le _, Nat.zero_le _, rfl, rfl, rfl, rfl, rfl, rfl, HN0.out.1, HN0.out.2, rfl, rfl, rfl, rfl, Hmv0.out⟩
  case round =>
    clear HN0 Hmv0
    obtain ⟨k, σ, N, C, S, T, W, As, cs, At, ct, Aw, cw, nS, nT, nW, b, z, hk, hk150, rfl, rfl, rfl, rfl, rfl, rfl, hW, hL, hnS, hnT, hnW, hb, hz⟩ := hrel
    by_cases hlt : k < n2 ∧ k < 150
    · obtain ⟨hlt, hl150⟩ := hlt
      have hi1 : (k : Int) < (n2 : Int) := by omega
      have hi2 : (k : Int) < 150 := by omega
      have hi3 : (0 : Int) ≤ (k : Int) := by omega
      obtain ⟨bb, off, rfl, hbb, hc⟩ := HS.out.at_ (by omega)
      have hcs := hc k hlt
      have hok := HS.out.ok k hlt
      clear hc
      generalize f2 k = st at hcs hok
      obtain ⟨kd, c, Ab, nb, cb, L, most⟩ := st
      have hbk : ∀ j, wr.cell? ⟨bb, j, none⟩ = w.cell? ⟨bb, j, none⟩ := fun j => World.cell?_of_block (a := ⟨bb, j, none⟩) (hW.st.bel.block bb hbb)
      have d0 : wr.cell? ⟨bb, off + k * 4, none⟩ = some (.int .i64 kd) := (hbk _).trans (hcs 0 _ rfl)
      have d1 : wr.cell? ⟨bb, off + k * 4 + 1, none⟩ = some (.int .i64 c) := (hbk _).trans (hcs 1 _ rfl)
      have d2 : wr.cell? ⟨bb, off + k * 4 + 2, none⟩ = some (.slice Ab nb cb) := (hbk _).trans (hcs 2 _ rfl)
      have d3 : wr.cell? ⟨bb, off + k * 4 + 3, none⟩ = some (.int .i64 most) := (hbk _).trans (hcs 3 _ rfl)
      have hgi := hW.net.good.inb _ _ hL.live.cs
      have hgo := hW.net.good.out _ _ hL.live.cs
      rw [hL.live.i] at hgi
      rw [hL.live.o] at hgo
      have hSl := hL.s
      have hWl := hL.w
      have hsb := hL.sb
      have hwb := hL.wb
      have hlS : nS = nT + C.inb.length + C.way.length := by rw [← hnS, ← hnT, hSl]; simp [Nat.add_assoc]
      have hlW : nW = C.heard.length + C.out.length := by rw [← hnW, hWl]; simp
      have hzz : z = ((nT + C.inb.length + C.heard.length : Nat) : Int) := by rw [← hz, hL.mv, hnT]
      rw [hnS] at hsb
      rw [hnW] at hwb
      have HN := Lib.hid (And.intro hnS (And.intro hnT (And.intro hnW (And.intro hb (And.intro hlS (And.intro hlW (And.intro hzz hz)))))))
      have hq1 : nS ≤ 15000 ∧ nT ≤ nS ∧ nW ≤ 6000 ∧ 0 ≤ z ∧ z ≤ 30000 := by omega
      obtain ⟨hq1, hq2, hq3, hq4, hq5⟩ := hq1
      have HG := Lib.hid (And.intro hgi hgo)
      have HL := Lib.hid hL
      have hLl : L.length = nb := hok.len
      have Hok := Lib.hid hok
      have HT := Lib.hid (hW.new 49 #[.int .i64 kd, .int .i64 c, .slice Ab nb cb, .int .i64 most])
      clear hbk hcs hbb hok hW hL hnS hnT hnW hb hz hgi hgo hSl hWl hsb hwb hlS hlW hzz
      by_cases h2 : kd = 2
      · subst h2
        as_aux_lemma =>
          go_upto_region 15 with fail
          clear d0 d1 d2 d3
          generalize wr.alloc (.cells #[.int .i64 2, .int .i64 c, .slice Ab nb cb, .int .i64 most] 49) = w3 at HT ⊢
          generalize K.upd σ wr.heap.size 0 = σ3 at HT
          generalize wr.heap.size = p at HT ⊢
          have e0 : w3.cell? ⟨p, 0, none⟩ = some (.int .i64 2) := by rw [HT.out.2.1.cell]; rfl
          have e2 : w3.cell? ⟨p, 2, none⟩ = some (.slice Ab nb cb) := by rw [HT.out.2.1.cell]; rfl
          have e3 : w3.cell? ⟨p, 3, none⟩ = some (.int .i64 most) := by rw [HT.out.2.1.cell]; rfl
          by_cases hnb : nb ≤ 100
          · have hnb1 : ¬ (100 : Int) < (nb : Int) := by omega
            have hsd := HL.out.sends (L := L) (by rw [hLl]; exact hnb) (by omega)
            have hcall := send_c w3 σ3 1000 g N HT.out.1.net 7 (by decide) Ab nb cb L Hok.out.len Hok.out.lim Hok.out.cap (Hok.out.rd.below HT.out.1.st.bel)
            rw [hsd.1] at hcall
            have HC := Lib.hid hsd.2
            obtain ⟨N1, hN1⟩ : ∃ x, N.put 7 { C with way := C.way ++ L } = x := ⟨_, rfl⟩
            rw [hN1] at hcall HC
            have Hcall := Lib.hid hcall
            clear hcall hsd hN1
            go_wp2_with fail
            refine Hcall.out.mono ?_
            rintro e w4 ⟨rfl, σ4, h4, c4⟩
            have H4 := Lib.hid (And.intro (HT.out.1.call h4 c4) (HT.out.2.chg c4 o10))
            clear h4 c4 e0 e2 e3 HT Hcall
            have e2 : w4.cell? ⟨p, 2, none⟩ = some (.slice Ab nb cb) := by rw [H4.out.2.1.cell]; rfl
            go_wp2_with (at_builtin; refine wpList_append_reads (by rfl) _ _ 29 (by rfl) 0 5 i0 _ 1 1 Try.underlying29 hi0 hz0 hz1 hz2 rfl (by omega) (.slice As nS cs) nS (bs S) (by rfl) ?c0 Ab nb cb (bs L) (by rfl) ?c1 ?c2 (bs_one L) ?c4 ?c5 (Nat.zero_le _) ?_)
            case c0 => have := H4.out.1.rs.1; rw [HN.out.1] at this; exact this
            case c1 => rw [bs_length, hLl, Nat.mul_one]
            case c2 => exact Hok.out.rd.below H4.out.1.st.bel
            case c4 => unfold maxLen; omega
            case c5 => omega
            intro va w5 hown hgrow hat
            obtain ⟨As', cs', rfl⟩ := own_slice hown
            have hcw := H4.out.1.sent (L := L) (v' := .slice As' (nS + nb) cs') (by rw [HN.out.1, hLl]; exact hown) hgrow hat
            have HW := Lib.hid hcw.1
            have HX : Hid ((S ++ L).length = (nS + nb) ∧ (T).length = nT ∧ (W).length = nW ∧ b = nT + ({ C with way := C.way ++ L }).inb.length ∧ ((nS + nb) = nT + ({ C with way := C.way ++ L }).inb.length + ({ C with way := C.way ++ L }).way.length ∧ nW = ({ C with way := C.way ++ L }).heard.length + ({ C with way := C.way ++ L }).out.length) ∧ ((nS + nb) ≤ 15000 ∧ nW ≤ 6000) ∧ N1.mv = z) :=  ⟨by rw [List.length_append, HN.out.1, hLl], HN.out.2.1, HN.out.2.2.1, HN.out.2.2.2.1, ⟨by have := HN.out.2.2.2.2.1; simp; omega, HN.out.2.2.2.2.2.1⟩, ⟨by have := HC.out.sb; rw [List.length_append, HN.out.1, hLl] at this; omega, by have := HC.out.wb; rw [HN.out.2.2.1] at this; omega⟩, by rw [HC.out.mv, HN.out.2.1]; exact HN.out.2.2.2.2.2.2.1.symm⟩
            clear hown hgrow hat hcw e2 H4 HN HL
            generalize upd σ4 w4.heap.size 1 = σ5 at HW
            have hun := under_n w5 σ5 1000 g N1 HW.out.net 7 (by decide)
            rw [HC.out.live.under] at hun
            have hhe := fun W (h : NetAt W σ5 1000 g N1) => heard_c W σ5 1000 g N1 h (by rw [HX.out.2.2.2.2.2.2]; omega) 7 (by decide)
            simp only [HC.out.live.heard] at hhe
            have hmo := fun W (h : NetAt W σ5 1000 g N1) => moved_c W σ5 1000 g N1 h
            rw [show N1.mv = z from HX.out.2.2.2.2.2.2] at hmo
            obtain ⟨wl', hwl'⟩ : ∃ x, ({ C with way := C.way ++ L }).way.length = x := ⟨_, rfl⟩
            obtain ⟨il', hil'⟩ : ∃ x, ({ C with way := C.way ++ L }).inb.length = x := ⟨_, rfl⟩
            obtain ⟨ol', hol'⟩ : ∃ x, ({ C with way := C.way ++ L }).out.length = x := ⟨_, rfl⟩
            obtain ⟨hl', hhl'⟩ : ∃ x, ({ C with way := C.way ++ L }).heard.length = x := ⟨_, rfl⟩
            have hE1 : (((nS + nb) : Nat) : Int) - ((nT : Nat) : Int) = (wl' : Int) + (il' : Int) := by have := HX.out; omega
            have hE2 : ((nW : Nat) : Int) - (hl' : Int) = (ol' : Int) := by have := HX.out; omega
            have hbd : (nS + nb) ≤ 15000 ∧ nT ≤ (nS + nb) ∧ nW ≤ 6000 ∧ hl' ≤ nW ∧ wl' ≤ 15000 ∧ il' ≤ 15000 := by have := HX.out; omega
            obtain ⟨hbd1, hbd2, hbd3, hbd4, hbd5, hbd6⟩ := hbd
            rw [hwl', hil', hol'] at hun
            simp only [hhl'] at hhe
            try push_cast at hE1 hE2
            have Hun := Lib.hid hun
            have Hhe := Lib.hid (And.intro hhe hmo)
            clear hun hhe hmo hwl' hil' hol' hhl'
            go_wp2_with fail
            refine Hun.out.mono ?_
            rintro e w10 ⟨rfl, nx, hw⟩
            have hbx : Below w5.heap.size w5 w10 := by rw [hw]; exact below_drewN (Below.refl _ _) nx
            have HW2 := Lib.hid (HW.out.below hbx)
            clear hw hbx HW Hun
            go_wp2_with fail
            refine (Hhe.out.1 w10 HW2.out.net).mono ?_
            rintro e w11 ⟨va, rfl, hb11, hva⟩
            obtain ⟨Va, ca, rfl⟩ := own_slice hva
            have HW3 := Lib.hid (HW2.out.below hb11)
            clear hb11 hva HW2
            go_wp2_with fail
            refine (Hhe.out.2 w11 HW3.out.net).mono ?_
            rintro e w12 ⟨rfl, rfl⟩
            go_wp2_with fail
            go_roundw
            case rel => exact ⟨k + 1, σ5, N1, { C with way := C.way ++ L }, (S ++ L), T, W, _, _, _, _, _, _, (nS + nb), nT, nW, b, z, by omega, by omega, rfl, rfl, rfl, by first | rfl | go_num, by first | rfl | go_num, by go_num, HW3.out, HC.out, HX.out.1, HX.out.2.1, HX.out.2.2.1, HX.out.2.2.2.1, HX.out.2.2.2.2.2.2⟩
            case measure => simp [intOf]; omega
          · have hnb1 : (100 : Int) < (nb : Int) := by omega
            go_wp2_with fail
            refine (head_c w3).mono ?_
            rintro e w9 ⟨rfl, hb9⟩
            go_wp2
            go_ret
            exact ⟨rfl, (HT.out.1.st.below hb9).bel⟩
      · by_cases h3 : kd = 3
        · subst h3
          clear h2
          as_aux_lemma =>
            go_upto_region 15 with fail
            clear d0 d1 d2 d3
            generalize wr.alloc (.cells #[.int .i64 3, .int .i64 c, .slice Ab nb cb, .int .i64 most] 49) = w3 at HT ⊢
            generalize K.upd σ wr.heap.size 0 = σ3 at HT
            generalize wr.heap.size = p at HT ⊢
            have e0 : w3.cell? ⟨p, 0, none⟩ = some (.int .i64 3) := by rw [HT.out.2.1.cell]; rfl
            have e2 : w3.cell? ⟨p, 2, none⟩ = some (.slice Ab nb cb) := by rw [HT.out.2.1.cell]; rfl
            have e3 : w3.cell? ⟨p, 3, none⟩ = some (.int .i64 most) := by rw [HT.out.2.1.cell]; rfl
            obtain ⟨d, D, N1, hbr, hcl, hi1', hw1', hh1', ho1', hii', hmv', hm1, hm2⟩ := HL.out.brings (by have := HG.out.1; omega) most
            have hcall := bring_c w3 σ3 1000 g N HT.out.1.net (by have := HN.out.2.2.2.2.2.2.2; omega) 7 most (by decide)
            rw [hbr] at hcall
            have Hcall := Lib.hid hcall
            have HC := Lib.hid hcl
            have HX : Hid ((S).length = nS ∧ (T).length = nT ∧ (W).length = nW ∧ (b + d) = nT + (D).inb.length ∧ (nS = nT + (D).inb.length + (D).way.length ∧ nW = (D).heard.length + (D).out.length) ∧ (nS ≤ 15000 ∧ nW ≤ 6000) ∧ N1.mv = (z + (d : Int))) := ⟨HN.out.1, HN.out.2.1, HN.out.2.2.1, by have := HN.out.2.2.2.1; omega, ⟨by have := HN.out.2.2.2.2.1; omega, by rw [hh1', ho1']; exact HN.out.2.2.2.2.2.1⟩, ⟨hq1, hq3⟩, by rw [hmv', HN.out.2.2.2.2.2.2.2]⟩
            have hf1 : ¬ (max 0 most < (d : Int)) := by omega
            have hf2 : ¬ ((nS : Int) - (b : Int) < (d : Int)) := by have := HN.out; omega
            have hf3 : ¬ ((ii : Int) + (nT : Int) < (b : Int) + (d : Int)) := by have := HN.out; omega
            have hf0 : ¬ ((d : Int) < 0) := by omega
            have hbb2 : b ≤ 15000 ∧ d ≤ 15000 := by have := HN.out; omega
            obtain ⟨hbb2, hdd2⟩ := hbb2
            have h3w : (¬ (d : Int) < most) ∨ ((d : Int) < most ∧ ¬ ((b : Int) + (d : Int) < (nS : Int))) ∨ ((d : Int) < most ∧ (b : Int) + (d : Int) < (nS : Int) ∧ ¬ ((b : Int) + (d : Int) - (nT : Int) < (ii : Int))) := by have := HN.out; omega
            clear hcall hcl hbr hi1' hw1' hh1' ho1' hii' hmv' hm1 hm2 HL HN
            go_wp2_with fail
            refine Hcall.out.mono ?_
            rintro e w4 ⟨rfl, σ4, h4, c4⟩
            have H4 := Lib.hid (And.intro (HT.out.1.call h4 c4) (HT.out.2.chg c4 o10))
            clear h4 c4 e0 e2 e3 HT Hcall
            have e3 : w4.cell? ⟨p, 3, none⟩ = some (.int .i64 most) := by rw [H4.out.2.1.cell]; rfl
            have HW := Lib.hid H4.out.1
            clear H4
            rcases h3w with h3a | ⟨h3a, h3b⟩ | ⟨h3a, h3b, h3c⟩
            all_goals
              as_aux_lemma =>
                have hun := under_n w4 σ4 1000 g N1 HW.out.net 7 (by decide)
                rw [HC.out.live.under] at hun
                have hhe := fun W (h : NetAt W σ4 1000 g N1) => heard_c W σ4 1000 g N1 h (by rw [HX.out.2.2.2.2.2.2]; omega) 7 (by decide)
                simp only [HC.out.live.heard] at hhe
                have hmo := fun W (h : NetAt W σ4 1000 g N1) => moved_c W σ4 1000 g N1 h
                rw [show N1.mv = (z + (d : Int)) from HX.out.2.2.2.2.2.2] at hmo
                obtain ⟨wl', hwl'⟩ : ∃ x, (D).way.length = x := ⟨_, rfl⟩
                obtain ⟨il', hil'⟩ : ∃ x, (D).inb.length = x := ⟨_, rfl⟩
                obtain ⟨ol', hol'⟩ : ∃ x, (D).out.length = x := ⟨_, rfl⟩
                obtain ⟨hl', hhl'⟩ : ∃ x, (D).heard.length = x := ⟨_, rfl⟩
                have hE1 : ((nS : Nat) : Int) - ((nT : Nat) : Int) = (wl' : Int) + (il' : Int) := by have := HX.out; omega
                have hE2 : ((nW : Nat) : Int) - (hl' : Int) = (ol' : Int) := by have := HX.out; omega
                have hbd : nS ≤ 15000 ∧ nT ≤ nS ∧ nW ≤ 6000 ∧ hl' ≤ nW ∧ wl' ≤ 15000 ∧ il' ≤ 15000 := by have := HX.out; omega
                obtain ⟨hbd1, hbd2, hbd3, hbd4, hbd5, hbd6⟩ := hbd
                rw [hwl', hil', hol'] at hun
                simp only [hhl'] at hhe
                try push_cast at hE1 hE2
                have Hun := Lib.hid hun
                have Hhe := Lib.hid (And.intro hhe hmo)
                clear hun hhe hmo hwl' hil' hol' hhl'
                go_wp2_with fail
                refine Hun.out.mono ?_
                rintro e w10 ⟨rfl, nx, hw⟩
                have hbx : Below w4.heap.size w4 w10 := by rw [hw]; exact below_drewN (Below.refl _ _) nx
                have HW2 := Lib.hid (HW.out.below hbx)
                clear hw hbx HW Hun
                go_wp2_with fail
                refine (Hhe.out.1 w10 HW2.out.net).mono ?_
                rintro e w11 ⟨va, rfl, hb11, hva⟩
                obtain ⟨Va, ca, rfl⟩ := own_slice hva
                have HW3 := Lib.hid (HW2.out.below hb11)
                clear hb11 hva HW2
                go_wp2_with fail
                refine (Hhe.out.2 w11 HW3.out.net).mono ?_
                rintro e w12 ⟨rfl, rfl⟩
                go_wp2_with fail
                go_roundw
                case rel => exact ⟨k + 1, σ4, N1, D, S, T, W, _, _, _, _, _, _, nS, nT, nW, (b + d), (z + (d : Int)), by omega, by omega, rfl, rfl, rfl, by first | rfl | go_num, by first | rfl | go_num, by go_num, HW3.out, HC.out, HX.out.1, HX.out.2.1, HX.out.2.2.1, HX.out.2.2.2.1, HX.out.2.2.2.2.2.2⟩
                case measure => simp [intOf]; omega
        · by_cases h4 : kd = 4
          · subst h4
            clear h2
            clear h3
            as_aux_lemma =>
              go_upto_region 15 with fail
              clear d0 d1 d2 d3
              generalize wr.alloc (.cells #[.int .i64 4, .int .i64 c, .slice Ab nb cb, .int .i64 most] 49) = w3 at HT ⊢
              generalize K.upd σ wr.heap.size 0 = σ3 at HT
              generalize wr.heap.size = p at HT ⊢
              have e0 : w3.cell? ⟨p, 0, none⟩ = some (.int .i64 4) := by rw [HT.out.2.1.cell]; rfl
              have e2 : w3.cell? ⟨p, 2, none⟩ = some (.slice Ab nb cb) := by rw [HT.out.2.1.cell]; rfl
              have e3 : w3.cell? ⟨p, 3, none⟩ = some (.int .i64 most) := by rw [HT.out.2.1.cell]; rfl
              have htk := HL.out.takes
              obtain ⟨D, hD⟩ : ∃ x : Cn, { C with inb := [] } = x := ⟨_, rfl⟩
              have hDi : D.inb.length = 0 := by rw [← hD]; rfl
              have hDw : D.way.length = C.way.length := by rw [← hD]
              have hDh : D.heard.length = C.heard.length := by rw [← hD]
              have hDo : D.out.length = C.out.length := by rw [← hD]
              rw [hD] at htk
              clear hD
              have hcall := take_n w3 σ3 1000 g N HT.out.1.net 7 (by decide)
              rw [htk.1] at hcall
              have HC := Lib.hid htk.2
              obtain ⟨N1, hN1⟩ : ∃ x, N.put 7 D = x := ⟨_, rfl⟩
              rw [hN1] at hcall HC
              obtain ⟨il, hil⟩ : ∃ x, C.inb.length = x := ⟨_, rfl⟩
              have Hcall := Lib.hid hcall
              have hbe : b = nT + il := by rw [← hil]; exact HN.out.2.2.2.1
              have HX : Hid ((S).length = nS ∧ (T ++ C.inb).length = (nT + il) ∧ (W).length = nW ∧ b = (nT + il) + (D).inb.length ∧ (nS = (nT + il) + (D).inb.length + (D).way.length ∧ nW = (D).heard.length + (D).out.length) ∧ (nS ≤ 15000 ∧ nW ≤ 6000) ∧ N1.mv = z) := ⟨HN.out.1, by rw [List.length_append, HN.out.2.1, hil], HN.out.2.2.1, by omega, ⟨by have := HN.out.2.2.2.2.1; omega, by have := HN.out.2.2.2.2.2.1; omega⟩, ⟨hq1, hq3⟩, by have h1 := HC.out.mv; rw [List.length_append, HN.out.2.1] at h1; have := HN.out.2.2.2.2.2.2.1; omega⟩
              have hST : C.inb.length + C.way.length + T.length = S.length := by rw [HL.out.s]; simp; omega
              have hil2 : il ≤ 15000 ∧ nT + il ≤ nS := by have := HN.out; omega
              obtain ⟨hil2, hil3⟩ := hil2
              have htS : (T ++ C.inb) = S.take (nT + il) := by
                rw [HL.out.s, ← hil, ← HN.out.2.1, ← List.length_append]
                exact (List.take_left' rfl).symm
              have HtS := Lib.hid htS
              subst hbe
              clear hcall htk hN1 hST htS
              go_wp2_with fail
              refine Hcall.out.mono ?_
              rintro e w4 ⟨v, rfl, σ4, h4, c4, hr, -⟩
              rw [hil] at hr
              obtain ⟨V, cv, rfl⟩ := own_slice hr.1
              have H4 := Lib.hid (And.intro (HT.out.1.call h4 c4) (Reads.of_row hr.1))
              clear h4 c4 e0 e2 e3 HT Hcall hr
              go_wp2_with (at_builtin; refine wpList_append_reads (by rfl) _ _ 29 (by rfl) 0 5 i0 _ 1 1 Try.underlying29 hi0 hz0 hz1 hz2 rfl (by omega) (.slice At nT ct) nT (bs T) (by rfl) ?c0 V il cv (bs C.inb) (by rfl) ?c1 ?c2 (bs_one C.inb) ?c4 ?c5 (Nat.zero_le _) ?_)
              case c0 => have := H4.out.1.rt.1; rw [HN.out.2.1] at this; exact this
              case c1 => rw [bs_length, hil, Nat.mul_one]
              case c2 => exact H4.out.2
              case c4 => unfold maxLen; omega
              case c5 => omega
              intro va w5 hown hgrow hat
              obtain ⟨At', ct', rfl⟩ := own_slice hown
              have hcw := H4.out.1.took (L := C.inb) (v' := .slice At' (nT + il) ct') (by rw [HN.out.2.1, hil]; exact hown) hgrow hat
              have HW := Lib.hid hcw.1
              clear hown hgrow hat hcw H4 HL
              generalize upd σ4 w4.heap.size 2 = σ5 at HW
              have hcd1 := conv_reads (w := w5.drew) (n := nT + il) (cp := ct') (L := T ++ C.inb) HX.out.2.1 (by have := HW.out.rt.1; rw [HX.out.2.1] at this; exact Reads.below (Reads.of_row this) (below_drewN (Below.refl _ _) 1))
              have hcd2 := conv_reads (w := w5.drew) (n := nT + il) (cp := cs) (L := T ++ C.inb) HX.out.2.1 (by rw [HtS.out, bs_take]; have := HW.out.rs.1; rw [HX.out.1] at this; exact (Reads.below (Reads.of_row this) (below_drewN (Below.refl _ _) 1)).take _)
              have hsl1 : (0 : Int) ≤ ((nT + il : Nat) : Int) := by omega
              have hnc : nS ≤ cs := own_cap (by have := HW.out.rs.1; rw [HX.out.1] at this; exact this)
              have hsl2 : (((nT + il : Nat) : Nat) : Int) ≤ (cs : Int) := by omega
              have hsl3 : nT + il ≤ cs := by omega
              go_wp2_with fail
              go_big_region
              have HWd := Lib.hid (HW.out.below ((Below.refl _ _).drew))
              clear HW hcd1 hcd2
              have HW := HWd
              clear HWd
              have hun := under_n w5.drew σ5 1000 g N1 HW.out.net 7 (by decide)
              rw [HC.out.live.under] at hun
              have hhe := fun W (h : NetAt W σ5 1000 g N1) => heard_c W σ5 1000 g N1 h (by rw [HX.out.2.2.2.2.2.2]; omega) 7 (by decide)
              simp only [HC.out.live.heard] at hhe
              have hmo := fun W (h : NetAt W σ5 1000 g N1) => moved_c W σ5 1000 g N1 h
              rw [show N1.mv = z from HX.out.2.2.2.2.2.2] at hmo
              obtain ⟨wl', hwl'⟩ : ∃ x, (D).way.length = x := ⟨_, rfl⟩
              obtain ⟨il', hil'⟩ : ∃ x, (D).inb.length = x := ⟨_, rfl⟩
              obtain ⟨ol', hol'⟩ : ∃ x, (D).out.length = x := ⟨_, rfl⟩
              obtain ⟨hl', hhl'⟩ : ∃ x, (D).heard.length = x := ⟨_, rfl⟩
              have hE1 : ((nS : Nat) : Int) - (((nT + il) : Nat) : Int) = (wl' : Int) + (il' : Int) := by have := HX.out; omega
              have hE2 : ((nW : Nat) : Int) - (hl' : Int) = (ol' : Int) := by have := HX.out; omega
              have hbd : nS ≤ 15000 ∧ (nT + il) ≤ nS ∧ nW ≤ 6000 ∧ hl' ≤ nW ∧ wl' ≤ 15000 ∧ il' ≤ 15000 := by have := HX.out; omega
              obtain ⟨hbd1, hbd2, hbd3, hbd4, hbd5, hbd6⟩ := hbd
              rw [hwl', hil', hol'] at hun
              simp only [hhl'] at hhe
              try push_cast at hE1 hE2
              have Hun := Lib.hid hun
              have Hhe := Lib.hid (And.intro hhe hmo)
              clear hun hhe hmo hwl' hil' hol' hhl'
              go_wp2_with fail
              refine Hun.out.mono ?_
              rintro e w10 ⟨rfl, nx, hw⟩
              have hbx : Below w5.drew.heap.size w5.drew w10 := by rw [hw]; exact below_drewN (Below.refl _ _) nx
              have HW2 := Lib.hid (HW.out.below hbx)
              clear hw hbx HW Hun
              go_wp2_with fail
              refine (Hhe.out.1 w10 HW2.out.net).mono ?_
              rintro e w11 ⟨va, rfl, hb11, hva⟩
              obtain ⟨Va, ca, rfl⟩ := own_slice hva
              have HW3 := Lib.hid (HW2.out.below hb11)
              clear hb11 hva HW2
              go_wp2_with fail
              refine (Hhe.out.2 w11 HW3.out.net).mono ?_
              rintro e w12 ⟨rfl, rfl⟩
              go_wp2_with fail
              go_roundw
              case rel => exact ⟨k + 1, σ5, N1, D, S, (T ++ C.inb), W, _, _, _, _, _, _, nS, (nT + il), nW, (nT + il), z, by omega, by omega, rfl, rfl, rfl, by first | rfl | go_num, by first | rfl | go_num, by go_num, HW3.out, HC.out, HX.out.1, HX.out.2.1, HX.out.2.2.1, HX.out.2.2.2.1, HX.out.2.2.2.2.2.2⟩
              case measure => simp [intOf]; omega
          · by_cases h5 : kd = 5
            · subst h5
              clear h2
              clear h3
              clear h4
              as_aux_lemma =>
                go_upto_region 15 with fail
                clear d0 d1 d2 d3
                generalize wr.alloc (.cells #[.int .i64 5, .int .i64 c, .slice Ab nb cb, .int .i64 most] 49) = w3 at HT ⊢
                generalize K.upd σ wr.heap.size 0 = σ3 at HT
                generalize wr.heap.size = p at HT ⊢
                have e0 : w3.cell? ⟨p, 0, none⟩ = some (.int .i64 5) := by rw [HT.out.2.1.cell]; rfl
                have e2 : w3.cell? ⟨p, 2, none⟩ = some (.slice Ab nb cb) := by rw [HT.out.2.1.cell]; rfl
                have e3 : w3.cell? ⟨p, 3, none⟩ = some (.int .i64 most) := by rw [HT.out.2.1.cell]; rfl
                obtain ⟨hl, hhl⟩ : ∃ x, C.heard.length = x := ⟨_, rfl⟩
                obtain ⟨ol, hol⟩ : ∃ x, C.out.length = x := ⟨_, rfl⟩
                have hhd := heard_c w3 σ3 1000 g N HT.out.1.net (by have := HN.out.2.2.2.2.2.2.2; omega) 7 (by decide)
                rw [HL.out.live.heard, hhl] at hhd
                have hE2 : (nW : Int) - (hl : Int) = (ol : Int) := by have := HN.out.2.2.2.2.2.1; omega
                have hhl2 : hl ≤ 6000 ∧ hl ≤ nW ∧ ol ≤ 6000 := by have := HN.out.2.2.2.2.2.1; omega
                obtain ⟨hhl2, hhl3, hol2⟩ := hhl2
                have Hhd := Lib.hid hhd
                obtain ⟨d, hdn, hwr, hcl, hod, hdm⟩ := HL.out.writes (by have := HG.out.2; omega) (by omega) L
                obtain ⟨D, hD⟩ : ∃ x : Cn, { C with out := C.out ++ L.take d } = x := ⟨_, rfl⟩
                have hDi : D.inb.length = C.inb.length := by rw [← hD]
                have hDw : D.way.length = C.way.length := by rw [← hD]
                have hDh : D.heard.length = C.heard.length := by rw [← hD]
                have hDo : D.out.length = C.out.length + (L.take d).length := by rw [← hD]; simp
                rw [hD] at hwr hcl
                clear hD
                have hcall := fun W (h : NetAt W σ3 1000 g N) (hr : Reads W Ab (bs L)) => write_c W σ3 1000 g N h 7 (by decide) Ab nb cb L Hok.out.len Hok.out.lim Hok.out.cap hr
                simp only [hwr] at hcall
                have HC := Lib.hid hcl
                obtain ⟨N1, hN1⟩ : ∃ x, N.put 7 D = x := ⟨_, rfl⟩
                simp only [hN1] at hcall
                rw [hN1] at HC
                have Hcall := Lib.hid hcall
                rw [hLl, hol] at hdm
                rw [hLl] at hdn
                rw [hol] at hod
                have hmn : min (nb : Int) ((oo : Int) - (ol : Int)) = (d : Int) := hdm.symm
                have hf0 : ¬ ((d : Int) < 0) := by omega
                have hd1 : (0 : Int) ≤ (d : Int) := by omega
                have hncb : nb ≤ cb := Hok.out.cap
                have hd2 : (d : Int) ≤ (cb : Int) := by omega
                have hd3 : d ≤ cb := by omega
                have hd40 : d ≤ 40 := by omega
                have htk : (L.take d).length = d := by rw [List.length_take, hLl]; omega
                have HX : Hid ((S).length = nS ∧ (T).length = nT ∧ (W ++ L.take d).length = (nW + d) ∧ b = nT + (D).inb.length ∧ (nS = nT + (D).inb.length + (D).way.length ∧ (nW + d) = (D).heard.length + (D).out.length) ∧ (nS ≤ 15000 ∧ (nW + d) ≤ 6000) ∧ N1.mv = z) := ⟨HN.out.1, HN.out.2.1, by rw [List.length_append, HN.out.2.2.1, htk], by have := HN.out.2.2.2.1; omega, ⟨by have := HN.out.2.2.2.2.1; omega, by have := HN.out.2.2.2.2.2.1; omega⟩, ⟨hq1, by have := HC.out.wb; rw [List.length_append, HN.out.2.2.1, htk] at this; omega⟩, by have h1 := HC.out.mv; rw [HN.out.2.1] at h1; have := HN.out.2.2.2.2.2.2.1; omega⟩
                clear hhd hcall hcl hwr hN1 hdm hhl hol hod
                go_wp2_with fail
                refine Hhd.out.mono ?_
                rintro e w4 ⟨va, rfl, hb4, hva⟩
                obtain ⟨Va, ca, rfl⟩ := own_slice hva
                have H4 := Lib.hid (And.intro (HT.out.1.below hb4) (HT.out.2.below hb4))
                clear hb4 hva e0 e2 e3 HT Hhd
                have e2 : w4.cell? ⟨p, 2, none⟩ = some (.slice Ab nb cb) := by rw [H4.out.2.1.cell]; rfl
                go_wp2_with fail
                refine (Hcall.out w4 H4.out.1.net (Hok.out.rd.below H4.out.1.st.bel)).mono ?_
                rintro e w5 ⟨rfl, σ5, h5, c5⟩
                have H5 := Lib.hid (And.intro (H4.out.1.call h5 c5) (H4.out.2.chg c5 o10))
                clear h5 c5 H4 Hcall e2 HL
                have e2 : w5.cell? ⟨p, 2, none⟩ = some (.slice Ab nb cb) := by rw [H5.out.2.1.cell]; rfl
                go_wp2_with (at_builtin; refine wpList_append_reads (by rfl) _ _ 29 (by rfl) 0 5 i0 _ 1 1 Try.underlying29 hi0 hz0 hz1 hz2 rfl (by omega) (.slice Aw nW cw) nW (bs W) (by rfl) ?c0 Ab d cb (bs (L.take d)) (by rfl) ?c1 ?c2 (bs_one _) ?c4 ?c5 (Nat.zero_le _) ?_)
                case c0 => have := H5.out.1.rw.1; rw [HN.out.2.2.1] at this; exact this
                case c1 => rw [bs_length, htk, Nat.mul_one]
                case c2 => rw [bs_take]; exact (Hok.out.rd.below H5.out.1.st.bel).take _
                case c4 => unfold maxLen; omega
                case c5 => omega
                intro vw' w6 hown hgrow hat
                obtain ⟨Aw', cw', rfl⟩ := own_slice hown
                have hcw := H5.out.1.wrote (L := L.take d) (v' := .slice Aw' (nW + d) cw') (by rw [HN.out.2.2.1, htk]; exact hown) hgrow hat
                have HW := Lib.hid hcw.1
                clear hown hgrow hat hcw H5 e2 HN
                generalize upd σ5 w5.heap.size 3 = σ6 at HW
                have hun := under_n w6 σ6 1000 g N1 HW.out.net 7 (by decide)
                rw [HC.out.live.under] at hun
                have hhe := fun W (h : NetAt W σ6 1000 g N1) => heard_c W σ6 1000 g N1 h (by rw [HX.out.2.2.2.2.2.2]; omega) 7 (by decide)
                simp only [HC.out.live.heard] at hhe
                have hmo := fun W (h : NetAt W σ6 1000 g N1) => moved_c W σ6 1000 g N1 h
                rw [show N1.mv = z from HX.out.2.2.2.2.2.2] at hmo
                obtain ⟨wl', hwl'⟩ : ∃ x, (D).way.length = x := ⟨_, rfl⟩
                obtain ⟨il', hil'⟩ : ∃ x, (D).inb.length = x := ⟨_, rfl⟩
                obtain ⟨ol', hol'⟩ : ∃ x, (D).out.length = x := ⟨_, rfl⟩
                obtain ⟨hl', hhl'⟩ : ∃ x, (D).heard.length = x := ⟨_, rfl⟩
                have hE1 : ((nS : Nat) : Int) - ((nT : Nat) : Int) = (wl' : Int) + (il' : Int) := by have := HX.out; omega
                have hE2 : (((nW + d) : Nat) : Int) - (hl' : Int) = (ol' : Int) := by have := HX.out; omega
                have hbd : nS ≤ 15000 ∧ nT ≤ nS ∧ (nW + d) ≤ 6000 ∧ hl' ≤ (nW + d) ∧ wl' ≤ 15000 ∧ il' ≤ 15000 := by have := HX.out; omega
                obtain ⟨hbd1, hbd2, hbd3, hbd4, hbd5, hbd6⟩ := hbd
                rw [hwl', hil', hol'] at hun
                simp only [hhl'] at hhe
                try push_cast at hE1 hE2
                have Hun := Lib.hid hun
                have Hhe := Lib.hid (And.intro hhe hmo)
                clear hun hhe hmo hwl' hil' hol' hhl'
                go_wp2_with fail
                refine Hun.out.mono ?_
                rintro e w10 ⟨rfl, nx, hw⟩
                have hbx : Below w6.heap.size w6 w10 := by rw [hw]; exact below_drewN (Below.refl _ _) nx
                have HW2 := Lib.hid (HW.out.below hbx)
                clear hw hbx HW Hun
                go_wp2_with fail
                refine (Hhe.out.1 w10 HW2.out.net).mono ?_
                rintro e w11 ⟨va, rfl, hb11, hva⟩
                obtain ⟨Va, ca, rfl⟩ := own_slice hva
                have HW3 := Lib.hid (HW2.out.below hb11)
                clear hb11 hva HW2
                go_wp2_with fail
                refine (Hhe.out.2 w11 HW3.out.net).mono ?_
                rintro e w12 ⟨rfl, rfl⟩
                go_wp2_with fail
                go_roundw
                case rel => exact ⟨k + 1, σ6, N1, D, S, T, (W ++ L.take d), _, _, _, _, _, _, nS, nT, (nW + d), b, z, by omega, by omega, rfl, rfl, rfl, by first | rfl | go_num, by first | rfl | go_num, by go_num, HW3.out, HC.out, HX.out.1, HX.out.2.1, HX.out.2.2.1, HX.out.2.2.2.1, HX.out.2.2.2.2.2.2⟩
                case measure => simp [intOf]; omega
            · by_cases h6 : kd = 6
              · subst h6
                clear h2
                clear h3
                clear h4
                clear h5
                as_aux_lemma =>
                  go_upto_region 15 with fail
                  clear d0 d1 d2 d3
                  generalize wr.alloc (.cells #[.int .i64 6, .int .i64 c, .slice Ab nb cb, .int .i64 most] 49) = w3 at HT ⊢
                  generalize K.upd σ wr.heap.size 0 = σ3 at HT
                  generalize wr.heap.size = p at HT ⊢
                  have e0 : w3.cell? ⟨p, 0, none⟩ = some (.int .i64 6) := by rw [HT.out.2.1.cell]; rfl
                  have e2 : w3.cell? ⟨p, 2, none⟩ = some (.slice Ab nb cb) := by rw [HT.out.2.1.cell]; rfl
                  have e3 : w3.cell? ⟨p, 3, none⟩ = some (.int .i64 most) := by rw [HT.out.2.1.cell]; rfl
                  obtain ⟨hl, hhl⟩ : ∃ x, C.heard.length = x := ⟨_, rfl⟩
                  obtain ⟨ol, hol⟩ : ∃ x, C.out.length = x := ⟨_, rfl⟩
                  have hhd := heard_c w3 σ3 1000 g N HT.out.1.net (by have := HN.out.2.2.2.2.2.2.2; omega) 7 (by decide)
                  rw [HL.out.live.heard, hhl] at hhd
                  have hE2 : (nW : Int) - (hl : Int) = (ol : Int) := by have := HN.out.2.2.2.2.2.1; omega
                  have hhl2 : hl ≤ 6000 ∧ hl ≤ nW ∧ ol ≤ 6000 := by have := HN.out.2.2.2.2.2.1; omega
                  obtain ⟨hhl2, hhl3, hol2⟩ := hhl2
                  have Hhd := Lib.hid hhd
                  obtain ⟨d, D, N1, hfe, hcl, hh1', ho1', hi1', hw1', hmv', hdm⟩ := HL.out.fetches most
                  have hcall := fun W (h : NetAt W σ3 1000 g N) => fetch_c W σ3 1000 g N h (by have := HN.out.2.2.2.2.2.2.2; omega) 7 most (by decide)
                  simp only [hfe] at hcall
                  have HC := Lib.hid hcl
                  have Hcall := Lib.hid hcall
                  rw [hol] at hdm ho1'
                  rw [hhl] at hh1'
                  have hmx : max 0 (min most (ol : Int)) = (d : Int) := hdm.symm
                  have hd6 : d ≤ 6000 ∧ hl + d ≤ nW := by have := HN.out.2.2.2.2.2.1; omega
                  obtain ⟨hd6, hd7⟩ := hd6
                  have HX : Hid ((S).length = nS ∧ (T).length = nT ∧ (W).length = nW ∧ b = nT + (D).inb.length ∧ (nS = nT + (D).inb.length + (D).way.length ∧ nW = (D).heard.length + (D).out.length) ∧ (nS ≤ 15000 ∧ nW ≤ 6000) ∧ N1.mv = (z + (d : Int))) := ⟨HN.out.1, HN.out.2.1, HN.out.2.2.1, by rw [hi1']; exact HN.out.2.2.2.1, ⟨by rw [hi1', hw1']; exact HN.out.2.2.2.2.1, by have := HN.out.2.2.2.2.2.1; omega⟩, ⟨hq1, hq3⟩, by rw [hmv', HN.out.2.2.2.2.2.2.2]⟩
                  have hg2 := fun W σ (h : NetAt W σ 1000 g N1) => heard_c W σ 1000 g N1 h (by have := HX.out.2.2.2.2.2.2; omega) 7 (by decide)
                  simp only [HC.out.live.heard, hh1'] at hg2
                  have Hg2 := Lib.hid hg2
                  have hDW : D.heard = W.take (hl + d) := by rw [HC.out.w, ← hh1']; exact (List.take_left' rfl).symm
                  have HDW := Lib.hid (And.intro hDW hh1')
                  clear hhd hcall hcl hfe hdm hhl hol hg2 hDW hh1' ho1' hi1' hw1' hmv'
                  go_wp2_with fail
                  refine Hhd.out.mono ?_
                  rintro e w4 ⟨va, rfl, hb4, hva⟩
                  obtain ⟨Va, ca, rfl⟩ := own_slice hva
                  have H4 := Lib.hid (And.intro (HT.out.1.below hb4) (HT.out.2.below hb4))
                  clear hb4 hva e0 e2 e3 HT Hhd
                  have e3 : w4.cell? ⟨p, 3, none⟩ = some (.int .i64 most) := by rw [H4.out.2.1.cell]; rfl
                  go_wp2_with fail
                  refine (Hcall.out w4 H4.out.1.net).mono ?_
                  rintro e w5 ⟨rfl, σ5, h5, c5⟩
                  have H5 := Lib.hid (And.intro (H4.out.1.call h5 c5) (H4.out.2.chg c5 o10))
                  clear h5 c5 H4 Hcall e3 HL
                  go_wp2_with fail
                  refine (Hg2.out w5 σ5 H5.out.1.net).mono ?_
                  rintro e w6 ⟨vg, rfl, hb6, hvg⟩
                  obtain ⟨Vg, cg, rfl⟩ := own_slice hvg
                  have HW := Lib.hid (H5.out.1.below hb6)
                  have e3 : w6.cell? ⟨p, 3, none⟩ = some (.int .i64 most) := by rw [(H5.out.2.below hb6).1.cell]; rfl
                  have hcd1 := conv_reads (w := w6.drew) (n := hl + d) (cp := cg) (L := D.heard) HDW.out.2 (Reads.below (Reads.of_row hvg) (below_drewN (Below.refl _ _) 1))
                  have hcd2 := conv_reads (w := w6.drew) (n := hl + d) (cp := cw) (L := D.heard) HDW.out.2 (by rw [HDW.out.1, bs_take]; have := HW.out.rw.1; rw [HX.out.2.2.1] at this; exact (Reads.below (Reads.of_row this) (below_drewN (Below.refl _ _) 1)).take _)
                  have hncw : nW ≤ cw := own_cap (by have := HW.out.rw.1; rw [HX.out.2.2.1] at this; exact this)
                  clear hb6 hvg H5 HN
                  have hwa : IntKind.i64.wrap ((nW : Int) - (hl : Int)) = (ol : Int) := by rw [IntKind.wrap_i64]; omega
                  have hwb : IntKind.i64.wrap ((hl : Int) + (d : Int)) = (hl : Int) + (d : Int) := by rw [IntKind.wrap_i64]; omega
                  have hg1 : ¬ ((nW : Int) < (hl : Int) + (d : Int)) := by omega
                  have hg1n : ¬ (nW < hl + d) := by omega
                  have hg1b : decide (nW < hl + d) = false := by simpa using hd7
                  have hg1c : decide ((nW : Int) < (hl : Int) + (d : Int)) = false := by simp; omega
                  have hs1 : (0 : Int) ≤ (hl : Int) + (d : Int) := by omega
                  have hs2 : (hl : Int) + (d : Int) ≤ (cw : Int) := by omega
                  go_wp2_with fail
                  go_big_region
                  have HWd := Lib.hid (HW.out.below ((Below.refl _ _).drew))
                  clear HW hcd1 hcd2 e3
                  have HW := HWd
                  clear HWd
                  have hun := under_n w6.drew σ5 1000 g N1 HW.out.net 7 (by decide)
                  rw [HC.out.live.under] at hun
                  have hhe := fun W (h : NetAt W σ5 1000 g N1) => heard_c W σ5 1000 g N1 h (by rw [HX.out.2.2.2.2.2.2]; omega) 7 (by decide)
                  simp only [HC.out.live.heard] at hhe
                  have hmo := fun W (h : NetAt W σ5 1000 g N1) => moved_c W σ5 1000 g N1 h
                  rw [show N1.mv = (z + (d : Int)) from HX.out.2.2.2.2.2.2] at hmo
                  obtain ⟨wl', hwl'⟩ : ∃ x, (D).way.length = x := ⟨_, rfl⟩
                  obtain ⟨il', hil'⟩ : ∃ x, (D).inb.length = x := ⟨_, rfl⟩
                  obtain ⟨ol', hol'⟩ : ∃ x, (D).out.length = x := ⟨_, rfl⟩
                  obtain ⟨hl', hhl'⟩ : ∃ x, (D).heard.length = x := ⟨_, rfl⟩
                  have hE1 : ((nS : Nat) : Int) - ((nT : Nat) : Int) = (wl' : Int) + (il' : Int) := by have := HX.out; omega
                  have hE2 : ((nW : Nat) : Int) - (hl' : Int) = (ol' : Int) := by have := HX.out; omega
                  have hbd : nS ≤ 15000 ∧ nT ≤ nS ∧ nW ≤ 6000 ∧ hl' ≤ nW ∧ wl' ≤ 15000 ∧ il' ≤ 15000 := by have := HX.out; omega
                  obtain ⟨hbd1, hbd2, hbd3, hbd4, hbd5, hbd6⟩ := hbd
                  rw [hwl', hil', hol'] at hun
                  simp only [hhl'] at hhe
                  try push_cast at hE1 hE2
                  have Hun := Lib.hid hun
                  have Hhe := Lib.hid (And.intro hhe hmo)
                  clear hun hhe hmo hwl' hil' hol' hhl'
                  go_wp2_with fail
                  refine Hun.out.mono ?_
                  rintro e w10 ⟨rfl, nx, hw⟩
                  have hbx : Below w6.drew.heap.size w6.drew w10 := by rw [hw]; exact below_drewN (Below.refl _ _) nx
                  have HW2 := Lib.hid (HW.out.below hbx)
                  clear hw hbx HW Hun
                  go_wp2_with fail
                  refine (Hhe.out.1 w10 HW2.out.net).mono ?_
                  rintro e w11 ⟨va, rfl, hb11, hva⟩
                  obtain ⟨Va, ca, rfl⟩ := own_slice hva
                  have HW3 := Lib.hid (HW2.out.below hb11)
                  clear hb11 hva HW2
                  go_wp2_with fail
                  refine (Hhe.out.2 w11 HW3.out.net).mono ?_
                  rintro e w12 ⟨rfl, rfl⟩
                  go_wp2_with fail
                  go_roundw
                  case rel => exact ⟨k + 1, σ5, N1, D, S, T, W, _, _, _, _, _, _, nS, nT, nW, b, (z + (d : Int)), by omega, by omega, rfl, rfl, rfl, by first | rfl | go_num, by first | rfl | go_num, by go_num, HW3.out, HC.out, HX.out.1, HX.out.2.1, HX.out.2.2.1, HX.out.2.2.2.1, HX.out.2.2.2.2.2.2⟩
                  case measure => simp [intOf]; omega
              · as_aux_lemma =>
                  have b2 : (kd == 2) = false := by simpa using h2
                  have b3 : (kd == 3) = false := by simpa using h3
                  have b4 : (kd == 4) = false := by simpa using h4
                  have b5 : (kd == 5) = false := by simpa using h5
                  have b6 : (kd == 6) = false := by simpa using h6
                  go_upto_region 15 with fail
                  clear d0 d1 d2 d3
                  generalize wr.alloc (.cells #[.int .i64 kd, .int .i64 c, .slice Ab nb cb, .int .i64 most] 49) = w3 at HT ⊢
                  generalize K.upd σ wr.heap.size 0 = σ3 at HT
                  generalize wr.heap.size = p at HT ⊢
                  have e0 : w3.cell? ⟨p, 0, none⟩ = some (.int .i64 kd) := by rw [HT.out.2.1.cell]; rfl
                  have e2 : w3.cell? ⟨p, 2, none⟩ = some (.slice Ab nb cb) := by rw [HT.out.2.1.cell]; rfl
                  have e3 : w3.cell? ⟨p, 3, none⟩ = some (.int .i64 most) := by rw [HT.out.2.1.cell]; rfl
                  have HC := Lib.hid HL.out.stay
                  have HW := Lib.hid HT.out.1
                  have HX : Hid ((S).length = nS ∧ (T).length = nT ∧ (W).length = nW ∧ b = nT + (C).inb.length ∧ (nS = nT + (C).inb.length + (C).way.length ∧ nW = (C).heard.length + (C).out.length) ∧ (nS ≤ 15000 ∧ nW ≤ 6000) ∧ N.mv = z) := ⟨HN.out.1, HN.out.2.1, HN.out.2.2.1, HN.out.2.2.2.1, ⟨HN.out.2.2.2.2.1, HN.out.2.2.2.2.2.1⟩, ⟨hq1, hq3⟩, HN.out.2.2.2.2.2.2.2⟩
                  clear HL HN HT e2 e3
                  have hun := under_n w3 σ3 1000 g N HW.out.net 7 (by decide)
                  rw [HC.out.live.under] at hun
                  have hhe := fun W (h : NetAt W σ3 1000 g N) => heard_c W σ3 1000 g N h (by rw [HX.out.2.2.2.2.2.2]; omega) 7 (by decide)
                  simp only [HC.out.live.heard] at hhe
                  have hmo := fun W (h : NetAt W σ3 1000 g N) => moved_c W σ3 1000 g N h
                  rw [show N.mv = z from HX.out.2.2.2.2.2.2] at hmo
                  obtain ⟨wl', hwl'⟩ : ∃ x, (C).way.length = x := ⟨_, rfl⟩
                  obtain ⟨il', hil'⟩ : ∃ x, (C).inb.length = x := ⟨_, rfl⟩
                  obtain ⟨ol', hol'⟩ : ∃ x, (C).out.length = x := ⟨_, rfl⟩
                  obtain ⟨hl', hhl'⟩ : ∃ x, (C).heard.length = x := ⟨_, rfl⟩
                  have hE1 : ((nS : Nat) : Int) - ((nT : Nat) : Int) = (wl' : Int) + (il' : Int) := by have := HX.out; omega
                  have hE2 : ((nW : Nat) : Int) - (hl' : Int) = (ol' : Int) := by have := HX.out; omega
                  have hbd : nS ≤ 15000 ∧ nT ≤ nS ∧ nW ≤ 6000 ∧ hl' ≤ nW ∧ wl' ≤ 15000 ∧ il' ≤ 15000 := by have := HX.out; omega
                  obtain ⟨hbd1, hbd2, hbd3, hbd4, hbd5, hbd6⟩ := hbd
                  rw [hwl', hil', hol'] at hun
                  simp only [hhl'] at hhe
                  try push_cast at hE1 hE2
                  have Hun := Lib.hid hun
                  have Hhe := Lib.hid (And.intro hhe hmo)
                  clear hun hhe hmo hwl' hil' hol' hhl'
                  go_wp2_with fail
                  refine Hun.out.mono ?_
                  rintro e w10 ⟨rfl, nx, hw⟩
                  have hbx : Below w3.heap.size w3 w10 := by rw [hw]; exact below_drewN (Below.refl _ _) nx
                  have HW2 := Lib.hid (HW.out.below hbx)
                  clear hw hbx HW Hun
                  go_wp2_with fail
                  refine (Hhe.out.1 w10 HW2.out.net).mono ?_
                  rintro e w11 ⟨va, rfl, hb11, hva⟩
                  obtain ⟨Va, ca, rfl⟩ := own_slice hva
                  have HW3 := Lib.hid (HW2.out.below hb11)
                  clear hb11 hva HW2
                  go_wp2_with fail
                  refine (Hhe.out.2 w11 HW3.out.net).mono ?_
                  rintro e w12 ⟨rfl, rfl⟩
                  go_wp2_with fail
                  go_roundw
                  case rel => exact ⟨k + 1, σ3, N, C, S, T, W, _, _, _, _, _, _, nS, nT, nW, b, z, by omega, by omega, rfl, rfl, rfl, by first | rfl | go_num, by first | rfl | go_num, by go_num, HW3.out, HC.out, HX.out.1, HX.out.2.1, HX.out.2.2.1, HX.out.2.2.2.1, HX.out.2.2.2.2.2.2⟩
                  case measure => simp [intOf]; omega
    · have hW' := Lib.hid hW
      clear hW hL
      by_cases h150 : k < 150
      · have hi1 : ¬ (k : Int) < (n2 : Int) := by omega
        go_wp2_with fail
        refine (head_c wr).mono ?_
        rintro e w9 ⟨rfl, hb9⟩
        go_wp2
        go_ret
        exact ⟨rfl, (hW'.out.st.below hb9).bel⟩
      · have hi2 : ¬ (k : Int) < 150 := by omega
        go_wp2_with fail
        all_goals
          refine (head_c wr).mono ?_
          rintro e w9 ⟨rfl, hb9⟩
          go_wp2
          go_ret
          exact ⟨rfl, (hW'.out.st.below hb9).bel⟩
end Go.Proofs.Ytalabfbnbiagiaa.C
