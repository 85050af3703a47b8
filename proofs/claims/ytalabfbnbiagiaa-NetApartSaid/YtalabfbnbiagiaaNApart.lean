/-
  The call of the law NetApart: it returns true, whatever the input.
-/
import Derived.Test.YtalabfbnbiagiaaApartL
set_option linter.unusedVariables false
set_option linter.unusedSimpArgs false
namespace Go.Proofs.Ytalabfbnbiagiaa.C
open Go.RowKit Go.Proofs.Ytalabfbnbiagiaa.K

set_option maxRecDepth 100000 in
set_option maxHeartbeats 3200000 in
theorem napart_walk (w : World) (a0 : Int) (y0 : (Lit.int .i64 a0).wf = true) (a1 : Int) (y1 : (Lit.int .i64 a1).wf = true)
    (v2 : Value) (o2 : ∃ (A : Option Addr) (n c : Nat) (f : Nat → NSt), v2 = .slice A n c ∧ n ≤ c ∧ NSteps w A n f ∧ n ≤ 140737488351232)
    (v3 : Value) (o3 : ∃ (A : Option Addr) (n c : Nat) (f : Nat → NSt), v3 = .slice A n c ∧ n ≤ c ∧ NSteps w A n f ∧ n ≤ 140737488351232) :
    Calls Try.prog 9 #[.int .i64 a0, .int .i64 a1, v2, v3] w fun e w' => e = .returned (.bool true) ∧ Below w.heap.size w w' := by
  obtain ⟨A2, n2, c2, f2, rfl, hnc2, hS2, hm2⟩ := o2
  obtain ⟨A3, n3, c3, f3, rfl, hnc3, hS3, hm3⟩ := o3
  have HS := Lib.hid (And.intro hS2 hS3)
  clear hS2 hS3 y0 y1
  go_enter Try.func9, Try.ntmps9
  go_wp2_with fail
  refine (within_c w a0 30 (by omega) (by omega)).mono ?_
  rintro e w1 ⟨r0, rfl, hr0, rfl⟩
  go_wp2_with fail
  refine (within_c w a1 30 (by omega) (by omega)).mono ?_
  rintro e w1 ⟨r1, rfl, hr1, rfl⟩
  go_wp2_with fail
  refine (new_c w (1 + (r0 : Int)) (1 + (r1 : Int)) (by omega) (fun _ => 0) 1000).mono ?_
  rintro e w1 ⟨ga, rfl, hg1, hg2, hb1, H1⟩
  have HA1 := Lib.hid (And.intro H1 (((St.first w).below hb1).upd (Nat.le_refl _) (1000 + 4)))
  generalize upd (fun _ => 0) w.heap.size (1000 + 4) = σ1 at HA1
  clear H1 hg1 hg2 hb1
  go_wp2_with fail
  refine (new_c w1 (1 + (r0 : Int)) (1 + (r1 : Int)) (by omega) σ1 2000).mono ?_
  rintro e w2 ⟨gb, rfl, hg1, hg2, hb2, H2⟩
  have HA2 : Hid (Two w ga gb w2 (upd σ1 w1.heap.size (2000 + 4)) (NS.new (1 + (r0 : Int)) (1 + (r1 : Int))) (NS.new (1 + (r0 : Int)) (1 + (r1 : Int)))) := ⟨(HA1.out.2.upd HA1.out.2.size _).below hb2, (HA1.out.1.upd (Nat.le_refl _) _).below hb2, H2⟩
  generalize upd σ1 w1.heap.size (2000 + 4) = σ2 at HA2
  clear H2 hg1 hg2 hb2 HA1
  go_wp2_with fail
  refine (open_c w2 σ2 1000 ga _ HA2.out.a 3 (by decide)).mono ?_
  rintro e w3 ⟨he, σ3, h3, c3'⟩
  obtain rfl : e = .returned (.int .i64 0) := he
  have HA3 := Lib.hid (HA2.out.stepA h3 c3')
  clear h3 c3' HA2
  go_wp2_with fail
  refine (open_c w3 σ3 2000 gb _ HA3.out.b 3 (by decide)).mono ?_
  rintro e w4 ⟨he, σ4, h4, c4'⟩
  obtain rfl : e = .returned (.int .i64 0) := he
  have HA4 : Hid (Two w ga gb w4 σ4 ((NS.new (1 + (r0 : Int)) (1 + (r1 : Int))).open_ 3).2 ((NS.new (1 + (r0 : Int)) (1 + (r1 : Int))).open_ 3).2) := HA3.out.stepB h4 c4'
  have hmv : ((NS.new (1 + (r0 : Int)) (1 + (r1 : Int))).open_ 3).2.mv = 0 := rfl
  generalize ((NS.new (1 + (r0 : Int)) (1 + (r1 : Int))).open_ 3).2 = N0 at HA4 hmv
  clear h4 c4' HA3
  have Hmv0 := Lib.hid hmv
  clear hmv
  go_wp2_with fail
  go_loopw [13] (fun i wr => ∃ (k : Nat) (σ : Nat → Nat) (N M : NS), k ≤ n2 ∧ k ≤ 80 ∧ i = .int .i64 k ∧ Two w ga gb wr σ N M ∧ Same N M 3 ∧ N.mv ≤ 262144 * (k : Int) ∧ M.mv ≤ 262144 * (k : Int)) (fun i _ => 80 - (intOf i).toNat)
  case atStart => exact ⟨0, σ4, N0, N0, Nat.zero_le _, Nat.zero_le _, rfl, HA4.out, ⟨rfl, rfl, rfl⟩, by rw [Hmv0.out]; exact Int.le_refl _, by rw [Hmv0.out]; exact Int.le_refl _⟩
  case round =>
    clear HA4 Hmv0
    obtain ⟨k, σ, N, M, hk, hk80, rfl, hW, hSm, hmN, hmM⟩ := hrel
    by_cases hlt : k < n2 ∧ k < 80
    · obtain ⟨hlt, hl80⟩ := hlt
      have hi1 : (k : Int) < (n2 : Int) := by omega
      have hi2 : (k : Int) < 80 := by omega
      have hi0 : (0 : Int) ≤ (k : Int) := by omega
      obtain ⟨b, off, rfl, hb, hc⟩ := HS.out.1.at_ (by omega)
      have hcs := hc k hlt
      have hok := HS.out.1.ok k hlt
      clear hc
      generalize f2 k = st at hcs hok
      obtain ⟨kd, c, Ab, nb, cb, L, most⟩ := st
      have hbk : ∀ j, wr.cell? ⟨b, j, none⟩ = w.cell? ⟨b, j, none⟩ := fun j => World.cell?_of_block (a := ⟨b, j, none⟩) (hW.st.bel.block b hb)
      have d0 : wr.cell? ⟨b, off + k * 4, none⟩ = some (.int .i64 kd) := (hbk _).trans (hcs 0 _ rfl)
      have d1 : wr.cell? ⟨b, off + k * 4 + 1, none⟩ = some (.int .i64 c) := (hbk _).trans (hcs 1 _ rfl)
      have d2 : wr.cell? ⟨b, off + k * 4 + 2, none⟩ = some (.slice Ab nb cb) := (hbk _).trans (hcs 2 _ rfl)
      have d3 : wr.cell? ⟨b, off + k * 4 + 3, none⟩ = some (.int .i64 most) := (hbk _).trans (hcs 3 _ rfl)
      have Hok : Hid ((⟨kd, 3, Ab, nb, cb, L, most⟩ : NSt).ok w) := ⟨hok.len, hok.cap, hok.rd, hok.lim, hok.wk, (show (Lit.int .i64 3).wf = true by decide), hok.wm⟩
      have hT := hW.new 49 #[.int .i64 kd, .int .i64 3, .slice Ab nb cb, .int .i64 most]
      have HT := Lib.hid (And.intro hT.1 (And.intro hT.2 (And.intro hSm (And.intro hmN hmM))))
      clear hbk hcs hb hok hT hW hSm hmN hmM
      go_upto_region 12 with fail
      clear d0 d1 d2 d3
      generalize wr.alloc (.cells #[.int .i64 kd, .int .i64 3, .slice Ab nb cb, .int .i64 most] 49) = w5 at HT ⊢
      generalize K.upd σ wr.heap.size 0 = σ5 at HT
      generalize wr.heap.size = px at HT ⊢
      by_cases hl3 : k < n3
      · have hi3 : (k : Int) < (n3 : Int) := by omega
        obtain ⟨b3, off3, rfl, hb3, hc3⟩ := HS.out.2.at_ (by omega)
        have hcs := hc3 k hl3
        have hok := HS.out.2.ok k hl3
        clear hc3
        generalize f3 k = st at hcs hok
        obtain ⟨kd3, cc3, Ab3, nb3, cb3, L3, most3⟩ := st
        have hbk : ∀ j, w5.cell? ⟨b3, j, none⟩ = w.cell? ⟨b3, j, none⟩ := fun j => World.cell?_of_block (a := ⟨b3, j, none⟩) (HT.out.1.st.bel.block b3 hb3)
        have d0 : w5.cell? ⟨b3, off3 + k * 4, none⟩ = some (.int .i64 kd3) := (hbk _).trans (hcs 0 _ rfl)
        have d1 : w5.cell? ⟨b3, off3 + k * 4 + 1, none⟩ = some (.int .i64 cc3) := (hbk _).trans (hcs 1 _ rfl)
        have d2 : w5.cell? ⟨b3, off3 + k * 4 + 2, none⟩ = some (.slice Ab3 nb3 cb3) := (hbk _).trans (hcs 2 _ rfl)
        have d3 : w5.cell? ⟨b3, off3 + k * 4 + 3, none⟩ = some (.int .i64 most3) := (hbk _).trans (hcs 3 _ rfl)
        have Hok3 := Lib.hid hok
        clear hbk hcs hb3 hok
        go_wp2_with fail
        refine (within_c _ cc3 5 (by omega) (by omega)).mono ?_
        rintro e w6 ⟨r5, rfl, hr5, rfl⟩
        go_upto_region 15 with fail
        have hT := HT.out.1.new 49 #[.int .i64 kd3, .int .i64 (4 + (r5 : Int)), .slice Ab3 nb3 cb3, .int .i64 most3]
        have hpx := (HT.out.2.1.upd (Nat.le_refl _) 0).below ((Below.refl w5.heap.size w5).alloc (Nat.le_refl _) (.cells #[.int .i64 kd3, .int .i64 (4 + (r5 : Int)), .slice Ab3 nb3 cb3, .int .i64 most3] 49))
        have Hy : Hid ((⟨kd3, 4 + (r5 : Int), Ab3, nb3, cb3, L3, most3⟩ : NSt).ok w) := ⟨Hok3.out.len, Hok3.out.cap, Hok3.out.rd, Hok3.out.lim, Hok3.out.wk, wf_four hr5, Hok3.out.wm⟩
        have HU := Lib.hid (And.intro hT.1 (And.intro hpx (And.intro hT.2 HT.out.2.2)))
        clear d0 d1 d2 d3 hT hpx HT Hok3
        generalize w5.alloc (.cells #[.int .i64 kd3, .int .i64 (4 + (r5 : Int)), .slice Ab3 nb3 cb3, .int .i64 most3] 49) = w6 at HU ⊢
        generalize K.upd σ5 w5.heap.size 0 = σ6 at HU
        generalize w5.heap.size = py at HU ⊢
        have q0 : w6.cell? ⟨py, 0, none⟩ = some (.int .i64 kd3) := by rw [HU.out.2.2.1.1.cell]; rfl
        have q1 : w6.cell? ⟨py, 1, none⟩ = some (.int .i64 (4 + (r5 : Int))) := by rw [HU.out.2.2.1.1.cell]; rfl
        have q2 : w6.cell? ⟨py, 2, none⟩ = some (.slice Ab3 nb3 cb3) := by rw [HU.out.2.2.1.1.cell]; rfl
        have q3 : w6.cell? ⟨py, 3, none⟩ = some (.int .i64 most3) := by rw [HU.out.2.2.1.1.cell]; rfl
        go_wp2_with fail
        refine (did_c w6 σ6 2000 gb M HU.out.1.b (by have := HU.out.2.2.2.2.2; omega) ⟨kd3, 4 + (r5 : Int), Ab3, nb3, cb3, L3, most3⟩ (Hy.out.below HU.out.1.st.bel)).mono ?_
        rintro e w7 ⟨he, σ7, h7, c7⟩
        have hfar := did_far (N := M) ⟨kd3, 4 + (r5 : Int), Ab3, nb3, cb3, L3, most3⟩ (d := 3) (by show 3 ≠ (4 + (r5 : Int)).toNat; omega)
        have hmv7 := did_mv HU.out.1.b.good ⟨kd3, 4 + (r5 : Int), Ab3, nb3, cb3, L3, most3⟩
        have hT7 := HU.out.1.stepB h7 c7
        have hpx7 := HU.out.2.1.chg c7 o20
        generalize (M.did ⟨kd3, 4 + (r5 : Int), Ab3, nb3, cb3, L3, most3⟩).2.2 = M7 at hfar hmv7 hT7 h7
        generalize (M.did ⟨kd3, 4 + (r5 : Int), Ab3, nb3, cb3, L3, most3⟩).1 = z7 at he
        generalize str (M.did ⟨kd3, 4 + (r5 : Int), Ab3, nb3, cb3, L3, most3⟩).2.1 = s7 at he
        subst he
        have HR : Hid (Two w ga gb w7 σ7 N M7 ∧ MBlk w7 σ7 0 px 49 #[.int .i64 kd, .int .i64 3, .slice Ab nb cb, .int .i64 most] ∧ Same N M7 3 ∧ N.mv ≤ 262144 * (k : Int) ∧ M7.mv ≤ 262144 * (k : Int) + 131072) := ⟨hT7, hpx7, ⟨HU.out.2.2.2.1.i.trans hfar.1.symm, HU.out.2.2.2.1.o.trans hfar.2.1.symm, HU.out.2.2.2.1.cs.trans hfar.2.2.symm⟩, HU.out.2.2.2.2.1, by have := HU.out.2.2.2.2.2; omega⟩
        clear q0 q1 q2 q3 h7 c7 hfar hmv7 hT7 hpx7 HU Hy
        have x0 : w7.cell? ⟨px, 0, none⟩ = some (.int .i64 kd) := by rw [HR.out.2.1.1.cell]; rfl
        have x1 : w7.cell? ⟨px, 1, none⟩ = some (.int .i64 3) := by rw [HR.out.2.1.1.cell]; rfl
        have x2 : w7.cell? ⟨px, 2, none⟩ = some (.slice Ab nb cb) := by rw [HR.out.2.1.1.cell]; rfl
        have x3 : w7.cell? ⟨px, 3, none⟩ = some (.int .i64 most) := by rw [HR.out.2.1.1.cell]; rfl
        go_wp2_with fail
        refine (did_c w7 σ7 1000 ga N HR.out.1.a (by have := HR.out.2.2.2.1; omega) ⟨kd, 3, Ab, nb, cb, L, most⟩ (Hok.out.below HR.out.1.st.bel)).mono ?_
        rintro e w8 ⟨he, σ8, h8, c8⟩
        have hsame := did_same ⟨kd, 3, Ab, nb, cb, L, most⟩ (N := N) (M := M7) HR.out.2.2.1
        have hmv8 := did_mv HR.out.1.a.good ⟨kd, 3, Ab, nb, cb, L, most⟩
        have hmv9 := did_mv HR.out.1.b.good ⟨kd, 3, Ab, nb, cb, L, most⟩
        have hT8 := HR.out.1.stepA h8 c8
        have hpx8 := HR.out.2.1.chg c8 o10
        have hb9 := fun W σ (h : NetAt W σ 2000 gb M7) (hok : (⟨kd, 3, Ab, nb, cb, L, most⟩ : NSt).ok W) => did_c W σ 2000 gb M7 h (by have := HR.out.2.2.2.2; omega) ⟨kd, 3, Ab, nb, cb, L, most⟩ hok
        obtain ⟨N9, hN9⟩ : ∃ x, (N.did ⟨kd, 3, Ab, nb, cb, L, most⟩).2.2 = x := ⟨_, rfl⟩
        obtain ⟨M9, hM9⟩ : ∃ x, ((M7).did ⟨kd, 3, Ab, nb, cb, L, most⟩).2.2 = x := ⟨_, rfl⟩
        simp only [hsame.1.symm, hsame.2.1.symm, hM9] at hb9
        rw [hN9, hM9] at hsame
        rw [hN9] at hmv8 hT8 h8
        rw [hM9] at hmv9
        obtain ⟨z8, hz8⟩ : ∃ x, (N.did ⟨kd, 3, Ab, nb, cb, L, most⟩).1 = x := ⟨_, rfl⟩
        obtain ⟨s8, hs8⟩ : ∃ x, str (N.did ⟨kd, 3, Ab, nb, cb, L, most⟩).2.1 = x := ⟨_, rfl⟩
        rw [hz8, hs8] at he
        simp only [hz8, hs8] at hb9
        subst he
        have HR8 := Lib.hid (And.intro hT8 (And.intro hpx8 (And.intro hsame.2.2 (And.intro (show N9.mv ≤ 262144 * ((k : Int) + 1) by have := HR.out.2.2.2.1; omega) (show M9.mv ≤ 262144 * ((k : Int) + 1) by have := HR.out.2.2.2.2; omega)))))
        have Hb9 := Lib.hid hb9
        clear x0 x1 x2 x3 h8 c8 hsame hmv8 hmv9 hT8 hpx8 hb9 hN9 hM9 hz8 hs8 HR
        have x0 : w8.cell? ⟨px, 0, none⟩ = some (.int .i64 kd) := by rw [HR8.out.2.1.1.cell]; rfl
        have x1 : w8.cell? ⟨px, 1, none⟩ = some (.int .i64 3) := by rw [HR8.out.2.1.1.cell]; rfl
        have x2 : w8.cell? ⟨px, 2, none⟩ = some (.slice Ab nb cb) := by rw [HR8.out.2.1.1.cell]; rfl
        have x3 : w8.cell? ⟨px, 3, none⟩ = some (.int .i64 most) := by rw [HR8.out.2.1.1.cell]; rfl
        go_wp2_with fail
        refine (Hb9.out w8 σ8 HR8.out.1.b (Hok.out.below HR8.out.1.st.bel)).mono ?_
        rintro e w9 ⟨rfl, σ9, h9, c9⟩
        have HR9 := Lib.hid (And.intro (HR8.out.1.stepB h9 c9) HR8.out.2.2)
        clear x0 x1 x2 x3 h9 c9 HR8 Hb9
        have hlk := looks_same (N := N9) (M := M9) (c := 3) HR9.out.2.1.cs
        have hA1 := fun W (h : NetAt W σ9 1000 ga N9) => heard_c W σ9 1000 ga N9 h (by have := HR9.out.2.2.1; omega) 3 (by decide)
        have hB1 := fun W (h : NetAt W σ9 2000 gb M9) => heard_c W σ9 2000 gb M9 h (by have := HR9.out.2.2.2; omega) 3 (by decide)
        have hA2 := fun W (h : NetAt W σ9 1000 ga N9) => is_c W σ9 1000 ga N9 h 3 (by decide)
        have hB2 := fun W (h : NetAt W σ9 2000 gb M9) => is_c W σ9 2000 gb M9 h 3 (by decide)
        have hA3 := fun W (h : NetAt W σ9 1000 ga N9) => under_n W σ9 1000 ga N9 h 3 (by decide)
        have hB3 := fun W (h : NetAt W σ9 2000 gb M9) => under_n W σ9 2000 gb M9 h 3 (by decide)
        simp only [hlk.1.symm] at hB1
        simp only [hlk.2.1.symm] at hB2
        simp only [hlk.2.2.symm] at hB3
        generalize N9.heard_ 3 = hd at hA1 hB1
        generalize N9.is_ 3 = hi at hA2 hB2
        generalize N9.under 3 = hu at hA3 hB3
        obtain ⟨hl, hf⟩ := hd
        obtain ⟨i1, i2⟩ := hi
        obtain ⟨u1, u2⟩ := hu
        dsimp only at hA1 hB1 hA2 hB2 hA3 hB3
        have HA := Lib.hid (And.intro hA1 (And.intro hA2 hA3))
        have HB := Lib.hid (And.intro hB1 (And.intro hB2 hB3))
        clear hlk hA1 hB1 hA2 hB2 hA3 hB3
        go_wp2_with fail
        refine (HA.out.1 w9 HR9.out.1.a).mono ?_
        rintro e w10 ⟨va, rfl, hb10, hva⟩
        obtain ⟨Va, ca, rfl⟩ := own_slice hva
        have HV := Lib.hid (And.intro (HR9.out.1.below hb10) (Reads.of_row hva))
        clear hb10 hva
        go_wp2_with fail
        refine (HB.out.1 w10 HV.out.1.b).mono ?_
        rintro e w11 ⟨vb, rfl, hb11, hvb⟩
        obtain ⟨Vb, cb', rfl⟩ := own_slice hvb
        have HV2 := Lib.hid (And.intro (HV.out.1.below hb11) (And.intro (HV.out.2.below hb11) (Reads.of_row hvb)))
        clear hb11 hvb HV
        go_wp2_with fail
        refine (HA.out.2.1 w11 HV2.out.1.a).mono ?_
        rintro e w12 ⟨rfl, nx, hw⟩
        have hbx : Below w11.heap.size w11 w12 := by rw [hw]; exact below_drewN (Below.refl _ _) nx
        have HV3 := Lib.hid (And.intro (HV2.out.1.below hbx) (And.intro (HV2.out.2.1.below hbx) (HV2.out.2.2.below hbx)))
        clear hbx hw HV2
        go_wp2_with fail
        refine (HB.out.2.1 w12 HV3.out.1.b).mono ?_
        rintro e w13 ⟨rfl, nx, hw⟩
        have hbx : Below w12.heap.size w12 w13 := by rw [hw]; exact below_drewN (Below.refl _ _) nx
        have HV4 := Lib.hid (And.intro (HV3.out.1.below hbx) (And.intro (HV3.out.2.1.below hbx) (HV3.out.2.2.below hbx)))
        clear hbx hw HV3
        go_wp2_with fail
        refine (HA.out.2.2 w13 HV4.out.1.a).mono ?_
        rintro e w14 ⟨rfl, nx, hw⟩
        have hbx : Below w13.heap.size w13 w14 := by rw [hw]; exact below_drewN (Below.refl _ _) nx
        have HV5 := Lib.hid (And.intro (HV4.out.1.below hbx) (And.intro (HV4.out.2.1.below hbx) (HV4.out.2.2.below hbx)))
        clear hbx hw HV4
        go_wp2_with fail
        refine (HB.out.2.2 w14 HV5.out.1.b).mono ?_
        rintro e w15 ⟨rfl, nx, hw⟩
        have hbx : Below w14.heap.size w14 w15 := by rw [hw]; exact below_drewN (Below.refl _ _) nx
        have HV6 := Lib.hid (HV5.out.1.below hbx)
        have hcv1 := conv_reads (cp := ca) rfl (HV5.out.2.1.below hbx)
        have hcv2 := conv_reads (cp := cb') rfl (HV5.out.2.2.below hbx)
        clear hbx hw HV5 HA HB
        go_wp2_with fail
        go_roundw
        case rel => exact ⟨k + 1, σ9, N9, M9, by omega, by omega, by go_num, HV6.out, HR9.out.2.1, by have := HR9.out.2.2.1; omega, by have := HR9.out.2.2.2; omega⟩
        case measure => simp [intOf]; omega
      · have hi3 : ¬ (k : Int) < (n3 : Int) := by omega
        have HR : Hid (Two w ga gb w5 σ5 N M ∧ MBlk w5 σ5 0 px 49 #[.int .i64 kd, .int .i64 3, .slice Ab nb cb, .int .i64 most] ∧ Same N M 3 ∧ N.mv ≤ 262144 * (k : Int) ∧ M.mv ≤ 262144 * (k : Int) + 131072) := ⟨HT.out.1, HT.out.2.1, HT.out.2.2.1, HT.out.2.2.2.1, by have := HT.out.2.2.2.2; omega⟩
        clear HT
        have x0 : w5.cell? ⟨px, 0, none⟩ = some (.int .i64 kd) := by rw [HR.out.2.1.1.cell]; rfl
        have x1 : w5.cell? ⟨px, 1, none⟩ = some (.int .i64 3) := by rw [HR.out.2.1.1.cell]; rfl
        have x2 : w5.cell? ⟨px, 2, none⟩ = some (.slice Ab nb cb) := by rw [HR.out.2.1.1.cell]; rfl
        have x3 : w5.cell? ⟨px, 3, none⟩ = some (.int .i64 most) := by rw [HR.out.2.1.1.cell]; rfl
        go_wp2_with fail
        refine (did_c w5 σ5 1000 ga N HR.out.1.a (by have := HR.out.2.2.2.1; omega) ⟨kd, 3, Ab, nb, cb, L, most⟩ (Hok.out.below HR.out.1.st.bel)).mono ?_
        rintro e w8 ⟨he, σ8, h8, c8⟩
        have hsame := did_same ⟨kd, 3, Ab, nb, cb, L, most⟩ (N := N) (M := M) HR.out.2.2.1
        have hmv8 := did_mv HR.out.1.a.good ⟨kd, 3, Ab, nb, cb, L, most⟩
        have hmv9 := did_mv HR.out.1.b.good ⟨kd, 3, Ab, nb, cb, L, most⟩
        have hT8 := HR.out.1.stepA h8 c8
        have hpx8 := HR.out.2.1.chg c8 o10
        have hb9 := fun W σ (h : NetAt W σ 2000 gb M) (hok : (⟨kd, 3, Ab, nb, cb, L, most⟩ : NSt).ok W) => did_c W σ 2000 gb M h (by have := HR.out.2.2.2.2; omega) ⟨kd, 3, Ab, nb, cb, L, most⟩ hok
        obtain ⟨N9, hN9⟩ : ∃ x, (N.did ⟨kd, 3, Ab, nb, cb, L, most⟩).2.2 = x := ⟨_, rfl⟩
        obtain ⟨M9, hM9⟩ : ∃ x, ((M).did ⟨kd, 3, Ab, nb, cb, L, most⟩).2.2 = x := ⟨_, rfl⟩
        simp only [hsame.1.symm, hsame.2.1.symm, hM9] at hb9
        rw [hN9, hM9] at hsame
        rw [hN9] at hmv8 hT8 h8
        rw [hM9] at hmv9
        obtain ⟨z8, hz8⟩ : ∃ x, (N.did ⟨kd, 3, Ab, nb, cb, L, most⟩).1 = x := ⟨_, rfl⟩
        obtain ⟨s8, hs8⟩ : ∃ x, str (N.did ⟨kd, 3, Ab, nb, cb, L, most⟩).2.1 = x := ⟨_, rfl⟩
        rw [hz8, hs8] at he
        simp only [hz8, hs8] at hb9
        subst he
        have HR8 := Lib.hid (And.intro hT8 (And.intro hpx8 (And.intro hsame.2.2 (And.intro (show N9.mv ≤ 262144 * ((k : Int) + 1) by have := HR.out.2.2.2.1; omega) (show M9.mv ≤ 262144 * ((k : Int) + 1) by have := HR.out.2.2.2.2; omega)))))
        have Hb9 := Lib.hid hb9
        clear x0 x1 x2 x3 h8 c8 hsame hmv8 hmv9 hT8 hpx8 hb9 hN9 hM9 hz8 hs8 HR
        have x0 : w8.cell? ⟨px, 0, none⟩ = some (.int .i64 kd) := by rw [HR8.out.2.1.1.cell]; rfl
        have x1 : w8.cell? ⟨px, 1, none⟩ = some (.int .i64 3) := by rw [HR8.out.2.1.1.cell]; rfl
        have x2 : w8.cell? ⟨px, 2, none⟩ = some (.slice Ab nb cb) := by rw [HR8.out.2.1.1.cell]; rfl
        have x3 : w8.cell? ⟨px, 3, none⟩ = some (.int .i64 most) := by rw [HR8.out.2.1.1.cell]; rfl
        go_wp2_with fail
        refine (Hb9.out w8 σ8 HR8.out.1.b (Hok.out.below HR8.out.1.st.bel)).mono ?_
        rintro e w9 ⟨rfl, σ9, h9, c9⟩
        have HR9 := Lib.hid (And.intro (HR8.out.1.stepB h9 c9) HR8.out.2.2)
        clear x0 x1 x2 x3 h9 c9 HR8 Hb9
        have hlk := looks_same (N := N9) (M := M9) (c := 3) HR9.out.2.1.cs
        have hA1 := fun W (h : NetAt W σ9 1000 ga N9) => heard_c W σ9 1000 ga N9 h (by have := HR9.out.2.2.1; omega) 3 (by decide)
        have hB1 := fun W (h : NetAt W σ9 2000 gb M9) => heard_c W σ9 2000 gb M9 h (by have := HR9.out.2.2.2; omega) 3 (by decide)
        have hA2 := fun W (h : NetAt W σ9 1000 ga N9) => is_c W σ9 1000 ga N9 h 3 (by decide)
        have hB2 := fun W (h : NetAt W σ9 2000 gb M9) => is_c W σ9 2000 gb M9 h 3 (by decide)
        have hA3 := fun W (h : NetAt W σ9 1000 ga N9) => under_n W σ9 1000 ga N9 h 3 (by decide)
        have hB3 := fun W (h : NetAt W σ9 2000 gb M9) => under_n W σ9 2000 gb M9 h 3 (by decide)
        simp only [hlk.1.symm] at hB1
        simp only [hlk.2.1.symm] at hB2
        simp only [hlk.2.2.symm] at hB3
        generalize N9.heard_ 3 = hd at hA1 hB1
        generalize N9.is_ 3 = hi at hA2 hB2
        generalize N9.under 3 = hu at hA3 hB3
        obtain ⟨hl, hf⟩ := hd
        obtain ⟨i1, i2⟩ := hi
        obtain ⟨u1, u2⟩ := hu
        dsimp only at hA1 hB1 hA2 hB2 hA3 hB3
        have HA := Lib.hid (And.intro hA1 (And.intro hA2 hA3))
        have HB := Lib.hid (And.intro hB1 (And.intro hB2 hB3))
        clear hlk hA1 hB1 hA2 hB2 hA3 hB3
        go_wp2_with fail
        refine (HA.out.1 w9 HR9.out.1.a).mono ?_
        rintro e w10 ⟨va, rfl, hb10, hva⟩
        obtain ⟨Va, ca, rfl⟩ := own_slice hva
        have HV := Lib.hid (And.intro (HR9.out.1.below hb10) (Reads.of_row hva))
        clear hb10 hva
        go_wp2_with fail
        refine (HB.out.1 w10 HV.out.1.b).mono ?_
        rintro e w11 ⟨vb, rfl, hb11, hvb⟩
        obtain ⟨Vb, cb', rfl⟩ := own_slice hvb
        have HV2 := Lib.hid (And.intro (HV.out.1.below hb11) (And.intro (HV.out.2.below hb11) (Reads.of_row hvb)))
        clear hb11 hvb HV
        go_wp2_with fail
        refine (HA.out.2.1 w11 HV2.out.1.a).mono ?_
        rintro e w12 ⟨rfl, nx, hw⟩
        have hbx : Below w11.heap.size w11 w12 := by rw [hw]; exact below_drewN (Below.refl _ _) nx
        have HV3 := Lib.hid (And.intro (HV2.out.1.below hbx) (And.intro (HV2.out.2.1.below hbx) (HV2.out.2.2.below hbx)))
        clear hbx hw HV2
        go_wp2_with fail
        refine (HB.out.2.1 w12 HV3.out.1.b).mono ?_
        rintro e w13 ⟨rfl, nx, hw⟩
        have hbx : Below w12.heap.size w12 w13 := by rw [hw]; exact below_drewN (Below.refl _ _) nx
        have HV4 := Lib.hid (And.intro (HV3.out.1.below hbx) (And.intro (HV3.out.2.1.below hbx) (HV3.out.2.2.below hbx)))
        clear hbx hw HV3
        go_wp2_with fail
        refine (HA.out.2.2 w13 HV4.out.1.a).mono ?_
        rintro e w14 ⟨rfl, nx, hw⟩
        have hbx : Below w13.heap.size w13 w14 := by rw [hw]; exact below_drewN (Below.refl _ _) nx
        have HV5 := Lib.hid (And.intro (HV4.out.1.below hbx) (And.intro (HV4.out.2.1.below hbx) (HV4.out.2.2.below hbx)))
        clear hbx hw HV4
        go_wp2_with fail
        refine (HB.out.2.2 w14 HV5.out.1.b).mono ?_
        rintro e w15 ⟨rfl, nx, hw⟩
        have hbx : Below w14.heap.size w14 w15 := by rw [hw]; exact below_drewN (Below.refl _ _) nx
        have HV6 := Lib.hid (HV5.out.1.below hbx)
        have hcv1 := conv_reads (cp := ca) rfl (HV5.out.2.1.below hbx)
        have hcv2 := conv_reads (cp := cb') rfl (HV5.out.2.2.below hbx)
        clear hbx hw HV5 HA HB
        go_wp2_with fail
        go_roundw
        case rel => exact ⟨k + 1, σ9, N9, M9, by omega, by omega, by go_num, HV6.out, HR9.out.2.1, by have := HR9.out.2.2.1; omega, by have := HR9.out.2.2.2; omega⟩
        case measure => simp [intOf]; omega
    · have hW' := Lib.hid hW
      clear hW hSm
      by_cases h80 : k < 80
      · have hi1 : ¬ (k : Int) < (n2 : Int) := by omega
        go_wp2_with fail
        refine (head_c wr).mono ?_
        rintro e w9 ⟨rfl, hb9⟩
        go_wp2
        go_ret
        exact ⟨rfl, (hW'.out.st.below hb9).bel⟩
      · have hi2 : ¬ (k : Int) < 80 := by omega
        go_wp2_with fail
        all_goals
          refine (head_c wr).mono ?_
          rintro e w9 ⟨rfl, hb9⟩
          go_wp2
          go_ret
          exact ⟨rfl, (hW'.out.st.below hb9).bel⟩
end Go.Proofs.Ytalabfbnbiagiaa.C
