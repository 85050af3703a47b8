/-
  The call of the law NetMany.
-/
import Derived.Test.YtalabfbnbiagiaaM3
import Derived.Test.YtalabfbnbiagiaaC8d
set_option linter.unusedVariables false
set_option linter.unusedSimpArgs false
namespace Go.Proofs.Ytalabfbnbiagiaa.C
open Go.RowKit Go.Proofs.Ytalabfbnbiagiaa.K

theorem wf_c {k : Nat} (h : k ≤ 70) : (Lit.int .i64 (k : Int)).wf = true := by
  revert h
  revert k
  decide +kernel
theorem info3' : (Try.prog.info? 3).map (fun i => (i.zero, i.size, i.bytes)) = some (some (.int .i64 0), 1, 8) := by kernel_rfl
theorem make_in (n : Nat) (hn : n ≤ 100) (W : World) : (Instr.makeSlice 37 (.int .i64 ((n : Int) + 1)) (.int .i64 ((n : Int) + 1))).run Try.prog W = .ok (.slice (some ⟨W.heap.size, 0, none⟩) (n + 1) (n + 1)) (W.alloc (.cells (madeCells #[.slice none 0 0] (n + 1)) 29)) := by
  obtain ⟨i0, hi, hz0, hz1, hz2⟩ := info_parts info29'
  have := run_make_rowN (P := Try.prog) 37 29 i0 _ Try.underlying37 hi hz0 .i64 .i64 (n + 1) (n + 1) (Nat.le_refl _) (by rw [hz2]; omega) (by omega) W
  rw [hz1, Nat.mul_one] at this
  exact this
theorem make_out (n : Nat) (hn : n ≤ 100) (W : World) : (Instr.makeSlice 52 (.int .i64 ((n : Int) + 1)) (.int .i64 ((n : Int) + 1))).run Try.prog W = .ok (.slice (some ⟨W.heap.size, 0, none⟩) (n + 1) (n + 1)) (W.alloc (.cells (madeCells #[.int .i64 0] (n + 1)) 3)) := by
  obtain ⟨i0, hi, hz0, hz1, hz2⟩ := info_parts info3'
  have := run_make_rowN (P := Try.prog) 52 3 i0 _ Try.underlying52 hi hz0 .i64 .i64 (n + 1) (n + 1) (Nat.le_refl _) (by rw [hz2]; omega) (by omega) W
  rw [hz1, Nat.mul_one] at this
  exact this

theorem Inv.step' {N N4 : NS} {n long k c p kk w f : Nat} {a b h : Nat → Nat} (I : Inv N n long k c a b h) (hc1 : 1 ≤ c) (hm : c ≤ n) (hp : 1 ≤ p)
    (R : Rnd N N4 c (byt c long) (byt (c + 100) long) (a c) (b c) (h c) kk w f)
    (h1 : kk = min (min p (long - a c)) 7) (h2 : w = min (long - b c) (5 - (b c - h c))) (h3 : f = min p (b c + w - h c)) :
    Inv N4 n long k (c - 1) (upf a c (a c + kk)) (upf b c (b c + w)) (upf h c (h c + f)) := by
  obtain ⟨m, rfl⟩ : ∃ m, c = m + 1 := ⟨c - 1, by omega⟩
  exact I.step hm hp R h1 h2 h3

set_option maxRecDepth 100000 in
set_option maxHeartbeats 12800000 in
theorem many_walk (w : World) (a0 : Int) (y0 : (Lit.int .i64 a0).wf = true) (a1 : Int) (y1 : (Lit.int .i64 a1).wf = true) (a2 : Int) (y2 : (Lit.int .i64 a2).wf = true) :
    Calls Try.prog 7 #[.int .i64 a0, .int .i64 a1, .int .i64 a2] w fun e w' => e = .returned (.bool true) ∧ Below w.heap.size w w' := by
  clear y0 y1 y2
  go_enter Try.func7, Try.ntmps7
  go_wp2_with fail
  refine (within_c w a0 64 (by omega) (by omega)).mono ?_
  rintro e w1 ⟨r0, rfl, hr0, rfl⟩
  obtain ⟨n, hn⟩ : ∃ n : Nat, (1 : Int) + (r0 : Int) = (n : Int) := ⟨1 + r0, by omega⟩
  have hn1 : 1 ≤ n := by omega
  have hn2 : n ≤ 64 := by omega
  go_wp2_with fail
  refine (within_c w a1 60 (by omega) (by omega)).mono ?_
  rintro e w1 ⟨long, rfl, hlong, rfl⟩
  have hl60 : long ≤ 59 := by omega
  go_wp2_with fail
  refine (within_c w a2 9 (by omega) (by omega)).mono ?_
  rintro e w1 ⟨r2, rfl, hr2, rfl⟩
  obtain ⟨p, hp⟩ : ∃ p : Nat, (1 : Int) + (r2 : Int) = (p : Int) := ⟨1 + r2, by omega⟩
  have hp1 : 1 ≤ p := by omega
  have hp2 : p ≤ 9 := by omega
  go_upto_region 4 with fail
  try rw [hn]
  try rw [hp]
  clear hr0 hr2 hlong hn hp
  go_wp2_with fail
  refine (new_c w 7 5 (by omega) (fun _ => 0) 1000).mono ?_
  rintro e w1 ⟨g, rfl, hg1, hg2, hb1, h1⟩
  have H1 := Lib.hid (And.intro h1 (((St.first w).below hb1).upd (Nat.le_refl _) (1000 + 4)))
  generalize upd (fun _ => 0) w.heap.size (1000 + 4) = σ1 at H1
  clear hg1 hg2 hb1 h1
  have HO := Lib.hid (Opn.new long)
  generalize NS.new 7 5 = N1 at H1 HO
  have hnn : (1 : Int) ≤ (n : Int) := by omega
  go_wp2_with fail
  go_loopw [9] (fun i wr => ∃ (k : Nat) (σ : Nat → Nat) (N : NS), 1 ≤ k ∧ k ≤ n + 1 ∧ i = .int .i64 k ∧ NetAt wr σ 1000 g N ∧ St w σ wr ∧ Opn N long k) (fun i _ => n + 1 - (intOf i).toNat)
  case atStart => exact ⟨1, σ1, N1, Nat.le_refl _, by omega, rfl, H1.out.1, H1.out.2, HO.out⟩
  case round =>
    clear H1 HO
    obtain ⟨k, σ, N, hk1, hk2, rfl, hN, hS, hO⟩ := hrel
    have H := Lib.hid (And.intro hN (And.intro hS hO))
    clear hN hS hO
    by_cases hkn : k ≤ n
    · have k1 : (k : Int) ≤ (n : Int) := by omega
      have hop := open_c wr σ 1000 g N H.out.1 (k : Int) (wf_c (by omega))
      rw [H.out.2.2.open_ hk1 (by omega)] at hop
      obtain ⟨hsd, hOn⟩ := H.out.2.2.send_ hk1 (by omega) (show long ≤ 60 by omega)
      have hse := fun W σ' (hN : NetAt W σ' 1000 g (N.put k ⟨[], [], [], [], false, false⟩)) A cp (hr : Reads W A (bs (byt k long))) (hcp : long ≤ cp) => send_c W σ' 1000 g _ hN (k : Int) (wf_c (by omega)) A long cp (byt k long) (byt_length _ _) (by omega) hcp hr
      simp only [hsd] at hse
      have Hop := Lib.hid hop
      have Hse := Lib.hid hse
      have HOn := Lib.hid hOn
      generalize ((N.put k ⟨[], [], [], [], false, false⟩).send (k : Int) (byt k long)).2 = N2 at Hse HOn
      generalize N.put k ⟨[], [], [], [], false, false⟩ = N1' at Hop Hse
      clear hop hse hsd hOn
      go_wp2_with fail
      refine Hop.out.mono ?_
      rintro e w2 ⟨rfl, σ2, h2, c2⟩
      have H2 := Lib.hid (And.intro h2 (H.out.2.1.chg c2 o10))
      clear h2 c2 H Hop
      go_wp2_with fail
      refine (bytes_c w2 k long (by omega) (by omega)).mono ?_
      rintro e w3 ⟨v, rfl, hb3, ho3⟩
      obtain ⟨Av, cv, rfl⟩ := own_slice ho3
      have H3 := Lib.hid (And.intro (H2.out.1.below hb3) (And.intro (H2.out.2.below hb3) (And.intro (Reads.of_row ho3) (own_cap ho3))))
      clear hb3 ho3 H2
      go_wp2_with fail
      refine (Hse.out w3 σ2 H3.out.1 Av cv H3.out.2.2.1 H3.out.2.2.2).mono ?_
      rintro e w4 ⟨rfl, σ4, h4, c4⟩
      have H4 := Lib.hid (And.intro h4 (H3.out.2.1.chg c4 o10))
      clear h4 c4 H3 Hse
      go_wp2_with fail
      go_roundw
      case rel => exact ⟨k + 1, σ4, N2, by omega, by omega, by go_num, H4.out.1, H4.out.2, HOn.out⟩
      case measure => simp [intOf]; omega
    · have k1 : ¬ (k : Int) ≤ (n : Int) := by omega
      have hkn' : n + 1 = k := by omega
      have HI := Lib.hid (show Inv N n long 0 n (fun _ => 0) (fun _ => 0) (fun _ => 0) from by have := H.out.2.2; rw [← hkn'] at this; exact this.inv)
      clear hkn'
      have hm1 := make_in n (by omega) wr
      have hm2 := make_out n (by omega) (wr.alloc (.cells (madeCells #[.slice none 0 0] (n + 1)) 29))
      go_upto_region 14 with fail
      have hb2 : Below wr.heap.size wr ((wr.alloc (.cells (madeCells #[.slice none 0 0] (n + 1)) 29)).alloc (.cells (madeCells #[.int .i64 0] (n + 1)) 3)) := ((Below.refl _ _).alloc (Nat.le_refl _) _).alloc (by simp) _
      have hM := MW.new (g := g) H.out.1 H.out.2.1 n long hb2 wr.heap.size (wr.heap.size + 1) (Nat.le_refl _) (by omega) ((World.rowIs_made wr (.slice none 0 0) (n + 1) 29).alloc _) (by have := World.rowIs_made (wr.alloc (.cells (madeCells #[.slice none 0 0] (n + 1)) 29)) (.int .i64 0) (n + 1) 3; simpa using this)
      have HM := Lib.hid hM
      clear hM hb2 hm1 hm2 H k1 hkn hk1 hk2
      generalize K.upd (K.upd σ wr.heap.size 2) (wr.heap.size + 1) 3 = σ3 at HM
      generalize (wr.alloc (.cells (madeCells #[.slice none 0 0] (n + 1)) 29)).alloc (.cells (madeCells #[.int .i64 0] (n + 1)) 3) = wq at HM ⊢
      obtain ⟨go, hgo⟩ : ∃ x, wr.heap.size + 1 = x := ⟨_, rfl⟩
      rw [hgo] at HM
      try rw [hgo]
      clear hgo
      generalize wr.heap.size = gi at HM ⊢
      go_wp2_with fail
      go_loopw [12] (fun i wx => ∃ (k : Nat) (σ : Nat → Nat) (N : NS) (vi : Nat → Value) (a b h : Nat → Nat), k ≤ 70 ∧ i = .int .i64 k ∧ MW w g gi go wx σ N n long vi a b ∧ Inv N n long k n a b h) (fun i _ => 70 - (intOf i).toNat)
      case atStart => exact ⟨0, σ3, N, _, _, _, _, Nat.zero_le _, rfl, HM.out, HI.out⟩
      case round =>
        clear HM HI
        obtain ⟨k, σ, N, vi, a, b, h, hk70, rfl, hM, hI⟩ := hrel
        have HMI := Lib.hid (And.intro hM hI)
        clear hM hI
        by_cases hk : k < 70
        · have k1 : (k : Int) < 70 := by omega
          go_wp2_with fail
          go_loopw [13] (fun i wy => ∃ (c : Nat) (σ : Nat → Nat) (N : NS) (vi : Nat → Value) (a b h : Nat → Nat), c ≤ n ∧ i = .int .i64 c ∧ MW w g gi go wy σ N n long vi a b ∧ Inv N n long k c a b h) (fun i _ => (intOf i).toNat)
          case atStart => exact ⟨n, σ, N, vi, a, b, h, Nat.le_refl _, rfl, HMI.out.1, HMI.out.2⟩
          case round =>
            clear HMI
            clear σ N vi a b h
            obtain ⟨c, σ, N, vi, a, b, h, hcn, rfl, hM, hI⟩ := hrel
            have HMI := Lib.hid (And.intro hM hI)
            clear hM hI
            by_cases hc1 : 1 ≤ c
            · have c1 : (1 : Int) ≤ (c : Int) := by omega
              have hbd := HMI.out.2.bd c hc1 hcn
              have hsm := HMI.out.2.small hn2 (show long ≤ 60 by omega)
              obtain ⟨kk, ww, ff, e1, e2, e3, r1, r2, r3, r4, r5, r6, r7, r8, R⟩ := round_ N HMI.out.2.i HMI.out.2.o c ⟨hc1, by omega⟩ (byt c long) (byt (c + 100) long) (a c) (b c) (h c) p (HMI.out.2.cs c hc1 hcn) (by rw [byt_length]; omega) (by omega) (by rw [byt_length]; omega) (by omega)
              rw [byt_length] at e1 e2
              have HI4 := Lib.hid (HMI.out.2.step' hc1 hcn hp1 R e1 e2 e3)
              have q16 := bring_c wr σ 1000 g N HMI.out.1.net (by omega) (c : Int) (p : Int) (wf_c (by omega))
              rw [r1, r2] at q16
              have q24 := fun W σ' (hN : NetAt W σ' 1000 g (N.bring c p).2.2) => take_n W σ' 1000 g _ hN (c : Int) (wf_c (by omega))
              simp only [r3, r4] at q24
              have htl : ((byt c long).drop (a c) |>.take kk).length = kk := by rw [List.length_take, List.length_drop, byt_length]; omega
              simp only [htl] at q24
              have q21 := fun W σ' (hN : NetAt W σ' 1000 g ((N.bring c p).2.2.take c).2.2) A n' cp (hl : n' = long - b c) (hr : Reads W A (bs ((byt (c + 100) long).drop (b c)))) (hcp : n' ≤ cp) => write_c W σ' 1000 g _ hN (c : Int) (wf_c (by omega)) A n' cp ((byt (c + 100) long).drop (b c)) (by rw [List.length_drop, byt_length, hl]) (by omega) hcp hr
              simp only [r5, r6] at q21
              have hmv3 : ((((N.bring c p).2.2.take c).2.2.write c ((byt (c + 100) long).drop (b c))).2.2).mv ≤ 1099511627776 := by
                have h1 := (bring_nat (NetAt.good HMI.out.1.net) (c : Int) (p : Int))
                have := R.mv
                have h8 := HI4.out.small hn2 (show long ≤ 60 by omega)
                have h9 : ((((N.bring c p).2.2.take c).2.2.write c ((byt (c + 100) long).drop (b c))).2.2).mv ≤ (((((N.bring c p).2.2.take c).2.2.write c ((byt (c + 100) long).drop (b c))).2.2).fetch c p).2.2.mv := by
                  generalize (((N.bring c p).2.2.take c).2.2.write c ((byt (c + 100) long).drop (b c))).2.2 = M
                  unfold NS.fetch
                  split
                  · split
                    · exact Int.le_refl _
                    · show M.mv ≤ M.mv + _
                      omega
                  · exact Int.le_refl _
                omega
              have q23 := fun W σ' (hN : NetAt W σ' 1000 g (((N.bring c p).2.2.take c).2.2.write c ((byt (c + 100) long).drop (b c))).2.2) => fetch_c W σ' 1000 g _ hN hmv3 (c : Int) (p : Int) (wf_c (by omega))
              simp only [r7, r8] at q23
              have hjoin : bs ((byt c long).take (a c)) ++ bs ((byt c long |>.drop (a c)).take kk) = bs ((byt c long).take (a c + kk)) := by rw [← bs_append, List.take_add]
              have Q16 := Lib.hid q16
              have Q24 := Lib.hid q24
              have Q21 := Lib.hid q21
              have Q23 := Lib.hid q23
              have HJ := Lib.hid hjoin
              have HT := Lib.hid htl
              have HL := Lib.hid (And.intro hbd (And.intro e1 e2))
              generalize ((((N.bring c p).2.2.take c).2.2.write c ((byt (c + 100) long).drop (b c))).2.2.fetch c p).2.2 = N4 at Q23 HI4
              generalize (((N.bring c p).2.2.take c).2.2.write c ((byt (c + 100) long).drop (b c))).2.2 = N3 at Q23 Q21
              generalize ((N.bring c p).2.2.take c).2.2 = N2 at Q21 Q24
              generalize (N.bring c p).2.2 = N1' at Q24 Q16
              clear q16 q24 q21 q23 hjoin htl hmv3 r1 r2 r3 r4 r5 r6 r7 r8 R e1 e2 e3 hsm hbd
              go_wp2_with fail
              refine Q16.out.mono ?_
              rintro e w2 ⟨rfl, σ2, h2, c2⟩
              have H2 := Lib.hid (HMI.out.1.call h2 c2 hn2)
              clear h2 c2 Q16 HMI
              go_wp2_with fail
              refine (Q24.out w2 σ2 H2.out.net).mono ?_
              rintro e w3 ⟨v, rfl, σ3', h3, c3, hrow, hfar⟩
              obtain ⟨Av, cv, rfl⟩ := hrow.slice
              have H3 := Lib.hid (And.intro (H2.out.call h3 c3 hn2) (Reads.of_row hrow.1))
              clear h3 c3 hrow hfar Q24 H2
              obtain ⟨Ai, ci, hvi⟩ := (H3.out.1.rows c hc1 hcn).slice
              have x0 : w3.cell? ⟨gi, c, none⟩ = some (.slice Ai (a c) ci) := by rw [H3.out.1.ri.cell (by omega), hvi]
              have x2 : (c : Int) < (n : Int) + 1 := by omega
              have x3 : (0 : Int) ≤ (c : Int) := by omega
              have x4 : (c : Int) < ((n + 1 : Nat) : Int) := by omega
              obtain ⟨i1, hi1, hy0, hy1, hy2⟩ := info_parts info5'
              have hac : a c ≤ 60 := by have := HL.out.1.1; omega
              have hkk : kk ≤ 60 := by have := HL.out.2.1; omega
              go_wp2_with (at_builtin; refine wpList_append_reads (by rfl) _ _ 29 (by rfl) 0 5 i1 _ 1 1 Try.underlying29 hi1 hy0 hy1 hy2 rfl (by omega) (.slice Ai (a c) ci) (a c) (bs ((byt c long).take (a c))) (by rfl) ?c0 Av kk cv (bs ((byt c long |>.drop (a c)).take kk)) (by rfl) ?c1 ?c2 (bs_one _) ?c4 ?c5 (Nat.zero_le _) ?_)
              case c0 => have := (H3.out.1.rows c hc1 hcn).1; rw [hvi] at this; exact this
              case c1 => rw [bs_length, HT.out, Nat.mul_one]
              case c2 => exact H3.out.2
              case c4 => unfold maxLen; omega
              case c5 => omega
              intro v' w5 hown hgrow hat
              obtain ⟨Av', cv', rfl⟩ := own_slice hown
              have cg := row_chgd (ys := []) (m := 0) (H3.out.1.rows c hc1 hcn) (by rw [hvi]; exact hgrow)
              have ri5 := rowc H3.out.1.ri cg (by rw [H3.out.1.ti]; omega)
              have x5 : w5.cell? ⟨gi, c, none⟩ = some (.slice Ai (a c) ci) := by rw [ri5.cell (by omega), hvi]
              have x6 : w5.frozen? ⟨gi, c, none⟩ = false := ri5.frozen c
              have H6 := Lib.hid (H3.out.1.took ⟨hc1, hcn⟩ HJ.out hown (by rw [hvi]; exact hgrow) (by rw [hvi]; exact hat))
              have hbc : b c ≤ long := HL.out.1.2.2.1
              clear hown hgrow hat cg ri5 x0 hi1 hy0 hy1 hy2 HJ HT hvi H3
              go_upto_region 25 with fail
              clear x5 x6
              generalize w5.setCell ⟨gi, c, none⟩ (.slice Av' (a c + kk) cv') = w6 at H6 ⊢
              generalize K.upd σ3' w3.heap.size (2000 + c) = σ6 at H6
              generalize (fun d => if d = c then Value.slice Av' (a c + kk) cv' else vi d) = vi' at H6
              generalize hbcv : b c = bc at hbc Q21 HI4
              have yy : ∀ W, Below w6.heap.size w6 W → W.cell? ⟨go, c, none⟩ = some (.int .i64 (bc : Int)) := fun W hb => by rw [(H6.out.below hb).ro.cell (by omega), hbcv]
              have hby : ∀ W, Below w6.heap.size w6 W → Calls Try.prog 28 #[.int .i64 ((c : Int) + 100), .int .i64 long] W fun e w' => ∃ Av cv, e = .returned (.slice Av long cv) ∧ long ≤ cv ∧ Below w6.heap.size w6 w' ∧ Reads w' Av (bs (byt (c + 100) long)) := fun W hb => by
                have := bytes_c W (c + 100) long (by omega) (by omega)
                rw [Int.natCast_add] at this
                exact this.mono (fun e w' ⟨v, he, hb', ho⟩ => by
                  obtain ⟨Av, cv, rfl⟩ := own_slice ho
                  exact ⟨Av, cv, he, own_cap ho, Below.then_ hb hb.size hb', Reads.of_row ho⟩)
              have hwr : ∀ W Ab cb, Below w6.heap.size w6 W → long ≤ cb → Reads W Ab (bs (byt (c + 100) long)) → Calls Try.prog 21 #[.pointer (some ⟨g, 0, none⟩), .int .i64 c, .slice (if cb = bc then Ab else Ab.map (·.add bc)) (long - bc) (cb - bc)] W fun e w' => e = .returned (.tuple #[.int .i64 ww, .int .i64 0]) ∧ ∃ σ', NetAt w' σ' 1000 g N3 ∧ Chg (Of 1000) σ6 w6 σ' w' := fun W Ab cb hb hcb hr => by
                refine (Q21.out W σ6 (H6.out.below hb).net _ _ _ rfl ?_ (by omega)).mono (fun e w' ⟨he, σ', h', c'⟩ => ⟨he, σ', h', (Chg.of_below _ _ hb).trans c'⟩)
                by_cases e : cb = bc
                · rw [if_pos e, show (byt (c + 100) long).drop bc = [] from List.drop_eq_nil_of_le (by rw [byt_length]; omega)]
                  exact Reads.nil _ _
                · rw [if_neg e, bs_drop]
                  exact hr.drop bc
              have HBY := Lib.hid hby
              have HWR := Lib.hid hwr
              have YY := Lib.hid yy
              have y0 := yy w6 (Below.refl _ _)
              have HDR : Hid (Below w6.heap.size w6 w6.drew) := Lib.hid (Below.refl _ _).drew
              have hw100 : IntKind.i64.wrap ((c : Int) + 100) = (c : Int) + 100 := by rw [IntKind.wrap_i64]; omega
              have z0 : (0 : Int) ≤ (bc : Int) := by omega
              have z1 : (bc : Int) ≤ (long : Int) := by omega
              have Hbcv := Lib.hid hbcv
              clear hby hwr yy hbcv Q21
              go_cut [16, 17] (fun q1 q2 w' => q1 = .int .i64 ww ∧ q2 = .int .i64 0 ∧ ∃ σ', NetAt w' σ' 1000 g N3 ∧ Chg (Of 1000) σ6 w6 σ' w')
              case first =>
                go_region_law (first
                  | (rw [if_pos (by rfl)]; go_simp; (try rw [hw100]); go_at_call 28; refine (HBY.out _ (by first | exact HDR.out | exact Below.refl _ _)).mono ?_; rintro e w7 ⟨Ab, cb, rfl, hcb, hb7, hr7⟩; have y7 := YY.out w7 hb7; have z2 : (bc : Int) ≤ (cb : Int) := by omega)
                  | (rw [if_pos (by rfl)]; go_simp; go_at_call 21; refine (HWR.out _ _ _ hb7 hcb hr7).mono ?_; rintro e w8 ⟨rfl, σ8, h8, c8⟩)
                  | fail)
                all_goals
                  go_wp2_with fail
                all_goals
                  go_meet
                  case rel => exact ⟨rfl, rfl, σ8, h8, c8⟩
              case rest =>
                rename World => w8
                obtain ⟨rfl, rfl, σ8, h8, c8⟩ := hcut
                have H8 := Lib.hid (H6.out.call h8 c8 hn2)
                have y8 : w8.cell? ⟨go, c, none⟩ = some (.int .i64 (bc : Int)) := by rw [H8.out.ro.cell (by omega), Hbcv.out]
                have f8 : w8.frozen? ⟨go, c, none⟩ = false := H8.out.ro.frozen c
                have H9 := H8.out.wrote c (bc + ww)
                rw [Int.natCast_add] at H9
                have H9' := Lib.hid H9
                have hww : ww ≤ 60 := by have := HL.out.2.2; omega
                clear H9 h8 c8 H6 HBY HWR YY HDR y0 hw100
                go_upto_region 29 with fail
                generalize w8.setCell ⟨go, c, none⟩ (.int .i64 ((bc : Int) + (ww : Int))) = w9 at H9' ⊢
                clear y8 f8
                go_wp2_with fail
                refine (Q23.out w9 σ8 H9'.out.net).mono ?_
                rintro e w10 ⟨rfl, σ10, h10, c10⟩
                have H10 := Lib.hid (H9'.out.call h10 c10 hn2)
                have hcm : (c : Int) - 1 = ((c - 1 : Nat) : Int) := by omega
                have Hcm := Lib.hid hcm
                clear h10 c10 H9' H8 Q23 HL hcm
                go_wp2_with fail
                go_roundw
                case rel => exact ⟨c - 1, σ10, N4, vi', _, _, _, by omega, by rw [← Hcm.out], H10.out, HI4.out⟩
                case measure => simp [intOf]; omega
            · have c1 : ¬ (1 : Int) ≤ (c : Int) := by omega
              have hc0 : c = 0 := by omega
              have HI0 := Lib.hid (show Inv N n long (k + 1) n a b h from by have := HMI.out.2; rw [hc0] at this; exact this.next)
              clear hc0
              go_wp2_with fail
              go_roundw
              case rel => exact ⟨k + 1, σ, N, vi, a, b, h, by omega, by go_num, HMI.out.1, HI0.out⟩
              case measure => simp [intOf]; omega
        · have k1 : ¬ (k : Int) < 70 := by omega
          have hdone := fun c (h1 : 1 ≤ c) (h2 : c ≤ n) => HMI.out.2.done (show long ≤ k by omega) c h1 h2
          have hmoved := HMI.out.2.moved (show long ≤ k by omega)
          have hcs := fun c (h1 : 1 ≤ c) (h2 : c ≤ n) => HMI.out.2.cs c h1 h2
          have hsm := HMI.out.2.small hn2 (show long ≤ 60 by omega)
          have HD := Lib.hid (And.intro hdone (And.intro hmoved (And.intro hcs hsm)))
          have HMW := Lib.hid HMI.out.1
          clear hdone hmoved hcs hsm HMI
          generalize wr = wq at HMW ⊢
          go_wp2_with fail
          go_loopw [18] (fun i wr => ∃ c : Nat, 1 ≤ c ∧ c ≤ n + 1 ∧ i = .int .i64 c ∧ Below wq.heap.size wq wr) (fun i _ => n + 1 - (intOf i).toNat)
          case atStart => exact ⟨1, Nat.le_refl _, by omega, rfl, Below.refl _ _⟩
          case round =>
            obtain ⟨c, hc1, hc2, rfl, hbz⟩ := hrel
            have HB := Lib.hid hbz
            clear hbz
            by_cases hcn : c ≤ n
            · have k2 : (c : Int) ≤ (n : Int) := by omega
              obtain ⟨da, db, dh⟩ := HD.out.1 c hc1 hcn
              have hC := HD.out.2.2.1 c hc1 hcn
              rw [da, db, dh] at hC
              have hhd : N.heard_ (c : Int) = (byt (c + 100) long, false) := by
                unfold NS.heard_
                rw [if_pos (err_live ⟨hc1, by omega⟩ hC rfl rfl _), Int.toNat_natCast, hC]
                have ht : (byt (c + 100) long).take long = byt (c + 100) long := List.take_of_length_le (by rw [byt_length]; exact Nat.le_refl _)
                simp [cnv, ht]
              have qh := fun W (hb : Below wq.heap.size wq W) => heard_c W σ 1000 g N (HMW.out.below hb).net (by have := HD.out.2.2.2; omega) (c : Int) (wf_c (by omega))
              simp only [hhd, byt_length] at qh
              have hrw := HMW.out.rows c hc1 hcn
              rw [da, List.take_of_length_le (show (byt c long).length ≤ long by rw [byt_length]; exact Nat.le_refl _)] at hrw
              obtain ⟨Ai, ci, hvi⟩ := hrw.slice
              rw [hvi] at hrw
              have hin : ∀ W, Below wq.heap.size wq W → W.cell? ⟨gi, c, none⟩ = some (.slice Ai long ci) := fun W hb => by rw [(HMW.out.below hb).ri.cell (by omega), hvi]
              have hcvA : ∀ W, Below wq.heap.size wq W → (convert 29 9 (.slice Ai long ci)).run Try.prog W = .ok (.string (str (byt c long))) W := fun W hb => conv_reads (byt_length _ _) ((Reads.of_row hrw.1).below hb)
              have hby : ∀ (z : Int), 0 ≤ z → z ≤ 200 → ∀ W, Below wq.heap.size wq W → Calls Try.prog 28 #[.int .i64 z, .int .i64 long] W fun e w' => ∃ Av cv, e = .returned (.slice Av long cv) ∧ Below wq.heap.size wq w' ∧ Below W.heap.size W w' ∧ (convert 29 9 (.slice Av long cv)).run Try.prog w' = .ok (.string (str (byt z.toNat long))) w' := fun z z0 z1 W hb => by
                have := bytes_c W z.toNat long (by omega) (by omega)
                rw [Int.toNat_of_nonneg z0] at this
                exact this.mono (fun e w' ⟨v, he, hb', ho⟩ => by
                  obtain ⟨Av, cv, rfl⟩ := own_slice ho
                  exact ⟨Av, cv, he, Below.then_ hb hb.size hb', hb', conv_reads (byt_length _ _) (Reads.of_row ho)⟩)
              have Qh := Lib.hid qh
              have Hin := Lib.hid hin
              have HcvA := Lib.hid hcvA
              have Hby := Lib.hid hby
              clear da db dh hC hhd qh hrw hvi hin hcvA hby
              go_wp2_with fail
              refine (Qh.out wr HB.out).mono ?_
              rintro e w11 ⟨v, rfl, hb11, ho11⟩
              obtain ⟨Ah, ch, rfl⟩ := own_slice ho11
              have hcvH : ∀ W, Below w11.heap.size w11 W → (convert 29 9 (.slice Ah long ch)).run Try.prog W = .ok (.string (str (byt (c + 100) long))) W := fun W hb => conv_reads (byt_length _ _) ((Reads.of_row ho11).below hb)
              have HcvH := Lib.hid hcvH
              have HB11 := Lib.hid (Below.then_ HB.out HB.out.size hb11)
              clear hb11 ho11 hcvH Qh HB
              have x0 := Hin.out w11 HB11.out
              have x3 : (0 : Int) ≤ (c : Int) := by omega
              have x4 : (c : Int) < (n : Int) + 1 := by omega
              have t1 : ((c : Int)).toNat = c := by omega
              have t2 : ((c : Int) + 100).toNat = c + 100 := by omega
              have hw100 : IntKind.i64.wrap ((c : Int) + 100) = (c : Int) + 100 := by rw [IntKind.wrap_i64]; omega
              have Ht12 := Lib.hid (And.intro t1 t2)
              have KS : Hid (∀ W, Below w11.heap.size w11 W → W.cell? ⟨gi, c, none⟩ = some (.slice Ai long ci) ∧ (convert 29 9 (.slice Ai long ci)).run Try.prog W = .ok (.string (str (byt c long))) W ∧ (convert 29 9 (.slice Ah long ch)).run Try.prog W = .ok (.string (str (byt (c + 100) long))) W) := Lib.hid (fun W hb => ⟨Hin.out W (Below.then_ HB11.out HB11.out.size hb), HcvA.out W (Below.then_ HB11.out HB11.out.size hb), HcvH.out W hb⟩)
              have HDR : Hid (Below w11.heap.size w11 w11.drew) := Lib.hid (Below.refl _ _).drew
              have hcc : c ≤ 64 := by omega
              have HY : Hid (∀ (z : Int), 0 ≤ z → z ≤ 200 → ∀ W, Below w11.heap.size w11 W → Calls Try.prog 28 #[.int .i64 z, .int .i64 long] W fun e w' => ∃ Av cv, e = .returned (.slice Av long cv) ∧ Below w11.heap.size w11 w' ∧ (convert 29 9 (.slice Av long cv)).run Try.prog w' = .ok (.string (str (byt z.toNat long))) w') := Lib.hid (fun z z0 z1 W hb => (Hby.out z z0 z1 W (Below.then_ HB11.out HB11.out.size hb)).mono (fun e w' ⟨Av, cv, he, _, hb', hcv⟩ => ⟨Av, cv, he, Below.then_ hb hb.size hb', hcv⟩))
              clear t2
              go_upto_region 34 with fail
              go_cut [159] (fun z w' => z = .bool false ∧ Below w11.heap.size w11 w')
              case first =>
                clear HD HMW Hin HcvA Hby HcvH HB11
                refine wp_region_held_drew (S := (fun w' => w'.cell? ⟨gi, c, none⟩ = some (.slice Ai long ci) ∧ (convert 29 9 (.slice Ai long ci)).run Try.prog w' = .ok (.string (str (byt c long))) w' ∧ (convert 29 9 (.slice Ah long ch)).run Try.prog w' = .ok (.string (str (byt (c + 100) long))) w')) (by kernel_rfl) (KS.out _ HDR.out) (fun hHeld => ?_)
                refine wpAnyH_take (i := 0) (v := ?_) rfl (by kernel_rfl) (by kernel_rfl) (by kernel_rfl) (fun _ _ _ h => h) (Or.inl ⟨by rfl, ?_⟩) (by assumption) ?_
                rotate_left 1
                · intro w hSw
                  (try dsimp only at hSw)
                  (try simp only [List.getElem_toArray, List.getElem_cons_zero, List.getElem_cons_succ])
                  go_simp
                  try with_reducible rfl
                (try simp only [Act.put, List.setIfInBounds_toArray, List.set_cons_zero, List.set_cons_succ, List.getElem_toArray, List.getElem_cons_zero, List.getElem_cons_succ])
                refine wpAnyH_take (i := 1) (v := ?_) rfl (by kernel_rfl) (by kernel_rfl) (by kernel_rfl) (fun _ _ _ h => h) (Or.inl ⟨by rfl, ?_⟩) (by assumption) ?_
                rotate_left 1
                · intro w hSw
                  (try dsimp only at hSw)
                  (try simp only [List.getElem_toArray, List.getElem_cons_zero, List.getElem_cons_succ])
                  go_simp
                  try with_reducible rfl
                (try simp only [Act.put, List.setIfInBounds_toArray, List.set_cons_zero, List.set_cons_succ, List.getElem_toArray, List.getElem_cons_zero, List.getElem_cons_succ])
                refine wpAnyH_take (i := 2) (v := ?_) rfl (by kernel_rfl) (by kernel_rfl) (by kernel_rfl) (fun _ _ _ h => h) (Or.inl ⟨by rfl, ?_⟩) (by assumption) ?_
                rotate_left 1
                · intro w hSw
                  (try dsimp only at hSw)
                  (try simp only [List.getElem_toArray, List.getElem_cons_zero, List.getElem_cons_succ])
                  go_simp
                  try with_reducible rfl
                (try simp only [Act.put, List.setIfInBounds_toArray, List.set_cons_zero, List.set_cons_succ, List.getElem_toArray, List.getElem_cons_zero, List.getElem_cons_succ])
                refine wpAnyH_take (i := 3) (v := ?_) rfl (by kernel_rfl) (by kernel_rfl) (by kernel_rfl) (fun _ _ _ h => h) (Or.inl ⟨by rfl, ?_⟩) (by assumption) ?_
                rotate_left 1
                · intro w hSw
                  (try dsimp only at hSw)
                  (try simp only [List.getElem_toArray, List.getElem_cons_zero, List.getElem_cons_succ])
                  go_simp
                  try with_reducible rfl
                (try simp only [Act.put, List.setIfInBounds_toArray, List.set_cons_zero, List.set_cons_succ, List.getElem_toArray, List.getElem_cons_zero, List.getElem_cons_succ])
                refine wpAnyH_take (i := 4) (v := ?_) rfl (by kernel_rfl) (by kernel_rfl) (by kernel_rfl) (fun _ _ _ h => h) (Or.inl ⟨by rfl, ?_⟩) (by assumption) ?_
                rotate_left 1
                · intro w hSw
                  (try dsimp only at hSw)
                  (try simp only [List.getElem_toArray, List.getElem_cons_zero, List.getElem_cons_succ])
                  go_simp
                  try with_reducible rfl
                (try simp only [Act.put, List.setIfInBounds_toArray, List.set_cons_zero, List.set_cons_succ, List.getElem_toArray, List.getElem_cons_zero, List.getElem_cons_succ])
                refine wpAnyH_take (i := 5) (v := ?_) rfl (by kernel_rfl) (by kernel_rfl) (by kernel_rfl) (fun _ _ _ h => h) (Or.inl ⟨by rfl, ?_⟩) (by assumption) ?_
                rotate_left 1
                · intro w hSw
                  (try dsimp only at hSw)
                  (try simp only [List.getElem_toArray, List.getElem_cons_zero, List.getElem_cons_succ])
                  go_simp
                  try with_reducible rfl
                (try simp only [Act.put, List.setIfInBounds_toArray, List.set_cons_zero, List.set_cons_succ, List.getElem_toArray, List.getElem_cons_zero, List.getElem_cons_succ])
                refine wpAnyH_take (i := 6) (v := ?_) rfl (by kernel_rfl) (by kernel_rfl) (by kernel_rfl) (fun _ _ _ h => h) (Or.inl ⟨by rfl, ?_⟩) (by assumption) ?_
                rotate_left 1
                · intro w hSw
                  (try dsimp only at hSw)
                  (try simp only [List.getElem_toArray, List.getElem_cons_zero, List.getElem_cons_succ])
                  go_simp
                  try with_reducible rfl
                (try simp only [Act.put, List.setIfInBounds_toArray, List.set_cons_zero, List.set_cons_succ, List.getElem_toArray, List.getElem_cons_zero, List.getElem_cons_succ])
                refine wpAnyH_ready (rs := [7]) (by kernel_rfl) (by simp) ?_
                refine AllReadyH.cons rfl (fun K hK => ?_) AllReadyH.nil
                (try simp only [List.getElem_toArray, List.getElem_cons_zero, List.getElem_cons_succ])
                rw [if_pos (by rfl)]
                go_simp
                go_at_call 28
                refine (HY.out _ (by first | omega | (rw [hw100]; omega)) (by first | omega | (rw [hw100]; omega)) _ (by first | assumption | exact HDR.out)).mono ?_
                rintro e w12 ⟨Ab, cb, rfl, hb12, hcv⟩
                (try simp only [hw100, Ht12.out.1, Ht12.out.2] at hcv)
                go_wp2_with fail
                refine hK.out _ _ (KS.out _ (by first | assumption | exact HDR.out)) (fun hHeld => ?_)
                clear hK K
                (try simp only [Act.put, List.setIfInBounds_toArray, List.set_cons_zero, List.set_cons_succ, List.getElem_toArray, List.getElem_cons_zero, List.getElem_cons_succ])
                refine wpAnyH_ready (rs := [8]) (by kernel_rfl) (by simp) ?_
                refine AllReadyH.cons rfl (fun K hK => ?_) AllReadyH.nil
                (try simp only [List.getElem_toArray, List.getElem_cons_zero, List.getElem_cons_succ])
                rw [if_pos (by rfl)]
                go_simp
                refine hK.out _ _ (KS.out _ (by first | assumption | exact HDR.out)) (fun hHeld => ?_)
                clear hK K
                (try simp only [Act.put, List.setIfInBounds_toArray, List.set_cons_zero, List.set_cons_succ, List.getElem_toArray, List.getElem_cons_zero, List.getElem_cons_succ])
                refine wpAnyH_take (i := 9) (v := ?_) rfl (by kernel_rfl) (by kernel_rfl) (by kernel_rfl) (fun _ _ _ h => h) (Or.inl ⟨by rfl, ?_⟩) (by assumption) ?_
                rotate_left 1
                · intro w hSw
                  (try dsimp only at hSw)
                  (try simp only [List.getElem_toArray, List.getElem_cons_zero, List.getElem_cons_succ])
                  go_simp
                  try with_reducible rfl
                (try simp only [Act.put, List.setIfInBounds_toArray, List.set_cons_zero, List.set_cons_succ, List.getElem_toArray, List.getElem_cons_zero, List.getElem_cons_succ])
                refine wpAnyH_take (i := 10) (v := ?_) rfl (by kernel_rfl) (by kernel_rfl) (by kernel_rfl) (fun _ _ _ h => h) (Or.inl ⟨by rfl, ?_⟩) (by assumption) ?_
                rotate_left 1
                · intro w hSw
                  (try dsimp only at hSw)
                  (try simp only [List.getElem_toArray, List.getElem_cons_zero, List.getElem_cons_succ])
                  go_simp
                  try with_reducible rfl
                (try simp only [Act.put, List.setIfInBounds_toArray, List.set_cons_zero, List.set_cons_succ, List.getElem_toArray, List.getElem_cons_zero, List.getElem_cons_succ])
                refine wpAnyH_take (i := 11) (v := ?_) rfl (by kernel_rfl) (by kernel_rfl) (by kernel_rfl) (fun _ _ _ h => h) (Or.inl ⟨by rfl, ?_⟩) (by assumption) ?_
                rotate_left 1
                · intro w hSw
                  (try dsimp only at hSw)
                  (try simp only [List.getElem_toArray, List.getElem_cons_zero, List.getElem_cons_succ])
                  go_simp
                  try with_reducible rfl
                (try simp only [Act.put, List.setIfInBounds_toArray, List.set_cons_zero, List.set_cons_succ, List.getElem_toArray, List.getElem_cons_zero, List.getElem_cons_succ])
                refine wpAnyH_take (i := 12) (v := ?_) rfl (by kernel_rfl) (by kernel_rfl) (by kernel_rfl) (fun _ _ _ h => h) (Or.inl ⟨by rfl, ?_⟩) (by assumption) ?_
                rotate_left 1
                · intro w hSw
                  (try dsimp only at hSw)
                  (try simp only [List.getElem_toArray, List.getElem_cons_zero, List.getElem_cons_succ])
                  go_simp
                  try with_reducible rfl
                (try simp only [Act.put, List.setIfInBounds_toArray, List.set_cons_zero, List.set_cons_succ, List.getElem_toArray, List.getElem_cons_zero, List.getElem_cons_succ])
                refine wpAnyH_take (i := 13) (v := ?_) rfl (by kernel_rfl) (by kernel_rfl) (by kernel_rfl) (fun _ _ _ h => h) (Or.inl ⟨by rfl, ?_⟩) (by assumption) ?_
                rotate_left 1
                · intro w hSw
                  (try dsimp only at hSw)
                  (try simp only [List.getElem_toArray, List.getElem_cons_zero, List.getElem_cons_succ])
                  go_simp
                  try with_reducible rfl
                (try simp only [Act.put, List.setIfInBounds_toArray, List.set_cons_zero, List.set_cons_succ, List.getElem_toArray, List.getElem_cons_zero, List.getElem_cons_succ])
                refine wpAnyH_take (i := 14) (v := ?_) rfl (by kernel_rfl) (by kernel_rfl) (by kernel_rfl) (fun _ _ _ h => h) (Or.inl ⟨by rfl, ?_⟩) (by assumption) ?_
                rotate_left 1
                · intro w hSw
                  (try dsimp only at hSw)
                  (try simp only [List.getElem_toArray, List.getElem_cons_zero, List.getElem_cons_succ])
                  go_simp
                  try with_reducible rfl
                (try simp only [Act.put, List.setIfInBounds_toArray, List.set_cons_zero, List.set_cons_succ, List.getElem_toArray, List.getElem_cons_zero, List.getElem_cons_succ])
                refine wpAnyH_take (i := 15) (v := ?_) rfl (by kernel_rfl) (by kernel_rfl) (by kernel_rfl) (fun _ _ _ h => h) (Or.inl ⟨by rfl, ?_⟩) (by assumption) ?_
                rotate_left 1
                · intro w hSw
                  (try dsimp only at hSw)
                  (try simp only [List.getElem_toArray, List.getElem_cons_zero, List.getElem_cons_succ])
                  go_simp
                  try with_reducible rfl
                (try simp only [Act.put, List.setIfInBounds_toArray, List.set_cons_zero, List.set_cons_succ, List.getElem_toArray, List.getElem_cons_zero, List.getElem_cons_succ])
                refine wpAnyH_ready (rs := [16]) (by kernel_rfl) (by simp) ?_
                refine AllReadyH.cons rfl (fun K hK => ?_) AllReadyH.nil
                (try simp only [List.getElem_toArray, List.getElem_cons_zero, List.getElem_cons_succ])
                rw [if_pos (by rfl)]
                go_simp
                go_at_call 28
                refine (HY.out _ (by first | omega | (rw [hw100]; omega)) (by first | omega | (rw [hw100]; omega)) _ (by first | assumption | exact HDR.out)).mono ?_
                rintro e w12 ⟨Ab, cb, rfl, hb12, hcv⟩
                (try simp only [hw100, Ht12.out.1, Ht12.out.2] at hcv)
                go_wp2_with fail
                refine hK.out _ _ (KS.out _ (by first | assumption | exact HDR.out)) (fun hHeld => ?_)
                clear hK K
                (try simp only [Act.put, List.setIfInBounds_toArray, List.set_cons_zero, List.set_cons_succ, List.getElem_toArray, List.getElem_cons_zero, List.getElem_cons_succ])
                refine wpAnyH_ready (rs := [17]) (by kernel_rfl) (by simp) ?_
                refine AllReadyH.cons rfl (fun K hK => ?_) AllReadyH.nil
                (try simp only [List.getElem_toArray, List.getElem_cons_zero, List.getElem_cons_succ])
                rw [if_pos (by rfl)]
                go_simp
                refine hK.out _ _ (KS.out _ (by first | assumption | exact HDR.out)) (fun hHeld => ?_)
                clear hK K
                (try simp only [Act.put, List.setIfInBounds_toArray, List.set_cons_zero, List.set_cons_succ, List.getElem_toArray, List.getElem_cons_zero, List.getElem_cons_succ])
                refine wpAnyH_take (i := 18) (v := ?_) rfl (by kernel_rfl) (by kernel_rfl) (by kernel_rfl) (fun _ _ _ h => h) (Or.inl ⟨by rfl, ?_⟩) (by assumption) ?_
                rotate_left 1
                · intro w hSw
                  (try dsimp only at hSw)
                  (try simp only [List.getElem_toArray, List.getElem_cons_zero, List.getElem_cons_succ])
                  go_simp
                  try with_reducible rfl
                (try simp only [Act.put, List.setIfInBounds_toArray, List.set_cons_zero, List.set_cons_succ, List.getElem_toArray, List.getElem_cons_zero, List.getElem_cons_succ])
                refine wpAnyH_take (i := 19) (v := ?_) rfl (by kernel_rfl) (by kernel_rfl) (by kernel_rfl) (fun _ _ _ h => h) (Or.inl ⟨by rfl, ?_⟩) (by assumption) ?_
                rotate_left 1
                · intro w hSw
                  (try dsimp only at hSw)
                  (try simp only [List.getElem_toArray, List.getElem_cons_zero, List.getElem_cons_succ])
                  go_simp
                  try with_reducible rfl
                (try simp only [Act.put, List.setIfInBounds_toArray, List.set_cons_zero, List.set_cons_succ, List.getElem_toArray, List.getElem_cons_zero, List.getElem_cons_succ])
                refine wpAnyH_take (i := 20) (v := ?_) rfl (by kernel_rfl) (by kernel_rfl) (by kernel_rfl) (fun _ _ _ h => h) (Or.inl ⟨by rfl, ?_⟩) (by assumption) ?_
                rotate_left 1
                · intro w hSw
                  (try dsimp only at hSw)
                  (try simp only [List.getElem_toArray, List.getElem_cons_zero, List.getElem_cons_succ])
                  go_simp
                  try with_reducible rfl
                (try simp only [Act.put, List.setIfInBounds_toArray, List.set_cons_zero, List.set_cons_succ, List.getElem_toArray, List.getElem_cons_zero, List.getElem_cons_succ])
                refine wpAnyH_take (i := 21) (v := ?_) rfl (by kernel_rfl) (by kernel_rfl) (by kernel_rfl) (fun _ _ _ h => h) (Or.inl ⟨by rfl, ?_⟩) (by assumption) ?_
                rotate_left 1
                · intro w hSw
                  (try dsimp only at hSw)
                  (try simp only [List.getElem_toArray, List.getElem_cons_zero, List.getElem_cons_succ])
                  go_simp
                  try with_reducible rfl
                (try simp only [Act.put, List.setIfInBounds_toArray, List.set_cons_zero, List.set_cons_succ, List.getElem_toArray, List.getElem_cons_zero, List.getElem_cons_succ])
                refine wpAnyH_take (i := 22) (v := ?_) rfl (by kernel_rfl) (by kernel_rfl) (by kernel_rfl) (fun _ _ _ h => h) (Or.inl ⟨by rfl, ?_⟩) (by assumption) ?_
                rotate_left 1
                · intro w hSw
                  (try dsimp only at hSw)
                  (try simp only [List.getElem_toArray, List.getElem_cons_zero, List.getElem_cons_succ])
                  go_simp
                  try with_reducible rfl
                (try simp only [Act.put, List.setIfInBounds_toArray, List.set_cons_zero, List.set_cons_succ, List.getElem_toArray, List.getElem_cons_zero, List.getElem_cons_succ])
                refine wpAnyH_done (by kernel_rfl) ?_ _
                all_goals
                  go_wp2_with fail
                  go_meet
                  case rel => exact ⟨by first | rfl | simp, by assumption⟩
              case rest =>
                rename World => w15
                obtain ⟨rfl, hb15⟩ := hcut
                have HB15 := Lib.hid (Below.then_ HB11.out HB11.out.size hb15)
                clear hb15 Hin HcvA Hby HcvH KS HDR HY x0 hw100
                go_wp2_with fail
                go_roundw
                case rel => exact ⟨c + 1, by omega, by omega, by go_num, HB15.out⟩
                case measure => simp [intOf]; omega
            · have k2 : ¬ (c : Int) ≤ (n : Int) := by omega
              have HN := Lib.hid (And.intro (HMW.out.below HB.out).net (And.intro (HMW.out.below HB.out).st (And.intro HD.out.2.1 (And.intro HD.out.2.2.2 (fun c' (h1 : 1 ≤ c') (h2 : c' ≤ n) => (show ∃ C, N.cs c' = some C ∧ C.closed = false ∧ C.cut = false from ⟨_, HD.out.2.2.1 c' h1 h2, rfl, rfl⟩))))))
              clear HMW HD HB hc1 hc2 hcn
              generalize wr = wp at HN ⊢
              obtain ⟨mv, hmv⟩ : ∃ x, N.mv = x := ⟨_, rfl⟩
              have q18 := moved_c wp σ 1000 g N HN.out.1
              rw [hmv] at q18 HN
              have Q18 := Lib.hid q18
              have Hmv := Lib.hid hmv
              clear q18 hmv
              go_wp2_with fail
              refine Q18.out.mono ?_
              rintro e w16 ⟨rfl, rfl⟩
              clear Q18
              go_wp2_with fail
              go_loopw [22] (fun i wr => ∃ (c : Nat) (σ : Nat → Nat) (N : NS), 1 ≤ c ∧ c ≤ n + 1 ∧ i = .int .i64 c ∧ NetAt wr σ 1000 g N ∧ St w σ wr ∧ N.mv = mv ∧ ∀ c', c ≤ c' → c' ≤ n → ∃ C, N.cs c' = some C ∧ C.closed = false ∧ C.cut = false) (fun i _ => n + 1 - (intOf i).toNat)
              case atStart => exact ⟨1, σ, N, Nat.le_refl _, by omega, rfl, HN.out.1, HN.out.2.1, Hmv.out, fun c' h1 h2 => HN.out.2.2.2.2 c' h1 h2⟩
              case round =>
                have HV := Lib.hid (And.intro HN.out.2.2.1 HN.out.2.2.2.1)
                clear HN Hmv
                clear σ N vi a b h
                obtain ⟨c, σ, N, hc1, hc2, rfl, hN, hS, hmv, hC⟩ := hrel
                have HN := Lib.hid (And.intro hN (And.intro hS (And.intro hmv hC)))
                clear hN hS hmv hC
                by_cases hcn : c ≤ n
                · have k2 : (c : Int) ≤ (n : Int) := by omega
                  obtain ⟨C, hC, hcl, hcu⟩ := HN.out.2.2.2 c (Nat.le_refl _) hcn
                  have eC : N.close (c : Int) = (0, N.put c { C with closed := true, way := [], inb := [] }) := by
                    unfold NS.close
                    rw [if_pos (err_live ⟨hc1, by omega⟩ hC hcl hcu _), Int.toNat_natCast, hC]
                  have q29 := close_c wr σ 1000 g N HN.out.1 (c : Int) (wf_c (by omega))
                  rw [eC] at q29
                  obtain ⟨C1, hC1⟩ : ∃ x, x = ({ C with closed := true, way := [], inb := [] } : Cn) := ⟨_, rfl⟩
                  have hcu1 : C1.cut = false := by rw [hC1]; exact hcu
                  rw [← hC1] at q29
                  clear hC1 eC
                  obtain ⟨N1, hN1⟩ : ∃ x, x = N.put c C1 := ⟨_, rfl⟩
                  have hcs1 : N1.cs c = some C1 := by rw [hN1, NS.put_same]
                  have hmv1 : N1.mv = mv := by rw [hN1]; exact HN.out.2.2.1
                  have hrest1 : ∀ c', c + 1 ≤ c' → c' ≤ n → ∃ C, N1.cs c' = some C ∧ C.closed = false ∧ C.cut = false := fun c' h1 h2 => by
                    rw [hN1, NS.put_other _ _ _ _ (by omega)]
                    exact HN.out.2.2.2 c' (by omega) h2
                  rw [← hN1] at q29
                  have eK : N1.cut_ (c : Int) = (0, N1.put c { C1 with cut := true, way := [], inb := [], out := [] }) := by
                    unfold NS.cut_
                    rw [if_pos (err_there ⟨hc1, by omega⟩ hcs1), Int.toNat_natCast, hcs1]
                    simp [hcu1]
                  have eO : N1.open_ (c : Int) = (43, N1) := by
                    unfold NS.open_
                    rw [err_there ⟨hc1, by omega⟩ hcs1]
                    rfl
                  have q30 := fun W σ' (h : NetAt W σ' 1000 g N1) => cut_c W σ' 1000 g N1 h (c : Int) (wf_c (by omega))
                  have q14 := fun W σ' (h : NetAt W σ' 1000 g N1) => open_c W σ' 1000 g N1 h (c : Int) (wf_c (by omega))
                  simp only [eK] at q30
                  simp only [eO] at q14
                  obtain ⟨C2, hC2⟩ : ∃ x, x = ({ C1 with cut := true, way := [], inb := [], out := [] } : Cn) := ⟨_, rfl⟩
                  rw [← hC2] at q30
                  clear hC2
                  obtain ⟨N2, hN2⟩ : ∃ x, x = N1.put c C2 := ⟨_, rfl⟩
                  have hcs2 : N2.cs c = some C2 := by rw [hN2, NS.put_same]
                  have hmv2 : N2.mv = mv := by rw [hN2]; exact hmv1
                  have hrest2 : ∀ c', c + 1 ≤ c' → c' ≤ n → ∃ C, N2.cs c' = some C ∧ C.closed = false ∧ C.cut = false := fun c' h1 h2 => by
                    rw [hN2, NS.put_other _ _ _ _ (by omega)]
                    exact hrest1 c' h1 h2
                  simp only [← hN2] at q30
                  have eO2 : N2.open_ (c : Int) = (43, N2) := by
                    unfold NS.open_
                    rw [err_there ⟨hc1, by omega⟩ hcs2]
                    rfl
                  have q14b := fun W σ' (h : NetAt W σ' 1000 g N2) => open_c W σ' 1000 g N2 h (c : Int) (wf_c (by omega))
                  simp only [eO2] at q14b
                  have Q29 := Lib.hid q29
                  have Q30 := Lib.hid q30
                  have Q14 := Lib.hid q14
                  have Q14b := Lib.hid q14b
                  have HX := Lib.hid (And.intro hmv1 (And.intro hrest1 (And.intro hmv2 hrest2)))
                  clear q29 q30 q14 q14b eK eO eO2 hN1 hN2 hcs1 hcs2 hmv1 hmv2 hrest1 hrest2 hC hcl hcu hcu1
                  go_wp2_with fail
                  refine Q29.out.mono ?_
                  rintro e w17 ⟨rfl, σ17, h17, c17⟩
                  have H17 := Lib.hid (And.intro h17 (HN.out.2.1.chg c17 o10))
                  clear h17 c17 HN Q29
                  have x3 : (0 : Int) ≤ (c : Int) := by omega
                  by_cases hpar : c % 2 = 0
                  · have hp2' : ((c : Int) % 2 == 0) = true := by
                      have : (c : Int) % 2 = 0 := by omega
                      rw [this]; rfl
                    clear hpar
                    go_wp2_with fail
                    refine (Q30.out w17 σ17 H17.out.1).mono ?_
                    rintro e w18 ⟨rfl, σ18, h18, c18⟩
                    have H18 := Lib.hid (And.intro h18 (H17.out.2.chg c18 o10))
                    clear h18 c18 H17
                    go_wp2_with fail
                    refine (Q14b.out w18 σ18 H18.out.1).mono ?_
                    rintro e w19 ⟨rfl, σ19, h19, c19⟩
                    have H19 := Lib.hid (And.intro h19 (H18.out.2.chg c19 o10))
                    clear h19 c19 H18
                    go_wp2_with fail
                    go_roundw
                    case rel => exact ⟨c + 1, σ19, N2, by omega, by omega, by go_num, H19.out.1, H19.out.2, HX.out.2.2.1, HX.out.2.2.2⟩
                    case measure => simp [intOf]; omega
                  · have hp2' : ((c : Int) % 2 == 0) = false := by
                      have : (c : Int) % 2 = 1 := by omega
                      rw [this]; rfl
                    clear hpar
                    go_wp2_with fail
                    refine (Q14.out w17 σ17 H17.out.1).mono ?_
                    rintro e w19 ⟨rfl, σ19, h19, c19⟩
                    have H19 := Lib.hid (And.intro h19 (H17.out.2.chg c19 o10))
                    clear h19 c19 H17
                    go_wp2_with fail
                    go_roundw
                    case rel => exact ⟨c + 1, σ19, N1, by omega, by omega, by go_num, H19.out.1, H19.out.2, HX.out.1, HX.out.2.1⟩
                    case measure => simp [intOf]; omega
                · have k2 : ¬ (c : Int) ≤ (n : Int) := by omega
                  have hmvb := HV.out
                  have Hmvb := Lib.hid hmvb
                  have q18 := moved_c wr σ 1000 g N HN.out.1
                  rw [HN.out.2.2.1] at q18
                  have q14 := open_c wr σ 1000 g N HN.out.1 65 (by decide)
                  have eO : N.open_ 65 = (1, N) := by
                    unfold NS.open_
                    have : err N 65 false = 1 := by unfold err; rw [if_pos (by omega)]
                    rw [this]
                    rfl
                  rw [eO] at q14
                  have Q18 := Lib.hid q18
                  have Q14 := Lib.hid q14
                  have hp0 : (0 : Int) ≤ 2 * (n : Int) * (long : Int) := by rw [← hmvb.1]; exact hmvb.2.1
                  have hp3 : 2 * (n : Int) * (long : Int) ≤ 7680 := by rw [← hmvb.1]; exact hmvb.2.2
                  have hmq : (mv == 2 * (n : Int) * (long : Int)) = true := by rw [hmvb.1]; simp
                  have HS := Lib.hid HN.out.2.1
                  clear q18 q14 eO hmvb HV HN
                  by_cases h64 : n < 64
                  · have h65 : (n : Int) < 64 := by omega
                    go_wp2_with fail
                    refine Q18.out.mono ?_
                    rintro e w20 ⟨rfl, rfl⟩
                    go_wp2_with fail
                    refine (head_c _).mono ?_
                    rintro e w21 ⟨rfl, hb21⟩
                    go_wp2
                    go_ret
                    exact ⟨by first | rfl | simp, (HS.out.below hb21).bel⟩
                  · have h65 : ¬ (n : Int) < 64 := by omega
                    go_wp2_with fail
                    refine Q18.out.mono ?_
                    rintro e w20 ⟨rfl, rfl⟩
                    go_wp2_with fail
                    refine Q14.out.mono ?_
                    rintro e w21 ⟨rfl, σ21, h21, c21⟩
                    have HS21 := Lib.hid (HS.out.chg c21 o10)
                    clear h21 c21
                    go_wp2_with fail
                    refine (head_c _).mono ?_
                    rintro e w22 ⟨rfl, hb22⟩
                    go_wp2
                    go_ret
                    exact ⟨by first | rfl | simp, (HS21.out.below hb22).bel⟩
end Go.Proofs.Ytalabfbnbiagiaa.C
