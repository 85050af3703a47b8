/-
  The call of the law NetOwn: the walk.
-/
import Derived.Test.YtalabfbnbiagiaaOwn
set_option linter.unusedVariables false
set_option linter.unusedSimpArgs false
namespace Go.Proofs.Ytalabfbnbiagiaa.C
open Go.RowKit Go.Proofs.Ytalabfbnbiagiaa.K

def oneC (h : List Int) : Cn := ⟨[], [], [], h, false, false⟩

/-- A row behind a write at whatever place: a row of as many cells. -/
theorem stored_any {w : World} {B e sz n : Nat} {v : Value} {ys : List Value} (h : w.ownsRow B e sz v n ys) (g j : Nat) (u : Value) : ∃ ys', (w.setCell ⟨g, j, none⟩ u).ownsRow B e sz v n ys' := by
  by_cases hg : v.ownBlock = some g
  · rcases h.2 with ⟨rfl, _⟩ | ⟨g', cap', cur, rfl, _⟩
    · cases hg
    · simp [Value.ownBlock] at hg
      subst hg
      exact ⟨_, (World.ownsRow.stored h j u).1⟩
  · exact ⟨ys, h.kept (row := some g) ⟨rfl, rfl, rfl, by simp [World.setCell], fun q hq hne => Below.heap_setCell _ _ _ _ (fun e => hne (by rw [e]))⟩ (.inr hg)⟩

set_option maxRecDepth 100000 in
set_option maxHeartbeats 6400000 in
theorem own_walk (w : World) (v0 : Value) (o0 : ∃ (A : Option Addr) (n c : Nat), v0 = .slice A n c ∧ n ≤ c ∧ RowsOf w A n ∧ n * 24 ≤ 140737488351232) :
    Calls Try.prog 4 #[v0] w fun e w' => e = .returned (.bool true) ∧ Below w.heap.size w w' := by
  obtain ⟨A, n, c, rfl, hnc, hrows, hn⟩ := o0
  obtain ⟨i0, hi, hz0, hz1, hz2⟩ := info_parts info5'
  have Hrows := Lib.hid hrows
  clear hrows
  go_enter Try.func4, Try.ntmps4
  go_wp2_with fail
  refine (new_c w 1000 1000 (by decide) (fun _ => 0) 1000).mono ?_
  rintro e w1 ⟨g, rfl, hg1, hg2, hb1, H1⟩
  have S1 := (((St.first w).below hb1).upd (Nat.le_refl _) (1000 + 4))
  have hS1 := Lib.hid (And.intro S1 H1)
  clear S1 H1 hb1 hg1 hg2
  go_wp2_with fail
  refine (new_c w1 5 5 (by decide) (upd (fun _ => 0) w.heap.size (1000 + 4)) 2000).mono ?_
  rintro e w2 ⟨g2, rfl, hg1, hg2, hb2, H2⟩
  have hS2 := Lib.hid (And.intro ((hS1.out.1.below hb2).upd hS1.out.1.size (2000 + 4)) (And.intro ((hS1.out.2.upd (Nat.le_refl _) (2000 + 4)).below hb2) H2))
  clear H2 hb2 hg1 hg2 hS1
  go_wp2_with fail
  refine (open_c w2 _ 1000 g _ hS2.out.2.1 ((1 : Nat) : Int) (by decide)).mono ?_
  rintro e w3 ⟨he, σ3, H3, hc3⟩
  rw [E_open (by omega)] at he H3
  subst he
  have hS3 := Lib.hid (And.intro (hS2.out.1.chg hc3 of1000_0) (And.intro H3 (hS2.out.2.2.chg hc3 of_ne)))
  clear H3 hc3 hS2
  go_wp2_with fail
  refine (open_c w3 _ 2000 g2 _ hS3.out.2.2 ((1 : Nat) : Int) (by decide)).mono ?_
  rintro e w4 ⟨he, σ4, H4, hc4⟩
  rw [E_open (by omega)] at he H4
  subst he
  have hS4 : Beside w σ4 w4 g2 (E 5 1 ⟨[], [], [], [], false, false⟩ 0) (.slice none 0 0) [] := ⟨hS3.out.1.chg hc4 (by unfold Of; omega), H4, Row.nil _ _ _ _ _⟩
  have hN4 : NetAt w4 σ4 1000 g (E 1000 1 (oneC []) 0) := hS3.out.2.1.chg hc4 (by intro x hx h; unfold Of at *; omega)
  clear H4 hc4 hS3
  go_wp2_with fail
  go_loopw [7, 8] (fun av i wr => ∃ (k : Nat) (hd : List Int) (σ : Nat → Nat), k ≤ n ∧ k ≤ 15 ∧ i = .int .i64 k ∧ hd.length ≤ 50 * k ∧ NetAt wr σ 1000 g (E 1000 1 (oneC hd) (2 * (hd.length : Int))) ∧
    Beside w σ wr g2 (E 5 1 ⟨[], [], [], [], false, false⟩ 0) av hd) (fun _ i _ => n - (intOf i).toNat)
  case atStart => exact ⟨0, [], σ4, Nat.zero_le _, Nat.zero_le _, rfl, Nat.zero_le _, hN4, hS4⟩
  case round =>
    clear hN4 hS4
    obtain ⟨k, hd, σ, hk, hk15, rfl, hhd, hN, hB⟩ := hrel
    obtain ⟨Av, cav, rfl⟩ := hB.row.slice
    obtain ⟨hl, hhl⟩ : ∃ hl, hd.length = hl := ⟨_, rfl⟩
    rw [hhl] at hhd
    simp only [hhl]
    have Hhl := Lib.hid hhl
    have HN := Lib.hid hN
    have HB := Lib.hid hB
    clear hhl hN hB
    by_cases hlt : k < n ∧ k < 15
    · obtain ⟨hkn, hk14⟩ := hlt
      obtain ⟨b0, o0, Ai, ni, ci, L, rfl, hb0, hcell, hnic, hcm, hL, hrd⟩ := Hrows.out k hkn
      have dcell := (HB.out.st.bel.cell (p := ⟨b0, o0 + k, none⟩) hb0).trans hcell
      have hrd1 := Reads.below hrd HB.out.st.bel
      have j0 : (0 : Int) ≤ (k : Int) := by omega
      have j1 : (k : Int) < (n : Int) := by omega
      have j2 : (k : Int) < 15 := by omega
      have HL := Lib.hid hL
      have Hrd := Lib.hid hrd
      have Hrd1 := Lib.hid hrd1
      have Hcell := Lib.hid hcell
      clear hL hrd hrd1 hcell
      by_cases hbig : 50 < ni
      · have hbig' : (50 : Int) < (ni : Int) := by omega
        go_wp2_with fail
        go_roundw
        case rel => exact ⟨k + 1, hd, σ, by omega, by omega, by go_num, by rw [Hhl.out]; omega, HN.out, by have := HB.out; rw [Hhl.out] at this; exact this⟩
        case measure => simp [intOf]; omega
      · have hbig' : ¬ ((50 : Int) < (ni : Int)) := by omega
        go_wp2_with fail
        refine (lend_c wr Ai ni ci L HL.out hnic (by omega) Hrd1.out).mono ?_
        rintro e w5 ⟨gm, rfl, hgm1, hgm2, hb5, hbb5⟩
        have hN5 : NetAt w5 (upd σ wr.heap.size 0) 1000 g (E 1000 1 (oneC hd) (2 * (hd.length : Int))) := (HN.out.upd (Nat.le_refl _) 0).below hb5
        have hB5 := (HB.out.upd 0).below hb5
        have ht5 : upd σ wr.heap.size 0 gm = 0 := upd_new hgm1
        have hgw : w.heap.size ≤ gm := Nat.le_trans HB.out.st.size hgm1
        have H5 := Lib.hid (And.intro hN5 (And.intro hB5 (And.intro ht5 hbb5)))
        clear hN5 hB5 ht5 hbb5 hb5 hgm1 hgm2 dcell
        go_wp2_with fail
        refine (send_c w5 _ 1000 g _ H5.out.1 ((1 : Nat) : Int) (by decide) (some ⟨gm, 0, none⟩) ni (ni + 9) L HL.out (by omega) (by omega) (lent_reads H5.out.2.2.2)).mono ?_
        rintro e w6 ⟨he, σ6, H6, hc6⟩
        rw [E_send (by omega) rfl rfl L (by rw [HL.out]; simp [oneC]; omega)] at he H6
        subst he
        have ht6 : σ6 gm = 0 := (hc6.marks gm (Blk.lt H5.out.2.2.2)).trans H5.out.2.2.1
        have H6' := Lib.hid (And.intro H6 (And.intro (H5.out.2.1.chg hc6 of1000_0 of1000_1 of_ne) (And.intro ht6 (bb_chg H5.out.2.2.2 hc6 (by rw [H5.out.2.2.1]; exact of1000_0)))))
        clear H6 hc6 ht6 H5
        go_wp2_with fail
        refine (write_c w6 _ 1000 g _ H6'.out.1 ((1 : Nat) : Int) (by decide) (some ⟨gm, 0, none⟩) ni (ni + 9) L HL.out (by omega) (by omega) (lent_reads H6'.out.2.2.2)).mono ?_
        rintro e w7 ⟨he, σ7, H7, hc7⟩
        rw [E_write (by omega) rfl rfl L (by rw [HL.out]; simp [oneC]; omega)] at he H7
        rw [HL.out] at he
        subst he
        have ht7 : σ7 gm = 0 := (hc7.marks gm (Blk.lt H6'.out.2.2.2)).trans H6'.out.2.2.1
        have H7' := Lib.hid (And.intro H7 (And.intro (H6'.out.2.1.chg hc7 of1000_0 of1000_1 of_ne) (And.intro ht7 (bb_chg H6'.out.2.2.2 hc7 (by rw [H6'.out.2.2.1]; exact of1000_0)))))
        clear H7 hc7 ht7 H6'
        have dcell := (H7'.out.2.1.st.bel.cell (p := ⟨b0, o0 + k, none⟩) hb0).trans Hcell.out
        go_wp2_with fail
        refine (back_c w7 gm Ai ni ci L HL.out (by omega) (Reads.below Hrd.out H7'.out.2.1.st.bel) H7'.out.2.2.2).mono ?_
        rintro e w8 ⟨rfl, hon⟩
        have hc8 := own0_only (σ := σ7) hon H7'.out.2.2.1
        have H8 := Lib.hid (And.intro (H7'.out.1.chg hc8 (by intro x hx e; unfold Of at hx; omega)) (H7'.out.2.1.own0 hc8 (fun b hb => hon.block b (Nat.lt_of_lt_of_le hb H7'.out.2.1.st.size) (by simp; omega))))
        clear hon hc8 H7' dcell
        go_wp2_with fail
        refine (bring_c w8 _ 1000 g _ H8.out.1 (by show 2 * (hd.length : Int) ≤ _; rw [Hhl.out]; omega) ((1 : Nat) : Int) 1000 (by decide)).mono ?_
        rintro e w9 ⟨he, σ9, H9, hc9⟩
        rw [E_bring (by omega) rfl rfl 1000 (by simp [oneC, HL.out]; omega) (by simp [oneC, HL.out]; omega)] at he H9
        subst he
        have H9' := Lib.hid (And.intro H9 (H8.out.2.chg hc9 of1000_0 of1000_1 of_ne))
        clear H9 hc9 H8
        go_wp2_with fail
        refine (fetch_c w9 _ 1000 g _ H9'.out.1 (by show 2 * (hd.length : Int) + _ ≤ _; rw [Hhl.out]; simp [oneC, HL.out]; omega) ((1 : Nat) : Int) 1000 (by decide)).mono ?_
        rintro e w10 ⟨he, σ10, H10, hc10⟩
        rw [E_fetch (by omega) rfl rfl 1000 (by simp [oneC, HL.out]; omega)] at he H10
        subst he
        have H10' := Lib.hid (And.intro H10 (H9'.out.2.chg hc10 of1000_0 of1000_1 of_ne))
        clear H10 hc10 H9'
        go_wp2_with fail
        refine (take_n w10 _ 1000 g _ H10'.out.1 ((1 : Nat) : Int) (by decide)).mono ?_
        rintro e w11 ⟨vb, he, σ11, H11, hc11, hrb, hfr⟩
        rw [E_take (by omega) rfl rfl] at he H11 hrb
        have hrb' : Row w11 σ11 0 5 1 vb ni (bs L) := by
          have h1 := hrb
          simp only [oneC, List.nil_append, HL.out] at h1
          exact h1
        obtain ⟨Ab, cb, rfl⟩ := hrb'.slice
        subst he
        have hB11 := H10'.out.2.chg hc11 of1000_0 of1000_1 of_ne
        have hN11 : NetAt w11 σ11 1000 g (E 1000 1 (oneC (hd ++ L)) (2 * ((hd ++ L).length : Int))) := by
          have e : (2 * (hd.length : Int) + (([] ++ L : List Int).length : Int) + (([] ++ L : List Int).length : Int)) = 2 * ((hd ++ L).length : Int) := by simp; omega
          rw [← e]
          exact H11
        have hbw : ∀ b, Value.ownBlock (.slice Ab ni cb) = some b → w.heap.size ≤ b := fun b hb => Nat.le_trans H10'.out.2.st.size (hfr b hb)
        have hq1 := conv_reads (w := w11.drew) (n := ni) (cp := cb) HL.out (show Reads w11.drew Ab (bs L) from Reads.of_row hrb'.1)
        have hq2 := conv_reads (w := w11.drew) (n := ni) (cp := ci) HL.out (show Reads w11.drew Ai (bs L) from Reads.below Hrd.out (below_drewN hB11.st.bel 1))
        have dcell := (hB11.st.bel.cell (p := ⟨b0, o0 + k, none⟩) hb0).trans Hcell.out
        have hrow11 : w11.ownsRow 0 5 1 (.slice Av hl cav) hl (bs hd) := by have := hB11.row.1; rw [Hhl.out] at this; exact this
        have H11' := Lib.hid (And.intro hN11 (And.intro hB11 (And.intro hrb' (And.intro hbw hrow11))))
        clear hN11 hB11 hrb' hbw hrow11 hrb hfr hc11 H11 H10'
        go_wp2_with fail
        go_region
        go_wp2_with (at_builtin; refine wpList_append_reads (by rfl) _ _ 29 (by rfl) 0 5 i0 _ 1 1 Try.underlying29 hi hz0 hz1 hz2 rfl (by omega) (.slice Av hl cav) hl (bs hd) (by rfl) ?c0 Ai ni ci (bs L) (by rfl) ?c1 ?c2 (bs_one L) ?c4 ?c5 (Nat.zero_le _) ?_)
        case c0 => exact H11'.out.2.2.2.2
        case c1 => rw [bs_length, HL.out]; omega
        case c2 => exact (show Reads w11.drew Ai (bs L) from Reads.below Hrd.out (below_drewN H11'.out.2.1.st.bel 1))
        case c4 => unfold maxLen; omega
        case c5 => omega
        intro va w12 hown12 hgrow12 hat12
        obtain ⟨Aa, ca, rfl⟩ := own_slice hown12
        have hlen : (hd ++ L).length = hl + ni := by rw [List.length_append, Hhl.out, HL.out]
        have hc12 : Chg (fun x => x = 1) σ11 w11 (upd σ11 w11.heap.size 1) w12 :=
          ((Chg.refl _ σ11 w11).upd (Nat.le_refl _) 1).grown ⟨hgrow12.os, hgrow12.tape, hgrow12.output, hgrow12.size, hgrow12.block⟩ (fun q hq => by
            left
            have h1 := H11'.out.2.1.row
            rw [Hhl.out] at h1
            show upd σ11 w11.heap.size 1 q = 1
            rw [upd_old (h1.1.lt q hq).2]
            exact h1.2 q hq)
        have hra : Row w12 (upd σ11 w11.heap.size 1) 1 5 1 (.slice Aa (hl + ni) ca) (hd ++ L).length (bs (hd ++ L)) := by
          refine ⟨by rw [hlen, bs_append]; exact hown12, fun b hb => ?_⟩
          rcases hat12 with h0 | h0
          · have h1 := H11'.out.2.1.row
            rw [Hhl.out] at h1
            rw [h0] at hb
            rw [upd_old (h1.1.lt b hb).2]
            exact h1.2 b hb
          · rw [h0] at hb
            have := Option.some.inj hb
            exact upd_new (by show w11.heap.size ≤ b; rw [← this]; exact Nat.le_refl _)
        have hB12 : Beside w (upd σ11 w11.heap.size 1) w12 g2 (E 5 1 ⟨[], [], [], [], false, false⟩ 0) (.slice Aa (hl + ni) ca) (hd ++ L) :=
          ⟨H11'.out.2.1.st.chg hc12 (by omega), H11'.out.2.1.net.chg hc12 (by intro x hx e; unfold Of at hx; omega), hra⟩
        have hN12 : NetAt w12 (upd σ11 w11.heap.size 1) 1000 g (E 1000 1 (oneC (hd ++ L)) (2 * ((hd ++ L).length : Int))) := H11'.out.1.chg hc12 (by intro x hx e; unfold Of at hx; omega)
        have hb12 : Row w12 (upd σ11 w11.heap.size 1) 0 5 1 (.slice Ab ni cb) ni (bs L) := H11'.out.2.2.1.chg hc12 (by omega)
        have Hbw := Lib.hid H11'.out.2.2.2.1
        have Hlen := Lib.hid hlen
        obtain ⟨σa, hσa⟩ : ∃ s, s = upd σ11 w11.heap.size 1 := ⟨_, rfl⟩
        rw [← hσa] at hB12 hN12 hb12
        have H12 := Lib.hid (And.intro hN12 (And.intro hB12 hb12))
        clear hN12 hB12 hb12 hra hc12 hown12 hgrow12 hat12 hσa hlen H11' dcell hq1 hq2
        go_wp2_with fail
        go_loopw [12] (fun i wy => ∃ (y : Nat) (xs : List Value), y ≤ ni ∧ i = .int .i64 y ∧ NetAt wy σa 1000 g (E 1000 1 (oneC (hd ++ L)) (2 * ((hd ++ L).length : Int))) ∧
          Beside w σa wy g2 (E 5 1 ⟨[], [], [], [], false, false⟩ 0) (.slice Aa (hl + ni) ca) (hd ++ L) ∧ Row wy σa 0 5 1 (.slice Ab ni cb) ni xs) (fun i _ => ni - (intOf i).toNat)
        case atStart => exact ⟨0, bs L, Nat.zero_le _, rfl, H12.out.1, H12.out.2.1, H12.out.2.2⟩
        case round =>
          clear H12
          obtain ⟨y, xs, hy, rfl, hNy, hBy, hby⟩ := hrel
          by_cases hyn : y < ni
          · obtain ⟨gb, cb', e, hgb, hgbl⟩ := hby.form (by omega)
            cases e
            obtain ⟨u0, d0⟩ : ∃ u, wr.cell? ⟨gb, y, none⟩ = some u := ⟨_, (World.ownsRow.cellAt hby.1 y (by omega)).trans (List.getElem?_eq_getElem (by have := hby.1.1; omega))⟩
            have f0 := World.ownsRow.frozenAt hby.1 y
            have hc := own0_set (σ := σa) (w := wr) (p := ⟨gb, y, none⟩) (.int .u8 1) hgb
            have hge := Hbw.out gb rfl
            have hs := (World.ownsRow.stored hby.1 y (.int .u8 1)).1
            have HH := Lib.hid (And.intro (hNy.chg hc (by intro x hx e; unfold Of at hx; omega)) (And.intro (hBy.own0 hc (fun b hb => Below.heap_setCell _ _ _ _ (by simp; omega))) (And.intro hs hby.2)))
            have y0 : (0 : Int) ≤ (y : Int) := by omega
            have y1 : (y : Int) < (ni : Int) := by omega
            clear hNy hBy hby hc hs
            go_wp2_with fail
            go_roundw
            case rel => exact ⟨y + 1, _, by omega, by go_num, HH.out.1, HH.out.2.1, HH.out.2.2.1, HH.out.2.2.2⟩
            case measure => simp [intOf]; omega
          · obtain rfl : y = ni := by omega
            have hmv : (E 1000 1 (oneC (hd ++ L)) (2 * ((hd ++ L).length : Int))).mv ≤ 1099511627776 := by show 2 * ((hd ++ L).length : Int) ≤ _; rw [Hlen.out]; omega
            have Hmv := Lib.hid hmv
            have HW := Lib.hid (And.intro hNy hBy)
            clear hNy hBy hby hmv
            generalize wr = wq at HW ⊢
            go_wp2_with fail
            obtain ⟨ks, hNks⟩ := HW.out.1
            refine (heard_live wq σa 1000 g _ ks hNks Hmv.out 1 (by decide) (oneC (hd ++ L)) E_cs rfl rfl).mono ?_
            rintro e w13 ⟨vh, rfl, hb13, hh13⟩
            clear hNks
            rw [show (oneC (hd ++ L)).heard = hd ++ L from rfl, Hlen.out] at hh13
            have hrh := Row.fresh hh13 (σ := σa) 0
            have hbh : ∀ b, vh.ownBlock = some b → w.heap.size ≤ b := fun b hb => Nat.le_trans HW.out.2.st.size (hh13.lt b hb).1
            obtain ⟨Ah, ch, rfl⟩ := own_slice hh13
            obtain ⟨σb, hσb⟩ : ∃ s, s = upd σa wq.heap.size 0 := ⟨_, rfl⟩
            have hup : ∀ b, wq.heap.size ≤ b → σb b = 0 := fun b hb => by rw [hσb]; exact upd_new hb
            have hN13 : NetAt w13 σb 1000 g (E 1000 1 (oneC (hd ++ L)) (2 * ((hd ++ L).length : Int))) := by rw [hσb]; exact (HW.out.1.upd (Nat.le_refl _) 0).below hb13
            have hB13 : Beside w σb w13 g2 (E 5 1 ⟨[], [], [], [], false, false⟩ 0) (.slice Aa (hl + y) ca) (hd ++ L) := by rw [hσb]; exact (HW.out.2.upd 0).below hb13
            rw [← hσb] at hrh
            have hsz13 := hb13.size
            have H13 := Lib.hid (And.intro hN13 (And.intro hB13 (And.intro hrh (And.intro hbh (And.intro hup hsz13)))))
            clear hN13 hB13 hrh hbh hup hsz13 hσb hb13 hh13 HW
            go_wp2_with (at_builtin; refine wpList_append_keeps2 (by rfl) _ _ 29 (by rfl) 0 5 i0 _ 1 1 Try.underlying29 hi hz0 hz1 hz2 rfl (by omega) (.slice Ah (hl + y) ch) (hl + y) (bs (hd ++ L)) (by rfl) ?c0 ⟨w13.heap.size, 0, none⟩ 3 3 [.int .u8 1, .int .u8 2, .int .u8 3] (by rfl) rfl ?c2 ?c3 ?c4 ?c5 (Nat.zero_le _) ?_)
            case c0 => exact own_below H13.out.2.2.1.1 ((Below.refl _ _).alloc (Nat.le_refl _) _)
            case c2 =>
              intro j u hu
              rw [add_plain, Nat.zero_add, World.cell?_alloc_new]
              simpa using hu
            case c3 =>
              intro u hu
              simp at hu
              rcases hu with rfl | rfl | rfl <;> rfl
            case c4 => unfold maxLen; omega
            case c5 => omega
            intro vg w14 hg14 hh14 hgrow hat
            obtain ⟨Ag, cg, rfl⟩ := own_slice hg14
            have hba : Below w13.heap.size w13 (w13.alloc (.cells #[.int .u8 1, .int .u8 2, .int .u8 3] 5)) := (Below.refl _ _).alloc (Nat.le_refl _) _
            have hc14 : Chg (fun x => x = 0) σb w13 σb w14 := ((Chg.refl _ σb w13).below hba).grown hgrow (fun q hq => .inl (H13.out.2.2.1.2 q hq))
            have hbb : ∀ b, b < w.heap.size → w14.heap[b]? = w13.heap[b]? := fun b hb => (hgrow.block b (by have := H13.out.2.1.st.size; simp; omega) (by
              intro e
              have := H13.out.2.2.2.1 b e.symm
              omega)).trans (hba.block b (by have := H13.out.2.1.st.size; omega))
            have hN14 := H13.out.1.chg hc14 (by intro x hx e; unfold Of at hx; omega)
            have hB14 := H13.out.2.1.own0 hc14 hbb
            have hrh14 : Row w14 σb 0 5 1 (.slice Ah (hl + y) ch) (hl + y) (bs (hd ++ L)) := ⟨hh14, H13.out.2.2.1.2⟩
            have hrg14 : Row w14 σb 0 5 1 (.slice Ag (hl + y + 3) cg) (hl + y + 3) (bs (hd ++ L) ++ [.int .u8 1, .int .u8 2, .int .u8 3]) := by
              refine ⟨hg14, fun b hb => ?_⟩
              rcases hat with h0 | h0
              · rw [h0] at hb
                exact H13.out.2.2.1.2 b hb
              · have h1 := h0 b hb
                have h2 := H13.out.2.2.2.2.2
                exact H13.out.2.2.2.2.1 b (by first | omega | (simp at h1; omega))
            have hgb14 : ∀ b, Value.ownBlock (.slice Ag (hl + y + 3) cg) = some b → w.heap.size ≤ b := by
              intro b hb
              rcases hat with h0 | h0
              · rw [h0] at hb
                exact H13.out.2.2.2.1 b hb
              · have h1 := h0 b hb
                have := H13.out.2.1.st.size
                first | omega | (simp at h1; omega)
            have Hbh := Lib.hid (And.intro H13.out.2.2.2.1 hgb14)
            have H14 := Lib.hid (And.intro hN14 (And.intro hB14 (And.intro hrg14 hrh14)))
            clear hN14 hB14 hrg14 hrh14 hgb14 hbb hc14 hba hgrow hat hg14 hh14 H13
            go_wp2_with fail
            go_loopw [16] (fun i wy => ∃ (z : Nat) (xs ys : List Value), z ≤ hl + y + 3 ∧ i = .int .i64 z ∧ NetAt wy σb 1000 g (E 1000 1 (oneC (hd ++ L)) (2 * ((hd ++ L).length : Int))) ∧
              Beside w σb wy g2 (E 5 1 ⟨[], [], [], [], false, false⟩ 0) (.slice Aa (hl + y) ca) (hd ++ L) ∧ Row wy σb 0 5 1 (.slice Ag (hl + y + 3) cg) (hl + y + 3) xs ∧ Row wy σb 0 5 1 (.slice Ah (hl + y) ch) (hl + y) ys) (fun i _ => hl + y + 3 - (intOf i).toNat)
            case atStart => exact ⟨0, _, _, Nat.zero_le _, rfl, H14.out.1, H14.out.2.1, H14.out.2.2.1, H14.out.2.2.2⟩
            case round =>
              clear H14
              obtain ⟨z, xs, ys, hz, rfl, hNz, hBz, hgz, hhz⟩ := hrel
              by_cases hzn : z < hl + y + 3
              · obtain ⟨gb, cb', e, hgb, hgbl⟩ := hgz.form (by omega)
                cases e
                obtain ⟨u0, d0⟩ : ∃ u, wr.cell? ⟨gb, z, none⟩ = some u := ⟨_, (World.ownsRow.cellAt hgz.1 z (by omega)).trans (List.getElem?_eq_getElem (by have := hgz.1.1; omega))⟩
                have f0 := World.ownsRow.frozenAt hgz.1 z
                have hc := own0_set (σ := σb) (w := wr) (p := ⟨gb, z, none⟩) (.int .u8 2) hgb
                have hge := Hbh.out.2 gb rfl
                have hs := (World.ownsRow.stored hgz.1 z (.int .u8 2)).1
                have hh2 := stored_any hhz.1 gb z (.int .u8 2)
                obtain ⟨ys', hh2⟩ := hh2
                have HH := Lib.hid (And.intro (hNz.chg hc (by intro x hx e; unfold Of at hx; omega)) (And.intro (hBz.own0 hc (fun b hb => Below.heap_setCell _ _ _ _ (by simp; omega))) (And.intro (show Row _ σb 0 5 1 _ _ _ from ⟨hs, hgz.2⟩) (show Row _ σb 0 5 1 _ _ _ from ⟨hh2, hhz.2⟩))))
                have z0 : (0 : Int) ≤ (z : Int) := by omega
                have z1 : (z : Int) < (((hl + y + 3 : Nat)) : Int) := by omega
                clear hNz hBz hgz hhz hc hs hh2
                go_wp2_with fail
                go_roundw
                case rel => exact ⟨z + 1, _, _, by omega, by go_num, HH.out.1, HH.out.2.1, HH.out.2.2.1, HH.out.2.2.2⟩
                case measure => simp [intOf]; omega
              · obtain rfl : z = hl + y + 3 := by omega
                have H15 := Lib.hid (And.intro hNz (And.intro hBz hhz))
                clear hNz hBz hgz hhz
                generalize wr = wq2 at H15 ⊢
                go_wp2_with fail
                go_loopw [17] (fun i wy => ∃ (z : Nat) (ys : List Value), z ≤ hl + y ∧ i = .int .i64 z ∧ NetAt wy σb 1000 g (E 1000 1 (oneC (hd ++ L)) (2 * ((hd ++ L).length : Int))) ∧
                  Beside w σb wy g2 (E 5 1 ⟨[], [], [], [], false, false⟩ 0) (.slice Aa (hl + y) ca) (hd ++ L) ∧ Row wy σb 0 5 1 (.slice Ah (hl + y) ch) (hl + y) ys) (fun i _ => hl + y - (intOf i).toNat)
                case atStart => exact ⟨0, _, Nat.zero_le _, rfl, H15.out.1, H15.out.2.1, H15.out.2.2⟩
                case round =>
                  clear H15
                  obtain ⟨z, ys, hz, rfl, hNz, hBz, hhz⟩ := hrel
                  by_cases hzn : z < hl + y
                  · obtain ⟨gb, cb', e, hgb, hgbl⟩ := hhz.form (by omega)
                    cases e
                    obtain ⟨u0, d0⟩ : ∃ u, wr.cell? ⟨gb, z, none⟩ = some u := ⟨_, (World.ownsRow.cellAt hhz.1 z (by omega)).trans (List.getElem?_eq_getElem (by have := hhz.1.1; omega))⟩
                    have f0 := World.ownsRow.frozenAt hhz.1 z
                    have hc := own0_set (σ := σb) (w := wr) (p := ⟨gb, z, none⟩) (.int .u8 3) hgb
                    have hge := Hbh.out.1 gb rfl
                    have hs := (World.ownsRow.stored hhz.1 z (.int .u8 3)).1
                    have HH := Lib.hid (And.intro (hNz.chg hc (by intro x hx e; unfold Of at hx; omega)) (And.intro (hBz.own0 hc (fun b hb => Below.heap_setCell _ _ _ _ (by simp; omega))) (show Row _ σb 0 5 1 _ _ _ from ⟨hs, hhz.2⟩)))
                    have z0 : (0 : Int) ≤ (z : Int) := by omega
                    have z1 : (z : Int) < (((hl + y : Nat)) : Int) := by omega
                    clear hNz hBz hhz hc hs
                    go_wp2_with fail
                    go_roundw
                    case rel => exact ⟨z + 1, _, by omega, by go_num, HH.out.1, HH.out.2.1, HH.out.2.2⟩
                    case measure => simp [intOf]; omega
                  · obtain rfl : z = hl + y := by omega
                    have H16 := Lib.hid (And.intro hNz hBz)
                    clear hNz hBz hhz
                    generalize wr = wq3 at H16 ⊢
                    go_wp2_with fail
                    obtain ⟨ks, hNks⟩ := H16.out.1
                    refine (heard_live wq3 σb 1000 g _ ks hNks Hmv.out 1 (by decide) (oneC (hd ++ L)) E_cs rfl rfl).mono ?_
                    rintro e w17 ⟨vx, rfl, hb17, hx17⟩
                    clear hNks
                    rw [show (oneC (hd ++ L)).heard = hd ++ L from rfl, Hlen.out] at hx17
                    obtain ⟨Ax, cx, rfl⟩ := own_slice hx17
                    have H17 := Lib.hid (And.intro (H16.out.1.below hb17) (And.intro (H16.out.2.below hb17) hx17))
                    clear hb17 hx17 H16
                    go_wp2_with fail
                    obtain ⟨ks, hNks⟩ := H17.out.2.1.net
                    refine (heard_live w17 σb 2000 g2 _ ks hNks (by show (0 : Int) ≤ _; omega) 1 (by decide) ⟨[], [], [], [], false, false⟩ E_cs rfl rfl).mono ?_
                    rintro e w18 ⟨vy, rfl, hb18, hy18⟩
                    clear hNks
                    obtain ⟨Ay, cy, rfl⟩ := own_slice hy18
                    have H18 := Lib.hid (And.intro (H17.out.1.below hb18) (And.intro (H17.out.2.1.below hb18) (own_below H17.out.2.2 hb18)))
                    clear hb18 hy18 H17
                    have hq1 := conv_reads (w := w18) (n := hl + y) (cp := cx) Hlen.out (Reads.of_row H18.out.2.2)
                    have hq2 := conv_reads (w := w18) (n := hl + y) (cp := ca) Hlen.out (Reads.of_row (by have := H18.out.2.1.row.1; rw [Hlen.out] at this; exact this))
                    go_wp2_with fail
                    refine (moved_c w18 σb 2000 g2 _ H18.out.2.1.net).mono ?_
                    rintro e w19 ⟨he19, rfl⟩
                    obtain rfl : e = .returned (.int .i64 0) := he19
                    clear hq1 hq2
                    go_wp2_with fail
                    go_roundw
                    case rel => exact ⟨k + 1, hd ++ L, σb, by omega, by omega, by go_num, by rw [Hlen.out]; omega, H18.out.1, H18.out.2.1⟩
                    case measure => simp [intOf]; omega
    · have hcase : (n : Int) ≤ (k : Int) ∨ ((k : Int) < (n : Int) ∧ (15 : Int) ≤ (k : Int)) := by omega
      rcases hcase with hc1 | ⟨hc1, hc2⟩
      all_goals
        go_wp2_with fail
        refine (head_c _).mono ?_
        rintro e w5 ⟨rfl, hb5⟩
        go_wp2
        go_ret
        exact ⟨rfl, (HB.out.st.below hb5).bel⟩
end Go.Proofs.Ytalabfbnbiagiaa.C
