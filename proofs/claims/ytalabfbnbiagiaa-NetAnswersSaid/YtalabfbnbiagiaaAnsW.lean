/-
  The call of the law NetAnswers: the walk.
-/
import Derived.Test.YtalabfbnbiagiaaAns2
import Derived.Deep.DeepCutAuto
set_option linter.unusedVariables false
set_option linter.unusedSimpArgs false
namespace Go.Proofs.Ytalabfbnbiagiaa.C
open Go.RowKit Go.Proofs.Ytalabfbnbiagiaa.K

theorem put_same_mv (N : NS) (c : Nat) (C : Cn) (m : Int) : ({ N.put c C with mv := m } : NS).cs c = some C := NS.put_same _ _ _
theorem fresh_ne {w w' : World} {e sz n gh : Nat} {v : Value} {xs : List Value} (h : w'.ownsRow w.heap.size e sz v n xs) (hg : gh < w.heap.size) : some gh ≠ v.ownBlock := by
  intro he
  have := (h.lt gh he.symm).1
  omega
theorem cell_far {w : World} {b o g d : Nat} {u v : Value} (_ : True) (hne : b ≠ g) (h : w.cell? ⟨b, o, none⟩ = some v) : (w.setCell ⟨g, d, none⟩ u).cell? ⟨b, o, none⟩ = some v :=
  (World.cell?_of_block (a := ⟨b, o, none⟩) (Below.heap_setCell w ⟨g, d, none⟩ u b hne)).trans h
theorem two_first : (E 200 1 (idle []) 0).open_ ((2 : Nat) : Int) = (0, (E 200 1 (idle []) 0).put 2 (idle [])) ∧ Two ((E 200 1 (idle []) 0).put 2 (idle [])) (fun _ => []) 0 := by
  constructor
  · have : err (E 200 1 (idle []) 0) ((2 : Nat) : Int) false = 44 := by unfold err; rw [if_neg (by omega)]; rfl
    unfold NS.open_
    rw [if_pos this]
    rfl
  · refine ⟨rfl, rfl, rfl, fun d hd => ?_⟩
    rcases hd with rfl | rfl
    · rfl
    · rfl

set_option maxRecDepth 100000 in
set_option maxHeartbeats 6400000 in
theorem ans_walk (w : World) (v0 : Value) (o0 : ∃ (A : Option Addr) (n c : Nat), v0 = .slice A n c ∧ n ≤ c ∧ RowsOf w A n ∧ n * 24 ≤ 140737488351232) :
    Calls Try.prog 5 #[v0] w fun e w' => e = .returned (.bool true) ∧ Below w.heap.size w w' := by
  obtain ⟨A, n, c, rfl, hnc, hrows, hn⟩ := o0
  obtain ⟨i0, hi, hz0, hz1, hz2⟩ := info_parts info29'
  obtain ⟨i1, hi1, hy0, hy1, hy2⟩ := info_parts info5'
  have Hrows := Lib.hid hrows
  clear hrows
  go_enter Try.func5, Try.ntmps5
  go_wp2_with fail
  refine (new_c w 200 200 (by decide) (fun _ => 0) 1000).mono ?_
  rintro e w1 ⟨g, rfl, hg1, hg2, hb1, H1⟩
  have S1 := (((St.first w).below hb1).upd (Nat.le_refl _) (1000 + 4))
  have hS1 := Lib.hid (And.intro S1 H1)
  clear S1 H1 hb1 hg1 hg2
  go_wp2_with fail
  refine (open_c w1 _ 1000 g _ hS1.out.2 ((1 : Nat) : Int) (by decide)).mono ?_
  rintro e w2 ⟨he, σ2, H2, hc2⟩
  rw [E_open (by omega)] at he H2
  subst he
  have hS2 := Lib.hid (And.intro (hS1.out.1.chg hc2 of1000_0) H2)
  clear H2 hc2 hS1
  go_wp2_with fail
  refine (open_c w2 _ 1000 g _ (show NetAt w2 σ2 1000 g (E 200 1 (idle []) 0) from hS2.out.2) ((2 : Nat) : Int) (by decide)).mono ?_
  rintro e w3 ⟨he, σ3, H3, hc3⟩
  rw [two_first.1] at he H3
  subst he
  have hmk := run_make_rowN (P := Try.prog) 37 29 i0 _ Try.underlying37 hi hz0 .i64 .i64 3 3 (Nat.le_refl _) (by rw [hz2]; omega) (by omega) w3
  rw [hz1, show ((3 : Nat) : Int) = 3 from rfl, show madeCells (Value.slice none 0 0).cells (3 * 1) = #[.slice none 0 0, .slice none 0 0, .slice none 0 0] from by kernel_rfl] at hmk
  have hS3 := Lib.hid (And.intro (hS2.out.1.chg hc3 of1000_0) H3)
  have hS3s := Lib.hid hS3.out.1.size
  clear H3 hc3 hS2
  have hba : Below w3.heap.size w3 (w3.alloc (.cells #[.slice none 0 0, .slice none 0 0, .slice none 0 0] 29)) := (Below.refl _ _).alloc (Nat.le_refl _) _
  have hN4 : NetAt (w3.alloc (.cells #[.slice none 0 0, .slice none 0 0, .slice none 0 0] 29)) (upd σ3 w3.heap.size 7) 1000 g ((E 200 1 (idle []) 0).put 2 (idle [])) := (hS3.out.2.upd (Nat.le_refl _) 7).below hba
  have hA4 : AI w (upd σ3 w3.heap.size 7) (w3.alloc (.cells #[.slice none 0 0, .slice none 0 0, .slice none 0 0] 29)) w3.heap.size (fun _ => []) (.slice none 0 0) (.slice none 0 0) (fun _ => .slice none 0 0) [] [] [] [] :=
    ⟨(hS3.out.1.upd hS3.out.1.size 7).below hba, Row.nil _ _ _ _ _, Row.nil _ _ _ _ _, ⟨Blk.new _ _ _, upd_new (Nat.le_refl _)⟩, fun d hd => Row.nil _ _ _ _ _, TRows.nil _ _ _ _, by simp, by simp⟩
  obtain ⟨gh, hgh⟩ : ∃ gh, gh = w3.heap.size := ⟨_, rfl⟩
  have H4 := Lib.hid (And.intro hN4 hA4)
  clear hN4 hA4 hba
  rw [← hgh] at H4 hmk
  have Hgh := Lib.hid hgh
  clear hgh
  go_wp2_with fail
  go_loopw [5, 6, 8] (fun ku wu i wr => ∃ (k : Nat) (σ : Nat → Nat) (h : Nat → List Int) (v : Nat → Value) (ks ws : List TRow) (Ls : List (List Int)) (N : NS) (mv : Int), k ≤ n ∧ k ≤ 15 ∧ i = .int .i64 k ∧ ks.map tells = Ls.map telling ∧ ws.map tells = Ls.map telling ∧
    Ls.length ≤ 5 * k ∧ (∀ L ∈ Ls, L.length ≤ 5000) ∧ (∀ d, d = 1 ∨ d = 2 → (h d).length ≤ 100 * k) ∧ 0 ≤ mv ∧ mv ≤ 200 * (k : Int) ∧ NetAt wr σ 1000 g N ∧ Two N h mv ∧ AI w σ wr gh h ku wu v ks ws [] []) (fun _ _ i _ => n - (intOf i).toNat)
  case atStart => exact ⟨0, _, _, _, [], [], [], _, 0, Nat.zero_le _, Nat.zero_le _, rfl, rfl, rfl, Nat.zero_le _, by simp, fun d hd => Nat.zero_le _, by omega, by omega, H4.out.1, two_first.2, H4.out.2⟩
  case round =>
    clear H4 hmk hS3
    obtain ⟨k, σ, h, v, ks, ws, Ls, N, mv, hk, hk15, rfl, hks, hws, hLs, hL5, hh, hmv0, hmv1, hN, hT, hA⟩ := hrel
    obtain ⟨Ak, ck, rfl⟩ := hA.ku.slice
    obtain ⟨Aw, cw, rfl⟩ := hA.wu.slice
    have HI := Lib.hid (And.intro hks (And.intro hws (And.intro hLs (And.intro hL5 hh))))
    have HN := Lib.hid (And.intro hN (And.intro hT hA))
    clear hks hws hLs hL5 hh hN hT hA
    by_cases hlt : k < n ∧ k < 15
    · obtain ⟨hkn, hk14⟩ := hlt
      obtain ⟨b0, o0, Ai, ni, ci, L, rfl, hb0, hcell, hnic, hcm, hL, hrd⟩ := Hrows.out k hkn
      have hst := HN.out.2.2.st
      have dcell := (hst.bel.cell (p := ⟨b0, o0 + k, none⟩) hb0).trans hcell
      have hrd1 := Reads.below hrd hst.bel
      have j0 : (0 : Int) ≤ (k : Int) := by omega
      have j1 : (k : Int) < (n : Int) := by omega
      have j2 : (k : Int) < 15 := by omega
      have HL := Lib.hid hL
      have Hrd := Lib.hid hrd
      have Hrd1 := Lib.hid hrd1
      have Hcell := Lib.hid hcell
      clear hL hrd hrd1 hcell hst
      by_cases hbig : 100 < ni
      · have hbig' : (100 : Int) < (ni : Int) := by omega
        go_wp2_with fail
        go_roundw
        case rel => exact ⟨k + 1, σ, h, v, ks, ws, Ls, N, mv, by omega, by omega, by go_num, HI.out.1, HI.out.2.1, by have := HI.out.2.2.1; omega, HI.out.2.2.2.1, fun d hd => Nat.le_trans (HI.out.2.2.2.2 d hd) (by omega), hmv0, by omega, HN.out.1, HN.out.2.1, HN.out.2.2⟩
        case measure => simp [intOf]; omega
      · have hbig' : ¬ ((100 : Int) < (ni : Int)) := by omega
        obtain ⟨d, hd12, hdk⟩ : ∃ d : Nat, (d = 1 ∨ d = 2) ∧ 1 + k % 2 = d := ⟨1 + k % 2, by omega, rfl⟩
        have hd0 : 1 + (k : Int) % 2 = (d : Int) := by omega
        have hd1 : 1 + Int.tmod (k : Int) 2 = (d : Int) := by rw [Int.tmod_eq_emod_of_nonneg (by omega)]; omega
        have hdw : (Lit.int .i64 (d : Int)).wf = true := by rcases hd12 with rfl | rfl <;> decide
        have hd64 : 1 ≤ d ∧ d ≤ 64 := by omega
        have hcs := HN.out.2.1.cs d hd12
        have hhl := HI.out.2.2.2.2 d hd12
        have HD := Lib.hid (And.intro hd12 (And.intro hd64 (And.intro hdw hcs)))
        have HHL := Lib.hid hhl
        clear hd12 hdk hdw hd64 hcs hhl
        go_wp2_with fail
        refine (lend_c wr Ai ni ci L HL.out hnic (by omega) Hrd1.out).mono ?_
        rintro e w5 ⟨gm, rfl, hgm1, hgm2, hb5, hbb5⟩
        have hN5 := (HN.out.1.upd (Nat.le_refl _) 8).below hb5
        have hA5 := (HN.out.2.2.upd 8).below hb5
        have ht5 : upd σ wr.heap.size 8 gm = 8 := upd_new hgm1
        have hgw : w.heap.size ≤ gm := Nat.le_trans HN.out.2.2.st.size hgm1
        have H5 := Lib.hid (And.intro hN5 (And.intro hA5 (And.intro ht5 hbb5)))
        clear hN5 hA5 ht5 hbb5 hb5 hgm1 hgm2 dcell
        go_wp2_with fail
        refine (send_c w5 _ 1000 g _ H5.out.1 (d : Int) HD.out.2.2.1 (some ⟨gm, 0, none⟩) ni (ni + 9) L HL.out (by omega) (by omega) (lent_reads H5.out.2.2.2)).mono ?_
        rintro e w6 ⟨he, σ6, H6, hc6⟩
        rw [G_send HD.out.2.2.2 HD.out.2.1 rfl rfl L (by rw [HL.out]; simp [idle]; omega)] at he H6
        subst he
        have ht6 : σ6 gm = 8 := (hc6.marks gm (Blk.lt H5.out.2.2.2)).trans H5.out.2.2.1
        have H6' := Lib.hid (And.intro H6 (And.intro (H5.out.2.1.net hc6) (And.intro ht6 (bb_chg H5.out.2.2.2 hc6 (by rw [H5.out.2.2.1]; unfold Of; omega)))))
        clear H6 hc6 ht6 H5
        go_wp2_with fail
        refine (write_c w6 _ 1000 g _ H6'.out.1 (d : Int) HD.out.2.2.1 (some ⟨gm, 0, none⟩) ni (ni + 9) L HL.out (by omega) (by omega) (lent_reads H6'.out.2.2.2)).mono ?_
        rintro e w7 ⟨he, σ7, H7, hc7⟩
        rw [G_write (NS.put_same _ _ _) HD.out.2.1 rfl rfl L (by rw [HL.out]; show ((([] : List Int).length : Nat) : Int) + (ni : Int) ≤ N.o; rw [HN.out.2.1.o]; simp; omega)] at he H7
        rw [HL.out] at he
        subst he
        have ht7 : σ7 gm = 8 := (hc7.marks gm (Blk.lt H6'.out.2.2.2)).trans H6'.out.2.2.1
        have H7' := Lib.hid (And.intro H7 (And.intro (H6'.out.2.1.net hc7) (And.intro ht7 (bb_chg H6'.out.2.2.2 hc7 (by rw [H6'.out.2.2.1]; unfold Of; omega)))))
        clear H7 hc7 ht7 H6'
        have dcell := (H7'.out.2.1.st.bel.cell (p := ⟨b0, o0 + k, none⟩) hb0).trans Hcell.out
        go_wp2_with fail
        refine (back_c w7 gm Ai ni ci L HL.out (by omega) (Reads.below Hrd.out H7'.out.2.1.st.bel) H7'.out.2.2.2).mono ?_
        rintro e w8 ⟨rfl, hon⟩
        have H8 := Lib.hid (And.intro (H7'.out.1.chg (own8 hon H7'.out.2.2.1) (by intro x hx e; unfold Of at hx; omega)) (H7'.out.2.1.lent8 hon H7'.out.2.2.1))
        clear hon H7' dcell
        go_wp2_with fail
        refine (bring_c w8 _ 1000 g _ H8.out.1 (by show N.mv ≤ _; rw [HN.out.2.1.mv]; omega) (d : Int) 1000 HD.out.2.2.1).mono ?_
        rintro e w9 ⟨he, σ9, H9, hc9⟩
        rw [G_bring (NS.put_same _ _ _) HD.out.2.1 rfl rfl 1000 (by simp [idle, HL.out]; omega) (by show ((([] : List Int).length : Nat) : Int) + (((([] : List Int) ++ L).length : Nat) : Int) ≤ N.i; rw [HN.out.2.1.i]; simp [HL.out]; omega)] at he H9
        subst he
        have H9' := Lib.hid (And.intro H9 (H8.out.2.net hc9))
        clear H9 hc9 H8
        go_wp2_with fail
        refine (fetch_c w9 _ 1000 g _ H9'.out.1 (by show N.mv + _ ≤ _; rw [HN.out.2.1.mv]; simp [idle, HL.out]; omega) (d : Int) 1000 HD.out.2.2.1).mono ?_
        rintro e w10 ⟨he, σ10, H10, hc10⟩
        rw [G_fetch (put_same_mv _ _ _ _) HD.out.2.1 rfl rfl 1000 (by simp [idle, HL.out]; omega)] at he H10
        subst he
        have H10' := Lib.hid (And.intro H10 (H9'.out.2.net hc10))
        clear H10 hc10 H9'
        go_wp2_with fail
        obtain ⟨gh2, hgh2⟩ : ∃ x, x = gh := ⟨_, rfl⟩
        have hmb := H10'.out.2.hb
        have d64 := HD.out.2.1
        have hcd : w10.cell? ⟨gh, d, none⟩ = some (v d) := by
          rw [hmb.1.cell]
          rcases HD.out.1 with rfl | rfl <;> rfl
        have hfd := hmb.1.frozen d
        have hrow := H10'.out.2.r d HD.out.1
        obtain ⟨Ad, cd, hvd⟩ := hrow.slice
        rw [hvd] at hcd hrow
        obtain ⟨ld, hld⟩ : ∃ ld, (h d).length = ld := ⟨_, rfl⟩
        rw [hld] at hcd hrow
        have hcop := copied_c w10.drew Ad ld cd (h d) hld (by have := HHL.out; omega) (show Reads w10.drew Ad (bs (h d)) from Reads.of_row hrow.1)
        have Hcop := Lib.hid hcop
        have Hld := Lib.hid (And.intro hld hvd)
        have dcell := (H10'.out.2.st.bel.cell (p := ⟨b0, o0 + k, none⟩) hb0).trans Hcell.out
        have e0 : (0 : Int) ≤ (d : Int) := by omega
        have e1 : (d : Int) < 3 := by rcases HD.out.1 with h | h <;> omega
        have hbl := World.block_lt_of_cell? _ _ dcell
        have hgl := hmb.1.lt
        have Hk := Lib.hid (And.intro hbl hgl)
        have hB : ∀ w', Below w10.drew.heap.size w10.drew w' → Below w.heap.size w w' := fun w' hb => Below.then_ (below_drewN H10'.out.2.st.bel 1) H10'.out.2.st.size hb
        have HB := Lib.hid hB
        have hbg : b0 ≠ gh := by have := Hgh.out; have := hS3s.out; omega
        have hLb : (bs L).length = ni * 1 ∧ ld + ni ≤ maxLen ∧ (ld + ni) * 1 ≤ 140737488355328 := ⟨by rw [bs_length, HL.out, Nat.mul_one], by have := HHL.out; unfold maxLen; omega, by have := HHL.out; omega⟩
        have HLb := Lib.hid hLb
        clear hB hLb
        have HQ : ∃ (N4 : NS) (mv4 : Int), NetAt w10 σ10 1000 g N4 ∧ N4.cs d = some ⟨[], L, [], h d ++ L, false, false⟩ ∧ Two (N4.put d (idle (h d ++ L))) (more h d L) mv4 ∧ 0 ≤ mv4 ∧ mv4 ≤ 200 * ((k : Int) + 1) := by
          refine ⟨_, N.mv + (L.length : Int) + (L.length : Int), H10'.out.1, by rw [put_same_mv]; rfl, HN.out.2.1.turn d L, ?_, ?_⟩
          · rw [HN.out.2.1.mv]; omega
          · rw [HN.out.2.1.mv, HL.out]; omega
        obtain ⟨N4, mv4, hN4, hC4, hT4, hm40, hm41⟩ := HQ
        have H4 := Lib.hid (And.intro hN4 (And.intro hC4 hT4))
        have H10a := Lib.hid H10'.out.2
        clear hN4 hC4 hT4 H10'
        clear hcop hld hvd hrow hmb hgh2 d64
        go_wp2_with fail
        go_cut [] (fun w' => ∃ (An : Option Addr) (cn : Nat) (σ' : Nat → Nat), NetAt w' σ' 1000 g N4 ∧ AI w σ' w' gh (more h d L) (.slice Ak ks.length ck) (.slice Aw ws.length cw) (put_ v d (.slice An (ld + ni) cn)) ks ws [] [])
        case first =>
          go_region_law (first | (rw [if_pos (by rfl)]; go_simp; go_at_call 26; refine Hcop.out.mono ?_; rintro e w11 ⟨vc, rfl, hvc, hb11⟩; obtain ⟨Ac, cc, rfl⟩ := own_slice hvc; have dcell11 := (hb11.cell (p := ⟨b0, o0 + k, none⟩) Hk.out.1).trans dcell; have hcd11 := (hb11.cell (p := ⟨gh, d, none⟩) Hk.out.2).trans hcd; have hfd11 := (World.frozen?_of_block (a := ⟨gh, d, none⟩) (hb11.block gh Hk.out.2)).trans hfd) | (refine step_append_reads (by rfl) _ _ 29 (by rfl) w10.drew.heap.size 5 i1 _ 1 1 Try.underlying29 hi1 hy0 hy1 hy2 rfl (by omega) (.slice Ac ld cc) ld (bs (h d)) (by rfl) hvc Ai ni ci (bs L) (by rfl) HLb.out.1 (Reads.below Hrd.out (HB.out _ hb11)) (bs_one L) HLb.out.2.1 HLb.out.2.2 hb11.size ?_; intro vn w12 hown12 hgrow12 hat12; obtain ⟨An, cn, rfl⟩ := own_slice hown12; have hng := fresh_ne hvc Hk.out.2; have hcd12 := (World.cell?_of_block (a := ⟨gh, d, none⟩) (hgrow12.block gh (Nat.lt_of_lt_of_le Hk.out.2 hb11.size) hng)).trans hcd11; have hfd12 := (World.frozen?_of_block (a := ⟨gh, d, none⟩) (hgrow12.block gh (Nat.lt_of_lt_of_le Hk.out.2 hb11.size) hng)).trans hfd11; have dcell12 := (World.cell?_of_block (a := ⟨b0, o0 + k, none⟩) (hgrow12.block b0 (Nat.lt_of_lt_of_le Hk.out.1 hb11.size) (fresh_ne hvc Hk.out.1))).trans dcell11) | fail)
          all_goals
            have hb12 : Below w10.heap.size w10 w12 := by
              have h0 := below_drewN (Below.refl w10.heap.size w10) 1
              exact (Below.then_ h0 h0.size hb11).grown hgrow12 hb11.size (fun x e => (hvc.lt x e).1)
            have hres := AI.heard H10a.out HD.out.1 L hb12 (.slice An (ld + ni) cn) (by rw [List.length_append, Hld.out.1, HL.out]) (by rw [bs_append]; exact hown12)
            have hcutr := H4.out.1.chg hres.2 (by intro x hx e; unfold Of at hx; omega)
            go_wp2_with fail
            go_meet
            case rel => exact ⟨An, cn, _, hcutr, hres.1⟩
        case rest =>
          clear hcd hfd dcell
          rename World => w13
          obtain ⟨An, cn, σ13, hN13, hA13⟩ := hcut
          have H13 := Lib.hid (And.intro hN13 hA13)
          clear hN13 hA13
          go_wp2_with fail
          refine (take_n w13 σ13 1000 g _ H13.out.1 (d : Int) HD.out.2.2.1).mono ?_
          rintro e w14 ⟨vb, he, σ14, H14, hc14, hrb, hgb⟩
          rw [G_take H4.out.2.1 HD.out.2.1 rfl rfl] at he H14 hrb
          subst he
          have hrb2 : Row w14 σ14 0 5 1 vb ni (bs L) := by rw [← HL.out]; exact hrb
          obtain ⟨Ab, cb, rfl⟩ := hrb2.slice
          have hA14 := (H13.out.2.net hc14).newk w13.heap.size H13.out.2.lt ⟨.slice Ab ni cb, ni, bs L⟩ H13.out.2.st.size hrb2 hgb
          have H14' := Lib.hid (And.intro (show NetAt w14 σ14 1000 g (N4.put d (idle (h d ++ L))) from H14) hA14)
          clear H14 hc14 hrb hgb hrb2 hA14 H13
          have hkl : ks.length = Ls.length := by simpa using congrArg List.length HI.out.1
          have hwl : ws.length = Ls.length := by simpa using congrArg List.length HI.out.2.1
          have hkn75 : ks.length ≤ 75 ∧ ws.length ≤ 75 := by have := HI.out.2.2.1; omega
          have Hkl := Lib.hid hkn75
          clear hkl hwl hkn75
          go_wp2_with (at_builtin; refine wpList_append_own_at _ rfl _ _ 37 rfl 0 29 i0 _ 1 24 Try.underlying37 hi hz0 hz1 hz2 rfl (by omega) (.slice Ak ks.length ck) ks.length (ks.map TRow.v) (by rfl) ?c0 ⟨w14.heap.size, 0, none⟩ 1 1 [.slice Ab ni cb] (by rfl) rfl ?c2 ?c3 ?c4 ?c5 (Nat.zero_le _) ?_)
          case c0 => exact own_below H14'.out.2.ku.1 ((Below.refl _ _).alloc (Nat.le_refl _) _)
          case c2 =>
            intro j u hu
            rw [add_plain, Nat.zero_add, World.cell?_alloc_new]
            simpa using hu
          case c3 =>
            intro u hu
            simp at hu
            subst hu
            rfl
          case c4 => have := Hkl.out; unfold maxLen; omega
          case c5 => have := Hkl.out; omega
          intro u' w15 hku15 hgrow _ hat
          have hba : Below w14.heap.size w14 (w14.alloc (.cells #[.slice Ab ni cb] 29)) := (Below.refl _ _).alloc (Nat.le_refl _) _
          obtain ⟨hA15, hc15⟩ := (H14'.out.2.below hba).pushk (ku' := u') (by simpa using hku15) hgrow (by simpa using hat)
          have hN15 := (H14'.out.1.below hba).chg hc15 (by intro x hx e; unfold Of at hx; omega)
          have hA15' := hA15.ku.1
          simp only [List.nil_append, List.length_append, List.length_cons, List.length_nil, Nat.zero_add] at hA15'
          obtain ⟨Ak2, ck2, rfl⟩ := own_slice hA15'
          have H15 := Lib.hid (And.intro hN15 hA15)
          clear hN15 hA15 hc15 hA15' hku15 hgrow hat hba H14'
          have dcell := (H15.out.2.st.bel.cell (p := ⟨b0, o0 + k, none⟩) hb0).trans Hcell.out
          go_wp2_with fail
          refine (copied_c w15 Ai ni ci L HL.out (by omega) (Reads.below Hrd.out H15.out.2.st.bel)).mono ?_
          rintro e w16 ⟨uc, rfl, hcu, hb16⟩
          obtain ⟨Ac', cc', rfl⟩ := own_slice hcu
          have hN16 := (H15.out.1.upd (Nat.le_refl _) 4).below hb16
          have hA16 := ((H15.out.2.upd 4).below hb16).neww w15.heap.size H15.out.2.lt ⟨.slice Ac' ni cc', ni, bs L⟩ H15.out.2.st.size (Row.fresh hcu 4) (fun b hb => (hcu.lt b hb).1)
          have H16 := Lib.hid (And.intro hN16 hA16)
          clear hN16 hA16 hcu hb16 H15 dcell
          go_wp2_with (at_builtin; refine wpList_append_own_at _ rfl _ _ 37 rfl 0 29 i0 _ 1 24 Try.underlying37 hi hz0 hz1 hz2 rfl (by omega) (.slice Aw ws.length cw) ws.length (ws.map TRow.v) (by rfl) ?c0 ⟨w16.heap.size, 0, none⟩ 1 1 [.slice Ac' ni cc'] (by rfl) rfl ?c2 ?c3 ?c4 ?c5 (Nat.zero_le _) ?_)
          case c0 => exact own_below H16.out.2.wu.1 ((Below.refl _ _).alloc (Nat.le_refl _) _)
          case c2 =>
            intro j u hu
            rw [add_plain, Nat.zero_add, World.cell?_alloc_new]
            simpa using hu
          case c3 =>
            intro u hu
            simp at hu
            subst hu
            rfl
          case c4 => have := Hkl.out; unfold maxLen; omega
          case c5 => have := Hkl.out; omega
          intro u' w17 hwu17 hgrow _ hat
          have hba : Below w16.heap.size w16 (w16.alloc (.cells #[.slice Ac' ni cc'] 29)) := (Below.refl _ _).alloc (Nat.le_refl _) _
          obtain ⟨hA17, hc17⟩ := (H16.out.2.below hba).pushw (wu' := u') (by simpa using hwu17) hgrow (by simpa using hat)
          have hN17 := (H16.out.1.below hba).chg hc17 (by intro x hx e; unfold Of at hx; omega)
          have hA17' := hA17.wu.1
          simp only [List.nil_append, List.length_append, List.length_cons, List.length_nil, Nat.zero_add] at hA17'
          simp only [List.nil_append] at hA17
          obtain ⟨Aw2, cw2, rfl⟩ := own_slice hA17'
          clear hA17'
          have H17 := Lib.hid (And.intro hN17 hA17)
          have HP : ∃ (N5 : NS) (h' : Nat → List Int) (v' : Nat → Value) (ks1 ws1 : List TRow) (Ls1 : List (List Int)) (σ17 : Nat → Nat), ks1.map tells = Ls1.map telling ∧ ws1.map tells = Ls1.map telling ∧ Ls1.length ≤ 5 * k + 1 ∧ (∀ L ∈ Ls1, L.length ≤ 5000) ∧ (∀ d, d = 1 ∨ d = 2 → (h' d).length ≤ 100 * (k + 1)) ∧
              NetAt w17 σ17 1000 g N5 ∧ Two N5 h' mv4 ∧ AI w σ17 w17 gh h' (.slice Ak2 (ks.length + 1) ck2) (.slice Aw2 (ws.length + 1) cw2) v' ks1 ws1 [] [] := by
            refine ⟨_, _, _, _, _, Ls ++ [L], _, ?_, ?_, ?_, ?_, ?_, H17.out.1, H4.out.2.2, H17.out.2⟩
            · rw [List.map_append, List.map_append, HI.out.1, ← HL.out]; rfl
            · rw [List.map_append, List.map_append, HI.out.2.1, ← HL.out]; rfl
            · have := HI.out.2.2.1; simp; omega
            · intro M hM
              rcases List.mem_append.1 hM with hM | hM
              · exact HI.out.2.2.2.1 M hM
              · obtain rfl : M = L := by simpa using hM
                rw [HL.out]; omega
            · intro e he
              have h1 := HI.out.2.2.2.2 e he
              have h2 := HI.out.2.2.2.2 d HD.out.1
              unfold more
              split
              · rw [List.length_append, HL.out]; omega
              · omega
          clear hN17 hA17 hc17 hwu17 hgrow hat hba H16
          obtain ⟨N5, h', v', ks1, ws1, Ls1, σ17, hks1, hws1, hLs1, hL51, hh1, hN17, hT17, hA17⟩ := HP
          have HI1 := Lib.hid (And.intro hks1 (And.intro hws1 (And.intro hLs1 hL51)))
          have HT := Lib.hid (And.intro hh1 hT17)
          have H17' := Lib.hid (And.intro hN17 hA17)
          clear hks1 hws1 hLs1 hL51 hh1 hN17 hT17 hA17 H17
          go_wp2_with fail
          go_loopw [5, 6, 15] (fun ku wu i wr => ∃ (q : Nat) (σ : Nat → Nat) (ks' ws' : List TRow) (Ls' : List (List Int)), 1 ≤ q ∧ q ≤ 3 ∧ i = .int .i64 q ∧ ks'.map tells = Ls'.map telling ∧ ws'.map tells = Ls'.map telling ∧
            Ls'.length + 4 ≤ 5 * k + 3 + 2 * q ∧ (∀ L ∈ Ls', L.length ≤ 5000) ∧ NetAt wr σ 1000 g N5 ∧ AI w σ wr gh h' ku wu v' ks' ws' [] []) (fun _ _ i _ => 3 - (intOf i).toNat)
          case atStart => exact ⟨1, _, ks1, ws1, Ls1, by omega, by omega, rfl, HI1.out.1, HI1.out.2.1, by have := HI1.out.2.2.1; omega, HI1.out.2.2.2, H17'.out.1, H17'.out.2⟩
          case round =>
            clear H17' HI1
            obtain ⟨q, σr, ks', ws', Ls', hq1, hq3, rfl, hks, hws, hLs, hL5, hNr, hAr⟩ := hrel
            obtain ⟨Ar, cr, rfl⟩ := hAr.ku.slice
            obtain ⟨As, cs, rfl⟩ := hAr.wu.slice
            have HIr := Lib.hid (And.intro hks (And.intro hws (And.intro hLs hL5)))
            have HNr := Lib.hid (And.intro hNr hAr)
            have hkl : ks'.length = Ls'.length := by simpa using congrArg List.length hks
            have hwl : ws'.length = Ls'.length := by simpa using congrArg List.length hws
            have hkn75 : ks'.length ≤ 80 ∧ ws'.length ≤ 80 := by omega
            have Hklr := Lib.hid hkn75
            clear hkl hwl hkn75 hks hws hLs hL5 hNr hAr
            by_cases hq : q < 3
            · have hq12 : q = 1 ∨ q = 2 := by omega
              have hqw : (Lit.int .i64 (q : Int)).wf = true := by rcases hq12 with rfl | rfl <;> decide
              have jq : (q : Int) < 3 := by omega
              have jq0 : (0 : Int) ≤ (q : Int) := by omega
              obtain ⟨lq, hlq⟩ : ∃ lq, (h' q).length = lq := ⟨_, rfl⟩
              have hlq2 := HT.out.1 q hq12
              have Hlq := Lib.hid hlq
              have HQ := Lib.hid (And.intro hq12 (And.intro hqw (show lq ≤ 1500 by omega)))
              clear hlq hlq2 hq12 hqw
              go_wp2_with fail
              obtain ⟨kk, hNk⟩ := HNr.out.1
              refine (heard_live wr _ 1000 g _ kk hNk (by rw [HT.out.2.mv]; omega) q HQ.out.2.1 (idle (h' q)) (HT.out.2.cs q HQ.out.1) rfl rfl).mono ?_
              rintro e w18 ⟨vx, rfl, hb18, hx⟩
              clear hNk
              have hx2 : w18.ownsRow wr.heap.size 5 1 vx lq (bs (h' q)) := by rw [← Hlq.out]; exact hx
              obtain ⟨Ax, cx, rfl⟩ := own_slice hx2
              have H18 := Lib.hid (And.intro ((HNr.out.1.upd (Nat.le_refl _) 0).below hb18) (((HNr.out.2.upd 0).below hb18).newk wr.heap.size HNr.out.2.lt ⟨.slice Ax lq cx, lq, bs (h' q)⟩ HNr.out.2.st.size (Row.fresh hx2 0) (fun b hb => (hx2.lt b hb).1)))
              clear hx hx2 hb18 HNr
              go_wp2_with fail
              obtain ⟨kk, hNk⟩ := H18.out.1
              refine (heard_live w18 _ 1000 g _ kk hNk (by rw [HT.out.2.mv]; omega) q HQ.out.2.1 (idle (h' q)) (HT.out.2.cs q HQ.out.1) rfl rfl).mono ?_
              rintro e w19 ⟨vy, rfl, hb19, hy⟩
              clear hNk
              have hy2 : w19.ownsRow w18.heap.size 5 1 vy lq (bs (h' q)) := by rw [← Hlq.out]; exact hy
              obtain ⟨Ay, cy, rfl⟩ := own_slice hy2
              have H19 := Lib.hid (And.intro ((H18.out.1.upd (Nat.le_refl _) 0).below hb19) (((H18.out.2.upd 0).below hb19).newk w18.heap.size H18.out.2.lt ⟨.slice Ay lq cy, lq, bs (h' q)⟩ H18.out.2.st.size (Row.fresh hy2 0) (fun b hb => (hy2.lt b hb).1)))
              clear hy hy2 hb19 H18
              go_wp2_with (at_builtin; refine wpList_append_own_at _ rfl _ _ 37 rfl 0 29 i0 _ 1 24 Try.underlying37 hi hz0 hz1 hz2 rfl (by omega) (.slice Ar ks'.length cr) ks'.length (ks'.map TRow.v) (by rfl) ?c0 ⟨w19.heap.size, 0, none⟩ 2 2 [.slice Ax lq cx, .slice Ay lq cy] (by rfl) rfl ?c2 ?c3 ?c4 ?c5 (Nat.zero_le _) ?_)
              case c0 => exact own_below H19.out.2.ku.1 ((Below.refl _ _).alloc (Nat.le_refl _) _)
              case c2 =>
                intro j u hu
                rw [add_plain, Nat.zero_add, World.cell?_alloc_new]
                simpa using hu
              case c3 =>
                intro u hu
                simp at hu
                rcases hu with rfl | rfl <;> rfl
              case c4 => have := Hklr.out; unfold maxLen; omega
              case c5 => have := Hklr.out; omega
              intro u' w20 hku20 hgrow _ hat
              have hba : Below w19.heap.size w19 (w19.alloc (.cells #[.slice Ax lq cx, .slice Ay lq cy] 29)) := (Below.refl _ _).alloc (Nat.le_refl _) _
              obtain ⟨hA20, hc20⟩ := (H19.out.2.below hba).pushk (ku' := u') (by simpa using hku20) hgrow (by simpa using hat)
              have hN20 := (H19.out.1.below hba).chg hc20 (by intro x hx e; unfold Of at hx; omega)
              have hA20' := hA20.ku.1
              simp only [List.nil_append, List.length_append, List.length_cons, List.length_nil, Nat.zero_add] at hA20'
              obtain ⟨Ar2, cr2, rfl⟩ := own_slice hA20'
              clear hA20'
              simp only [List.nil_append] at hA20
              have H20 := Lib.hid (And.intro hN20 hA20)
              clear hN20 hA20 hc20 hku20 hgrow hat hba H19
              have hmb := H20.out.2.hb
              have hcd : w20.cell? ⟨gh, q, none⟩ = some (v' q) := by
                rw [hmb.1.cell]
                rcases HQ.out.1 with rfl | rfl <;> rfl
              have hrow := H20.out.2.r q HQ.out.1
              obtain ⟨Ad, cd, hvd⟩ := hrow.slice
              rw [hvd] at hcd hrow
              rw [Hlq.out] at hcd hrow
              have hgl := hmb.1.lt
              have hC : ∀ W, Below w20.drew.heap.size w20.drew W → Calls Try.prog 26 #[.slice Ad lq cd] W fun e w' => ∃ A c, e = .returned (.slice A lq c) ∧ w'.ownsRow W.heap.size 5 1 (.slice A lq c) lq (bs (h' q)) ∧ Below W.heap.size W w' ∧ Below w20.drew.heap.size w20.drew w' := by
                intro W hb
                refine (copied_c W Ad lq cd (h' q) Hlq.out (by have := HQ.out.2.2; omega) (Reads.below (show Reads w20.drew Ad (bs (h' q)) from Reads.of_row hrow.1) hb)).mono ?_
                rintro e w' ⟨u, rfl, ho, hb'⟩
                obtain ⟨A, c, rfl⟩ := own_slice ho
                exact ⟨A, c, rfl, ho, hb', Below.then_ hb hb.size hb'⟩
              have HC := Lib.hid hC
              have hK : ∀ W, Below w20.drew.heap.size w20.drew W → W.cell? ⟨gh, q, none⟩ = some (.slice Ad lq cd) := fun W hb => (hb.cell (p := ⟨gh, q, none⟩) hgl).trans hcd
              have HK := Lib.hid hK
              have hfirst : True := trivial
              have hgw : Value.ownBlock (.slice As ws'.length cs) ≠ some gh := by
                intro e
                have h1 := H20.out.2.wu.2 gh e
                have h2 := H20.out.2.hb.2
                omega
              have HGW := Lib.hid hgw
              clear hgw
              clear hC hK hmb hrow
              go_wp2_with fail
              refine wp_last ?_
              intro Kq hKq
              go_cut [6] (fun s6 w' => ∃ (Az : Option Addr) (cz : Nat) (σ' : Nat → Nat) (ws2 : List TRow), s6 = .slice Az (ws'.length + 2) cz ∧ ws2.map tells = (ws'.map tells) ++ [telling (h' q), telling (h' q)] ∧ NetAt w' σ' 1000 g N5 ∧ AI w σ' w' gh h' (.slice Ar2 (ks'.length + 2) cr2) (.slice Az (ws'.length + 2) cz) v' (ks' ++ [⟨.slice Ax lq cx, lq, bs (h' q)⟩, ⟨.slice Ay lq cy, lq, bs (h' q)⟩]) ws2 [] [])
              case first =>
                go_region_held3 (fun w' => w'.cell? ⟨gh, q, none⟩ = some (.slice Ad lq cd)) (first | exact HK.out _ (by first | (with_reducible assumption) | (with_reducible exact Below.refl _ _)) | exact hk24 | go_keep)
                  (first
                    | (refine step_append_reads (by rfl) _ _ 37 (by rfl) 0 29 i0 _ 1 24 Try.underlying37 hi hz0 hz1 hz2 rfl (by omega) (.slice As ws'.length cs) ws'.length (ws'.map TRow.v) (by rfl) (own_below H20.out.2.wu.1 ((below_drewN (Below.refl _ _) 1).trans (hbb2.alloc hbb2.size _))) (some ⟨w22.heap.size, 0, none⟩) 2 2 [.slice A1 lq c1, .slice A2 lq c2] (by rfl) rfl (reads_new w22 _ 29) (by intro u hu; simp at hu; rcases hu with rfl | rfl <;> rfl) (by have := Hklr.out; unfold maxLen; omega) (by have := Hklr.out; omega) (Nat.zero_le _) ?_; intro u24 w24 hwu24 hgrow24 hat24; obtain ⟨A4, c4, rfl⟩ := own_slice hwu24; have hk24 : w24.cell? ⟨gh, q, none⟩ = some (.slice Ad lq cd) := (World.cell?_of_block (a := ⟨gh, q, none⟩) (hgrow24.block gh (Nat.lt_of_lt_of_le (Nat.lt_of_lt_of_le hgl hbb2.size) (by simp)) (fun e => HGW.out e.symm))).trans (HK.out _ (hbb2.alloc hbb2.size _)))
                    | (go_at_call 26; clear hfirst; refine (HC.out _ (Below.refl _ _)).mono ?_; rintro e w21 ⟨A1, c1, rfl, ho1, hb1, hbb1⟩)
                    | (go_at_call 26; refine (HC.out _ hbb1).mono ?_; rintro e w22 ⟨A2, c2, rfl, ho2, hb2, hbb2⟩)
                    | fail)
                all_goals
                  obtain ⟨σ24, hN24, hA24⟩ := (H20.out.2.below (below_drewN (Below.refl _ _) 1)).two (H20.out.1.below (below_drewN (Below.refl _ _) 1)) ho1 hb1 ho2 hb2 _ hwu24 hgrow24 hat24
                  go_wp2_with fail
                  go_meet
                  case rel => exact ⟨A4, c4, σ24, ws' ++ [⟨.slice A1 lq c1, lq, bs (h' q)⟩, ⟨.slice A2 lq c2, lq, bs (h' q)⟩], rfl, by rw [List.map_append, ← Hlq.out]; rfl, hN24, by simpa using hA24⟩
              case rest =>
                rename World => w25
                obtain ⟨Az, cz, σ25, ws2, rfl, hw2, hN25, hA25⟩ := hcut
                refine hKq _ _ ?_
                go_wp2_with fail
                go_roundw
                case rel =>
                  refine ⟨q + 1, σ25, _, ws2, Ls' ++ [h' q, h' q], by omega, by omega, by go_num, ?_, ?_, ?_, ?_, hN25, hA25⟩
                  · rw [List.map_append, List.map_append, HIr.out.1, ← Hlq.out]; rfl
                  · rw [hw2, List.map_append, HIr.out.2.1]; rfl
                  · have := HIr.out.2.2.1; simp; omega
                  · intro M hM
                    rcases List.mem_append.1 hM with hM | hM
                    · exact HIr.out.2.2.2 M hM
                    · obtain rfl : M = h' q := by simpa using hM
                      rw [Hlq.out]; have := HQ.out.2.2; omega
                case measure => simp [intOf]; omega
            · obtain rfl : q = 3 := by omega
              go_wp2_with fail
              go_roundw
              case rel => exact ⟨k + 1, σr, h', v', ks', ws', Ls', N5, mv4, by omega, by omega, by go_num, HIr.out.1, HIr.out.2.1, by have := HIr.out.2.2.1; omega, HIr.out.2.2.2, HT.out.1, hm40, by omega, HNr.out.1, HT.out.2, HNr.out.2⟩
              case measure => simp [intOf]; omega
    · have hkl : ks.length = Ls.length := by simpa using congrArg List.length HI.out.1
      have hwl : ws.length = Ls.length := by simpa using congrArg List.length HI.out.2.1
      have hm75 : Ls.length ≤ 75 := by have := HI.out.2.2.1; omega
      have hT0 : TRows wr 0 5 1 (ks ++ ws) := ⟨fun p hp => own_mono (HN.out.2.2.T.own p (by simpa using hp)) (Nat.zero_le _), by have := HN.out.2.2.T.apart; simpa using this⟩
      have hap := apart_c wr 0 (Nat.zero_le _) ks ws Ls Ls.length hkl hwl (by omega) HI.out.1 HI.out.2.1 HI.out.2.2.2.1 Ak ck Aw cw (by rw [← hkl]; exact HN.out.2.2.ku.1) (by rw [← hwl]; exact HN.out.2.2.wu.1) hT0
      rw [← hwl] at hap
      rw [show Value.slice Ak ws.length ck = Value.slice Ak ks.length ck by rw [hwl, hkl]] at hap
      have Hap := Lib.hid hap
      have hcase : ¬ ((k : Int) < (n : Int)) ∨ ((k : Int) < (n : Int) ∧ ¬ ((k : Int) < 15)) := by omega
      clear hkl hwl hm75 hT0 hap hlt
      rcases hcase with hc | ⟨hc, hc'⟩
      all_goals
        go_wp2_with fail
        refine Hap.out.mono ?_
        rintro e w4 ⟨rfl, hkeep, -, -⟩
        obtain ⟨hF4, hN4⟩ := AI.apart HN.out.2.2 HN.out.1 hkeep
        have H4 := Lib.hid (And.intro hN4 hF4)
        have HT := Lib.hid (And.intro HI.out.2.2.2.2 (And.intro HN.out.2.1 (And.intro hmv0 hmv1)))
        clear hN4 hF4 hkeep Hap HN HI
        go_wp2_with fail
        go_loopw [20] (fun i wr => ∃ (q : Nat) (σ : Nat → Nat) (N : NS), 1 ≤ q ∧ q ≤ 3 ∧ i = .int .i64 q ∧ NetAt wr σ 1000 g N ∧ Two N h mv ∧ AF w σ wr gh h v) (fun i _ => 3 - (intOf i).toNat)
        case atStart => exact ⟨1, _, _, by omega, by omega, rfl, H4.out.1, HT.out.2.1, H4.out.2⟩
        case round =>
          clear H4
          obtain ⟨q, σr, Nr, hq1, hq3, rfl, hNr, hTr, hFr⟩ := hrel
          have HNr := Lib.hid (And.intro hNr (And.intro hTr hFr))
          clear hNr hTr hFr
          by_cases hq : q < 3
          · have hq12 : q = 1 ∨ q = 2 := by omega
            have hqw : (Lit.int .i64 (q : Int)).wf = true := by rcases hq12 with rfl | rfl <;> decide
            have jq : (q : Int) < 3 := by omega
            have jq0 : (0 : Int) ≤ (q : Int) := by omega
            obtain ⟨lq, hlq⟩ : ∃ lq, (h q).length = lq := ⟨_, rfl⟩
            have hlq2 := HT.out.1 q hq12
            have HQ := Lib.hid (And.intro hq12 (And.intro hqw (And.intro hlq (show lq ≤ 1500 by omega))))
            clear hlq hlq2 hq12 hqw
            go_wp2_with fail
            obtain ⟨kk, hNk⟩ := HNr.out.1
            refine (heard_live wr _ 1000 g _ kk hNk (by rw [HNr.out.2.1.mv]; have := HT.out.2.2.2; omega) q HQ.out.2.1 (idle (h q)) (HNr.out.2.1.cs q HQ.out.1) rfl rfl).mono ?_
            rintro e w5 ⟨vx, rfl, hb5, hx⟩
            clear hNk
            have hx2 : w5.ownsRow wr.heap.size 5 1 vx lq (bs (h q)) := by rw [← HQ.out.2.2.1]; exact hx
            obtain ⟨Ax, cx, rfl⟩ := own_slice hx2
            have hR5 : Row w5 (upd σr wr.heap.size 0) 0 5 1 (.slice Ax lq cx) lq (bs (h q)) := Row.fresh hx2 0
            have hF5 : AF w (upd σr wr.heap.size 0) w5 gh h v := (AF.below (⟨HNr.out.2.2.st.upd HNr.out.2.2.st.size 0, ⟨HNr.out.2.2.hb.1, (upd_old HNr.out.2.2.hb.1.lt).trans HNr.out.2.2.hb.2⟩, fun d hd => (HNr.out.2.2.r d hd).upd (Nat.le_refl _) 0⟩ : AF w (upd σr wr.heap.size 0) wr gh h v) hb5)
            have H5 := Lib.hid (And.intro ((HNr.out.1.upd (Nat.le_refl _) 0).below hb5) (And.intro hF5 (And.intro hR5 HNr.out.2.1)))
            clear hx hx2 hb5 HNr hF5 hR5
            go_wp2_with fail
            refine (take_n w5 _ 1000 g _ H5.out.1 (q : Int) HQ.out.2.1).mono ?_
            rintro e w6 ⟨vb, he, σ6, H6, hc6, hrb, hgb⟩
            rw [G_take (H5.out.2.2.2.cs q HQ.out.1) (by have := HQ.out.1; omega) rfl rfl] at he H6 hrb
            subst he
            have hrb2 : Row w6 σ6 0 5 1 vb 0 (bs []) := hrb
            obtain ⟨Ab, cb, rfl⟩ := hrb2.slice
            have hT6 : Two (Nr.put q { idle (h q) with inb := [] }) h mv := ⟨H5.out.2.2.2.i, H5.out.2.2.2.o, H5.out.2.2.2.mv, fun d hd => by
              by_cases hdq : d = q
              · subst hdq; rw [NS.put_same]; rfl
              · rw [NS.put_other _ _ _ _ hdq]; exact H5.out.2.2.2.cs d hd⟩
            have hF6 := H5.out.2.1.net hc6
            have hR6 := H5.out.2.2.1.chg hc6 (by unfold Of; omega)
            obtain ⟨Ad, cd, hvd⟩ := (hF6.r q HQ.out.1).slice
            have hcd : w6.cell? ⟨gh, q, none⟩ = some (.slice Ad lq cd) := by
              rw [hF6.hb.1.cell, ← HQ.out.2.2.1, ← hvd]
              rcases HQ.out.1 with rfl | rfl <;> rfl
            have hrd : w6.ownsRow 0 5 1 (.slice Ad lq cd) lq (bs (h q)) := by
              have h1 := (hF6.r q HQ.out.1).1
              rw [hvd, HQ.out.2.2.1] at h1
              exact h1
            have hq1' := conv_reads (w := w6.drew) (n := lq) (cp := cx) HQ.out.2.2.1 (show Reads w6.drew Ax (bs (h q)) from Reads.of_row hR6.1)
            have hq2' := conv_reads (w := w6.drew) (n := lq) (cp := cd) HQ.out.2.2.1 (show Reads w6.drew Ad (bs (h q)) from Reads.of_row hrd)
            have H6' := Lib.hid (And.intro H6 (And.intro hT6 hF6))
            clear H6 hT6 hF6 hR6 hrd hvd hrb hrb2 hgb hc6 H5
            go_wp2_with fail
            go_region
            go_wp2_with fail
            go_roundw
            case rel => exact ⟨q + 1, _, _, by omega, by omega, by go_num, H6'.out.1.below (below_drewN (Below.refl _ _) 1), H6'.out.2.1, H6'.out.2.2.below (below_drewN (Below.refl _ _) 1)⟩
            case measure => simp [intOf]; omega
          · obtain rfl : q = 3 := by omega
            go_wp2_with fail
            refine (head_c _).mono ?_
            rintro e w9 ⟨rfl, hb9⟩
            go_wp2
            go_ret
            exact ⟨rfl, (HNr.out.2.2.st.below hb9).bel⟩
end Go.Proofs.Ytalabfbnbiagiaa.C
