-- Written by a program for the seat Ytnceikookipdnaa (several functions in one namespace).
import Derived.Test.YtnceikookipdnaaPAll2x0
import Derived.Test.YtnceikookipdnaaPAll2x1
import Derived.Test.YtnceikookipdnaaPAll2x2
import Derived.Test.YtnceikookipdnaaPAll2x3
import Derived.Test.YtnceikookipdnaaPAll2x8
import Derived.Test.YtnceikookipdnaaPAll2x9d
namespace Go.Proofs.Ytnceikookipdnaa.PAll2
open Go.RowKit Go.Proofs.YtnceikookipdnaaW.PrintWords Go.Proofs.YtnceikookipdnaaW.PrintLast Go.Proofs.YtnceikookipdnaaW.PrintMore
attribute [local go_sem] max2_int min2_int max_two min_two max_three min_three max_four min_four   -- for this text's walks alone
set_option linter.unusedVariables false
set_option linter.unusedSimpArgs false

set_option maxHeartbeats 8000000 in
set_option maxRecDepth 100000 in
theorem spatelaw4_PaneTimes.calls (k : Nat) (a0_0 : Int) (a0_1 : Int) (a0_2 : Int) (a1 : Int) (a2 : Int) (r : Bool) (w : World) (h : spatelaw4_PaneTimes.f k a0_0 a0_1 a0_2 a1 a2 = some r) :
  Calls Try.prog 7 #[.agg #[.int .i64 a0_0, .int .i64 a0_1, .int .i64 a0_2], .int .i64 a1, .int .i64 a2] w fun e w' => e = .returned (.bool r) ∧ Below w.heap.size w w' := by
 have hu24 := Try.underlying24
 have HB := Aside0.mk (Below.refl w.heap.size w)
 have H : ((spatelaw4_right.f a0_0 a0_1 a0_2).bind fun t275 => (if t275 = true then ((spatelaw4_within.f a1).bind fun t277 => ((pane_Starts.f k a0_0 a0_1 a0_2 t277).bind fun bt278 => (if bt278.2 = 0 then (spatelaw4_PaneTimes.l0 k t277 a2 bt278.1 0 a0_0 a0_1 a0_2) else (some false)))) else ((spatelaw4_head.f k).bind fun t276 => (some t276)))) = some r := h
 clear h
 replace H := Option.bind_eq_some_iff.mp H
 obtain ⟨t275, A40, H⟩ := H
 replace H : (if t275 = true then ((spatelaw4_within.f a1).bind fun t277 => ((pane_Starts.f k a0_0 a0_1 a0_2 t277).bind fun bt278 => (if bt278.2 = 0 then (spatelaw4_PaneTimes.l0 k t277 a2 bt278.1 0 a0_0 a0_1 a0_2) else (some false)))) else ((spatelaw4_head.f k).bind fun t276 => (some t276))) = some r := H
 have A4 := Aside0.mk A40
 clear A40
 by_cases c5 : t275 = true
 ·subst c5
  have H1 : ((spatelaw4_within.f a1).bind fun t277 => ((pane_Starts.f k a0_0 a0_1 a0_2 t277).bind fun bt278 => (if bt278.2 = 0 then (spatelaw4_PaneTimes.l0 k t277 a2 bt278.1 0 a0_0 a0_1 a0_2) else (some false)))) = some r := by rw [if_pos rfl] at H; exact H
  clear H
  have H := H1
  clear H1
  replace H := Option.bind_eq_some_iff.mp H
  obtain ⟨t277, A60, H⟩ := H
  replace H : ((pane_Starts.f k a0_0 a0_1 a0_2 t277).bind fun bt278 => (if bt278.2 = 0 then (spatelaw4_PaneTimes.l0 k t277 a2 bt278.1 0 a0_0 a0_1 a0_2) else (some false))) = some r := H
  have A6 := Aside0.mk A60
  clear A60
  replace H := Option.bind_eq_some_iff.mp H
  obtain ⟨⟨t278, t281⟩, A70, H⟩ := H
  replace H : (if t281 = 0 then (spatelaw4_PaneTimes.l0 k t277 a2 t278 0 a0_0 a0_1 a0_2) else (some false)) = some r := H
  have A7 := Aside0.mk A70
  clear A70
  by_cases c8 : t281 = 0
  ·rw [if_pos c8] at H
   have c8b0 : (t281 == 0) = true := beq_iff_eq.mpr c8
   have c8b1 : (t281 != 0) = false := bne_eq_false_iff_eq.mpr c8
   clear c8
   have H' := Aside0.mk H
   clear H
   go_enter Try.func7, Try.ntmps7
   go_wp2_with (first | ((with_reducible refine gate_dst (N := 3) rfl ?_); refine box_event ?hg (N := 3) ?hd (cs := #[.int .i64 a0_0, .int .i64 a0_1, .int .i64 a0_2]) (t := 24) ?hr ?_; (case hd => rfl); (case hg => rfl); (case hr => first | (go_simp; done) | (go_simp; rfl)); intro gb274 hg w9 hbox hb; have n0_ := Aside0.mk (below_step (by repeat (first | (with_reducible first | exact HB.out | apply below_alloc | apply pw_below_drewN | apply below_drew1) | exact HB.out)) hb); have n1_ := Aside0.mk (hbox); have n2_ := Aside0.mk ((by rw [hg]; exact (below_size (by repeat (first | (with_reducible first | exact HB.out | apply below_alloc | apply pw_below_drewN | apply below_drew1) | exact HB.out))) : w.heap.size ≤ gb274)); have n3_ := Aside0.mk ((by rw [hg]; exact (below_size (by repeat (first | (with_reducible first | exact HB.out | apply below_alloc | apply pw_below_drewN | apply below_drew1) | exact HB.out))) : w.heap.size ≤ gb274)); clear HB; have HB := n0_; have BK274 := n1_; have GW274 := n2_; have GE274 := n3_; clear n0_ n1_ n2_ n3_; clear hb hbox hg; have hcz10_0 : w9.cell? ⟨gb274, 0, none⟩ = some (.int .i64 a0_0) := (blk_cell BK274.out 0).trans rfl; have hcz10_1 : w9.cell? ⟨gb274, 1, none⟩ = some (.int .i64 a0_1) := (blk_cell BK274.out 1).trans rfl; have hcz10_2 : w9.cell? ⟨gb274, 2, none⟩ = some (.int .i64 a0_2) := (blk_cell BK274.out 2).trans rfl; have hfz10_0 := blk_frozen BK274.out 0; have hfz10_1 := blk_frozen BK274.out 1; have hfz10_2 := blk_frozen BK274.out 2) | ((with_reducible refine gate_callee (f := 19) rfl ?_); refine goesL_ (some 13) rfl rfl Try.func19 (by kernel_rfl) rfl #[.agg #[.int .i64 a0_0, .int .i64 a0_1, .int .i64 a0_2]] rfl (by (try simp only [List.map_toArray, List.map_cons, List.map_nil]); first | done | rfl | (simp only [List.length_drop, List.length_take]; rfl)) ?_; (with_reducible refine (spatelaw4_right.calls a0_0 a0_1 a0_2 true _ A4.out).mono ?_); rintro e w11 ⟨rfl, hb⟩; refine ⟨_, rfl, ?_⟩; have n0_ := Aside0.mk (blk_below (g := gb274) (o := .cells #[.int .i64 a0_0, .int .i64 a0_1, .int .i64 a0_2] 24 (0, 0)) (by (with_reducible repeat (first | refine blk_drewN ?_ _ | refine blk_drew ?_ | refine blk_alloc ?_ _)); exact BK274.out) hb); have n1_ := Aside0.mk (below_step (by repeat (first | (with_reducible first | exact HB.out | apply below_alloc | apply pw_below_drewN | apply below_drew1 | refine below_set ?_ GE274.out) | exact HB.out)) hb); clear BK274; clear HB; have BK274 := n0_; have HB := n1_; clear n0_ n1_; (try clear hb); (try clear hb2); (try clear hk); (try clear hi)) | ((with_reducible refine gate_callee (f := 20) rfl ?_); refine goesL_ (some 17) rfl rfl Try.func20 (by kernel_rfl) rfl #[.int .i64 a1] rfl (by (try simp only [List.map_toArray, List.map_cons, List.map_nil]); first | done | rfl | (simp only [List.length_drop, List.length_take]; rfl)) ?_; (with_reducible refine (spatelaw4_within.calls a1 t277 _ A6.out).mono ?_); rintro e w' ⟨rfl, ⟨nd, rfl⟩⟩; refine ⟨_, rfl, ?_⟩; have hcz12_0 : w11.cell? ⟨gb274, 0, none⟩ = some (.int .i64 a0_0) := (blk_cell BK274.out 0).trans rfl; have hcz12_1 : w11.cell? ⟨gb274, 1, none⟩ = some (.int .i64 a0_1) := (blk_cell BK274.out 1).trans rfl; have hcz12_2 : w11.cell? ⟨gb274, 2, none⟩ = some (.int .i64 a0_2) := (blk_cell BK274.out 2).trans rfl; have hfz12_0 := blk_frozen BK274.out 0; have hfz12_1 := blk_frozen BK274.out 1; have hfz12_2 := blk_frozen BK274.out 2) | ((with_reducible refine gate_callee (f := 16) rfl ?_); refine goesL_ (some 21) rfl rfl Try.func16 (by kernel_rfl) rfl #[.agg #[.int .i64 a0_0, .int .i64 a0_1, .int .i64 a0_2], .int .i64 t277] rfl (by (try simp only [List.map_toArray, List.map_cons, List.map_nil]); first | done | rfl | (simp only [List.length_drop, List.length_take]; rfl)) ?_; (with_reducible refine (pane_Starts.calls k a0_0 a0_1 a0_2 t277 t278 t281 _ A7.out).mono ?_); rintro e w13 ⟨v279, rfl, ho0, hb⟩; refine ⟨_, rfl, ?_⟩; have n0_ := Aside0.mk (Kd.R_lower ho0 (below_size (by repeat (first | (with_reducible first | exact HB.out | apply below_alloc | apply pw_below_drewN | apply below_drew1 | refine below_set ?_ GE274.out) | exact HB.out)))); have n1_ := Aside0.mk (blk_below (g := gb274) (o := .cells #[.int .i64 a0_0, .int .i64 a0_1, .int .i64 a0_2] 24 (0, 0)) (by (with_reducible repeat (first | refine blk_drewN ?_ _ | refine blk_drew ?_ | refine blk_alloc ?_ _)); exact BK274.out) hb); have n2_ := Aside0.mk (below_step (by repeat (first | (with_reducible first | exact HB.out | apply below_alloc | apply pw_below_drewN | apply below_drew1 | refine below_set ?_ GE274.out) | exact HB.out)) hb); clear BK274; clear HB; have HO280 := n0_; have BK274 := n1_; have HB := n2_; clear n0_ n1_ n2_; (try clear hb); (try clear hb2); (try clear hk); (try clear hi); (try clear ho0)))
   go_loopg [9] k (fun kq v9 w' => ∃ (x9_1 : Int), v9 = .int .i64 x9_1 ∧ Aside0 (spatelaw4_PaneTimes.l0 kq t277 a2 t278 x9_1 a0_0 a0_1 a0_2 = some r) ∧ Aside0 (kq ≤ k) ∧ Aside0 (Kd.R (Kd.int .i64) 2 w' w.heap.size (fun _ => True) v279 t278) ∧ Aside0 (w'.heap[gb274]? = some (.cells #[.int .i64 a0_0, .int .i64 a0_1, .int .i64 a0_2] 24 (0, 0))) ∧ Aside0 (Below w.heap.size w w'))
   case atStart => exact ⟨(0), (by first | rfl | (simp; done) | (simp [*]; done)), H', ⟨Nat.le_refl _⟩, ⟨by (with_reducible repeat (first | apply Kd.R_alloc | apply Kd.R_drewN | apply Kd.R_drew)); exact HO280.out⟩, ⟨by (with_reducible repeat (first | refine blk_drewN ?_ _ | refine blk_drew ?_ | refine blk_alloc ?_ _)); exact BK274.out⟩, ⟨by repeat (first | (with_reducible first | exact HB.out | apply below_alloc | apply pw_below_drewN | apply below_drew1 | refine below_set ?_ GE274.out) | exact HB.out)⟩⟩
   case round =>
    clear H'
    try clear c1
    try clear c2
    try clear p2
    try clear c5
    try clear c7
    try clear c8
    try clear c8b0
    try clear c8b1
    try clear hcz10_0
    try clear hcz10_1
    try clear hcz10_2
    try clear hcz12_0
    try clear hcz12_1
    try clear hcz12_2
    try clear hfz10_0
    try clear hfz10_1
    try clear hfz10_2
    try clear hfz12_0
    try clear hfz12_1
    try clear hfz12_2
    obtain ⟨x9_1, rfl, HA, HK1, HO_7, BK274, HB⟩ := hrel
    cases gk with
    | zero => exact absurd HA.out (by simp [spatelaw4_PaneTimes.l0])
    | succ k1 =>
     have H := HA.out
     clear HA
     simp only [spatelaw4_PaneTimes.l0] at H
     by_cases c14 : x9_1 < (t278.length : Int)
     ·rw [if_pos c14] at H
      have c14b0 : decide (x9_1 < (t278.length : Int)) = true := decide_eq_true c14
      clear c14
      by_cases c15 : 0 ≤ x9_1
      ·rw [if_pos c15] at H
       have c15b0 : decide (0 ≤ x9_1) = true := decide_eq_true c15
       clear c15
       replace H := Option.bind_eq_some_iff.mp H
       obtain ⟨t284, A160, H⟩ := H
       replace H : (if (rd t278 x9_1) > t277 then (spatelaw4_PaneTimes.j1 k1 t277 a2 t278 x9_1 t284 true a0_0 a0_1 a0_2) else (if t284 ≤ t277 then (spatelaw4_PaneTimes.j1 k1 t277 a2 t278 x9_1 t284 true a0_0 a0_1 a0_2) else (if (wrap64 (t284 - (rd t278 x9_1))) = a0_0 then ((spatelaw4_has.f k1 a0_0 a0_1 a0_2 (rd t278 x9_1) (rd t278 x9_1)).bind fun t289 => (if t289 = true then ((spatelaw4_has.f k1 a0_0 a0_1 a0_2 (wrap64 (t284 - 1)) (rd t278 x9_1)).bind fun t291 => (if t291 = true then ((spatelaw4_has.f k1 a0_0 a0_1 a0_2 t284 (rd t278 x9_1)).bind fun t293 => (if t293 = true then (spatelaw4_PaneTimes.j1 k1 t277 a2 t278 x9_1 t284 true a0_0 a0_1 a0_2) else ((spatelaw4_has.f k1 a0_0 a0_1 a0_2 (wrap64 ((rd t278 x9_1) - 1)) (rd t278 x9_1)).bind fun t296 => (spatelaw4_PaneTimes.j1 k1 t277 a2 t278 x9_1 t284 t296 a0_0 a0_1 a0_2)))) else (spatelaw4_PaneTimes.j1 k1 t277 a2 t278 x9_1 t284 true a0_0 a0_1 a0_2))) else (spatelaw4_PaneTimes.j1 k1 t277 a2 t278 x9_1 t284 true a0_0 a0_1 a0_2))) else (spatelaw4_PaneTimes.j1 k1 t277 a2 t278 x9_1 t284 true a0_0 a0_1 a0_2)))) = some r := H
       have A16 := Aside0.mk A160
       clear A160
       have HC17 := Aside0.mk H
       clear H
       obtain ⟨Ao18, co18, eo18⟩ := Kd.R_slice HO_7.out
       subst eo18
       try go_wp2
       have n0_ := Aside0.mk (Kd.R_drew HO_7.out)
       have n1_ := Aside0.mk (blk_drew BK274.out)
       have n2_ := Aside0.mk (below_drew1 HB.out)
       clear HO_7
       clear BK274
       clear HB
       have HO_7 := n0_
       have BK274 := n1_
       have HB := n2_
       clear n0_ n1_ n2_
       have p283 : 0 ≤ (x9_1 : Int) := of_decide_eq_true (by first | (with_reducible assumption) | assumption)
       have q283 : x9_1 < (t278.length : Int) := of_decide_eq_true (by first | (with_reducible assumption) | assumption)
       obtain ⟨ad283, e283, hx283_0⟩ := Kd.at_int (Kd.R_reads' HO_7.out).2.2 x9_1 p283 q283
       cases e283
       replace p283 := eq_true p283
       replace q283 := eq_true q283
       refine start_ (n := 7) (S := fun w' => w'.cell? ⟨gb274, 0, none⟩ = some (.int .i64 a0_0) ∧ w'.cell? ⟨gb274, 1, none⟩ = some (.int .i64 a0_1) ∧ w'.cell? ⟨gb274, 2, none⟩ = some (.int .i64 a0_2) ∧ w'.cell? (ad283.add (x9_1).toNat) = some (.int .i64 (rd t278 x9_1))) (ds := []) ba0 (by kernel_rfl) rfl rfl ⟨(blk_cell BK274.out 0).trans rfl, (blk_cell BK274.out 1).trans rfl, (blk_cell BK274.out 2).trans rfl, hx283_0⟩ (fun hHeld => ?_)
       generalize wr.drew = w19 at HO_7 BK274 HB hx283_0 hHeld ⊢
       refine pL 1 33 ba1 (v := ?_) (a' := ?_) rfl rfl (by kernel_rfl) (fun _ _ _ h => h) (Or.inl ⟨by rfl, ?_⟩) ?_ ?_
       rotate_left; · intro w'; go_simp; with_reducible rfl
       rotate_left; · simp only [Act.put, sq1, sq2, sq3, i64_w, i32_w]; rfl
       refine pL 2 34 ba2 (v := ?_) (a' := ?_) rfl rfl (by kernel_rfl) (fun _ _ _ h => h) (Or.inl ⟨by rfl, ?_⟩) ?_ ?_
       rotate_left; · intro w'; go_simp; with_reducible rfl
       rotate_left; · simp only [Act.put, sq1, sq2, sq3, i64_w, i32_w]; rfl
       refine pL 3 35 ba3 (v := ?_) (a' := ?_) rfl rfl (by kernel_rfl) (fun _ _ _ h => h) (Or.inl ⟨by rfl, ?_⟩) ?_ ?_
       rotate_left; · intro w'; go_simp; with_reducible rfl
       rotate_left; · simp only [Act.put, sq1, sq2, sq3, i64_w, i32_w]; rfl
       refine take_ (i := 0) (N := some 32) (v := ?_) (a' := ?_) ba4 rfl rfl (by kernel_rfl) (fun _ _ _ h => h) (Or.inl ⟨by rfl, ?_⟩) hHeld ?_ ?_
       rotate_left
       ·rintro w' ⟨s0, s1, s2, s3⟩
        go_simp
        with_reducible rfl
       rotate_left; · simp only [Act.put, sq1, sq2, sq3, i64_w, i32_w]; rfl
       refine take_ (i := 4) (N := some 36) (v := ?_) (a' := ?_) ba5 rfl rfl (by kernel_rfl) (fun _ _ _ h => h) (Or.inl ⟨by rfl, ?_⟩) hHeld ?_ ?_
       rotate_left
       ·rintro w' ⟨s0, s1, s2, s3⟩
        go_simp
        with_reducible rfl
       rotate_left; · simp only [Act.put, sq1, sq2, sq3, i64_w, i32_w]; rfl
       refine one_ (i := 5) (N := some 37) ba6 rfl rfl (by kernel_rfl) (by decide) (fun K hK => ?_)
       refine goes_ Try.func21 (by kernel_rfl) rfl #[.agg #[.int .i64 a0_0, .int .i64 a0_1, .int .i64 a0_2], .int .i64 (rd t278 x9_1)] (by rfl) rfl rfl (by (try simp only [List.map_toArray, List.map_cons, List.map_nil]); first | done | rfl | (simp only [List.length_drop, List.length_take]; rfl)) ?_
       with_reducible refine (pane_End.calls a0_0 a0_1 a0_2 (rd t278 x9_1) t284 _ A16.out).mono ?_
       rintro e w20 ⟨rfl, hb⟩
       have HS3_ := (hb.cell (World.block_lt_of_cell? _ _ (hHeld.2.2.2))).trans (hHeld.2.2.2)
       refine ⟨_, rfl, ?_⟩
       have n0_ := Aside0.mk (Kd.R_below (by (with_reducible repeat (first | apply Kd.R_alloc | apply Kd.R_drewN | apply Kd.R_drew)); exact HO_7.out) hb)
       have n1_ := Aside0.mk (blk_below (g := gb274) (o := .cells #[.int .i64 a0_0, .int .i64 a0_1, .int .i64 a0_2] 24 (0, 0)) (by (with_reducible repeat (first | refine blk_drewN ?_ _ | refine blk_drew ?_ | refine blk_alloc ?_ _)); exact BK274.out) hb)
       have n2_ := Aside0.mk (below_step (by repeat (first | (with_reducible first | exact HB.out | apply below_alloc | apply pw_below_drewN | apply below_drew1 | refine below_set ?_ GE274.out) | exact HB.out)) hb)
       clear HO_7
       clear BK274
       clear HB
       have HO_7 := n0_
       have BK274 := n1_
       have HB := n2_
       clear n0_ n1_ n2_
       (try clear hb)
       (try clear hb2)
       (try clear hk)
       (try clear hi)
       refine hK.out _ _ ⟨(blk_cell BK274.out 0).trans rfl, (blk_cell BK274.out 1).trans rfl, (blk_cell BK274.out 2).trans rfl, HS3_⟩ (fun hHeld => ?_)
       clear hK K
       refine norm_ (a' := ?_) ?_ ?_
       rotate_left
       ·show Act.put _ (some 37) _ = _
        simp only [Act.put, sq1, sq2, sq3, i64_w, i32_w]
        rfl
       refine pL 6 10 ba7 (v := ?_) (a' := ?_) rfl rfl (by kernel_rfl) (fun _ _ _ h => h) (Or.inl ⟨by rfl, ?_⟩) ?_ ?_
       rotate_left; · intro w'; go_simp; with_reducible rfl
       rotate_left; · simp only [Act.put, sq1, sq2, sq3, i64_w, i32_w]; rfl
       refine done_ (by kernel_rfl) ?_
       go_upto_region 11 with (fail)
       go_cut [105] (fun v105 wc => ∃ (kq : Nat) (x105_16 : Bool), v105 = .bool x105_16 ∧ Aside0 (spatelaw4_PaneTimes.j1 kq t277 a2 t278 x9_1 t284 x105_16 a0_0 a0_1 a0_2 = some r) ∧ Aside0 (kq ≤ k1) ∧ Aside0 (Kd.R (Kd.int .i64) 2 wc w.heap.size (fun _ => True) (.slice (some ad283) t278.length co18) t278) ∧ Aside0 (wc.heap[gb274]? = some (.cells #[.int .i64 a0_0, .int .i64 a0_1, .int .i64 a0_2] 24 (0, 0))) ∧ Aside0 (Below w.heap.size w wc))
       case first =>
        have H := HC17.out
        clear HC17
        by_cases c21 : (rd t278 x9_1) > t277
        ·rw [if_pos c21] at H
         have c21b0 : decide (t277 < (rd t278 x9_1)) = true := decide_eq_true c21
         clear c21
         (first | rw [c21b0] | (simp only [i64_w, i32_w]; rw [c21b0]) | skip)
         have H' := Aside0.mk H
         clear H
         try go_wp2
         have n0_ := Aside0.mk (Kd.R_drew HO_7.out)
         have n1_ := Aside0.mk (blk_drew BK274.out)
         have n2_ := Aside0.mk (below_drew1 HB.out)
         clear HO_7
         clear BK274
         clear HB
         have HO_7 := n0_
         have BK274 := n1_
         have HB := n2_
         clear n0_ n1_ n2_
         have p285 : 0 ≤ (x9_1 : Int) := of_decide_eq_true (by first | (with_reducible assumption) | assumption)
         have q285 : x9_1 < (t278.length : Int) := of_decide_eq_true (by first | (with_reducible assumption) | assumption)
         obtain ⟨ad285, e285, hx285_0⟩ := Kd.at_int (Kd.R_reads' HO_7.out).2.2 x9_1 p285 q285
         obtain rfl : ad283 = ad285 := (by injection e285)
         replace p285 := eq_true p285
         replace q285 := eq_true q285
         refine start_ (n := 68) (S := fun w' => w'.cell? (ad283.add (x9_1).toNat) = some (.int .i64 (rd t278 x9_1))) (ds := []) ba8 (by kernel_rfl) rfl rfl (hx285_0) (fun hHeld => ?_); refine with_tabW spatelaw4_PaneTimes.tab11 spatelaw4_PaneTimes.bits11 (fun HT_ HW_ => ?_)
         generalize w20.drew = w22 at HO_7 BK274 HB hx285_0 hHeld ⊢
         refine pL 0 38 ba9 (v := ?_) (a' := ?_) rfl rfl (any_of HT_.out (by kernel_rfl)) (fun _ _ _ h => h) (Or.inl ⟨by rfl, ?_⟩) ?_ ?_
         rotate_left; · intro w'; go_simp; with_reducible rfl
         rotate_left; · simp only [Act.put, sq1, sq2, sq3, i64_w, i32_w]; rfl
         refine pL 1 39 ba10 (v := ?_) (a' := ?_) rfl rfl (any_of HT_.out (by kernel_rfl)) (fun _ _ _ h => h) (Or.inl ⟨by rfl, ?_⟩) ?_ ?_
         rotate_left; · intro w'; go_simp; with_reducible rfl
         rotate_left; · simp only [Act.put, sq1, sq2, sq3, i64_w, i32_w]; rfl
         refine pL 2 40 ba11 (v := ?_) (a' := ?_) rfl rfl (any_of HT_.out (by kernel_rfl)) (fun _ _ _ h => h) (Or.inl ⟨by rfl, ?_⟩) ?_ ?_
         rotate_left; · intro w'; go_simp; with_reducible rfl
         rotate_left; · simp only [Act.put, sq1, sq2, sq3, i64_w, i32_w]; rfl
         refine pL 4 42 ba12 (v := ?_) (a' := ?_) rfl rfl (any_of HT_.out (by kernel_rfl)) (fun _ _ _ h => h) (Or.inl ⟨by rfl, ?_⟩) ?_ ?_
         rotate_left; · intro w'; go_simp; with_reducible rfl
         rotate_left; · simp only [Act.put, sq1, sq2, sq3, i64_w, i32_w]; rfl
         refine take_ (i := 3) (N := some 41) (v := ?_) (a' := ?_) ba13 rfl rfl (take_ofW HT_.out HW_.out (by kernel_rfl)) (fun _ _ _ h => h) (Or.inl ⟨by rfl, ?_⟩) hHeld ?_ ?_
         rotate_left
         ·intro w' s0
          go_simp
          with_reducible rfl
         rotate_left; · simp only [Act.put, sq1, sq2, sq3, i64_w, i32_w]; rfl
         refine pL 5 43 ba14 (v := ?_) (a' := ?_) rfl rfl (any_of HT_.out (by kernel_rfl)) (fun _ _ _ h => h) (Or.inl ⟨by rfl, ?_⟩) ?_ ?_
         rotate_left; · intro w'; go_simp; with_reducible rfl
         rotate_left; · simp only [Act.put, sq1, sq2, sq3, i64_w, i32_w]; rfl
         refine pL 6 44 ba15 (v := ?_) (a' := ?_) rfl rfl (any_of HT_.out (by kernel_rfl)) (fun _ _ _ h => h) (Or.inl ⟨by rfl, ?_⟩) ?_ ?_
         rotate_left; · intro w'; go_simp; with_reducible rfl
         rotate_left; · simp only [Act.put, sq1, sq2, sq3, i64_w, i32_w]; rfl
         refine pR 7 45 ba16 (a' := ?_) rfl rfl (any_of HT_.out (by kernel_rfl)) (fun _ _ _ h => h) (Or.inr ⟨by rfl, rfl⟩) ?_ ?_
         rotate_left; · simp only [Act.put, sq1, sq2, sq3, i64_w, i32_w]; rfl
         refine pR 8 46 ba17 (a' := ?_) rfl rfl (any_of HT_.out (by kernel_rfl)) (fun _ _ _ h => h) (Or.inr ⟨by rfl, rfl⟩) ?_ ?_
         rotate_left; · simp only [Act.put, sq1, sq2, sq3, i64_w, i32_w]; rfl
         refine pR 9 47 ba18 (a' := ?_) rfl rfl (any_of HT_.out (by kernel_rfl)) (fun _ _ _ h => h) (Or.inr ⟨by rfl, rfl⟩) ?_ ?_
         rotate_left; · simp only [Act.put, sq1, sq2, sq3, i64_w, i32_w]; rfl
         refine pL 10 48 ba19 (v := ?_) (a' := ?_) rfl rfl (any_of HT_.out (by kernel_rfl)) (fun _ _ _ h => h) (Or.inl ⟨by rfl, ?_⟩) ?_ ?_
         rotate_left; · intro w'; go_simp; with_reducible rfl
         rotate_left; · simp only [Act.put, sq1, sq2, sq3, i64_w, i32_w]; rfl
         refine pL 11 49 ba20 (v := ?_) (a' := ?_) rfl rfl (any_of HT_.out (by kernel_rfl)) (fun _ _ _ h => h) (Or.inl ⟨by rfl, ?_⟩) ?_ ?_
         rotate_left; · intro w'; go_simp; with_reducible rfl
         rotate_left; · simp only [Act.put, sq1, sq2, sq3, i64_w, i32_w]; rfl
         refine pR 12 50 ba21 (a' := ?_) rfl rfl (any_of HT_.out (by kernel_rfl)) (fun _ _ _ h => h) (Or.inr ⟨by rfl, rfl⟩) ?_ ?_
         rotate_left; · simp only [Act.put, sq1, sq2, sq3, i64_w, i32_w]; rfl
         refine pR 13 51 ba22 (a' := ?_) rfl rfl (any_of HT_.out (by kernel_rfl)) (fun _ _ _ h => h) (Or.inr ⟨by rfl, rfl⟩) ?_ ?_
         rotate_left; · simp only [Act.put, sq1, sq2, sq3, i64_w, i32_w]; rfl
         refine pR 14 52 ba23 (a' := ?_) rfl rfl (any_of HT_.out (by kernel_rfl)) (fun _ _ _ h => h) (Or.inr ⟨by rfl, rfl⟩) ?_ ?_
         rotate_left; · simp only [Act.put, sq1, sq2, sq3, i64_w, i32_w]; rfl
         refine pR 15 53 ba24 (a' := ?_) rfl rfl (any_of HT_.out (by kernel_rfl)) (fun _ _ _ h => h) (Or.inr ⟨by rfl, rfl⟩) ?_ ?_
         rotate_left; · simp only [Act.put, sq1, sq2, sq3, i64_w, i32_w]; rfl
         refine pR 16 54 ba25 (a' := ?_) rfl rfl (any_of HT_.out (by kernel_rfl)) (fun _ _ _ h => h) (Or.inr ⟨by rfl, rfl⟩) ?_ ?_
         rotate_left; · simp only [Act.put, sq1, sq2, sq3, i64_w, i32_w]; rfl
         refine pR 17 55 ba26 (a' := ?_) rfl rfl (any_of HT_.out (by kernel_rfl)) (fun _ _ _ h => h) (Or.inr ⟨by rfl, rfl⟩) ?_ ?_
         rotate_left; · simp only [Act.put, sq1, sq2, sq3, i64_w, i32_w]; rfl
         refine pR 18 56 ba27 (a' := ?_) rfl rfl (any_of HT_.out (by kernel_rfl)) (fun _ _ _ h => h) (Or.inr ⟨by rfl, rfl⟩) ?_ ?_
         rotate_left; · simp only [Act.put, sq1, sq2, sq3, i64_w, i32_w]; rfl
         refine pR 19 57 ba28 (a' := ?_) rfl rfl (any_of HT_.out (by kernel_rfl)) (fun _ _ _ h => h) (Or.inr ⟨by rfl, rfl⟩) ?_ ?_
         rotate_left; · simp only [Act.put, sq1, sq2, sq3, i64_w, i32_w]; rfl
         refine pR 20 58 ba29 (a' := ?_) rfl rfl (any_of HT_.out (by kernel_rfl)) (fun _ _ _ h => h) (Or.inr ⟨by rfl, rfl⟩) ?_ ?_
         rotate_left; · simp only [Act.put, sq1, sq2, sq3, i64_w, i32_w]; rfl
         refine pL 21 59 ba30 (v := ?_) (a' := ?_) rfl rfl (any_of HT_.out (by kernel_rfl)) (fun _ _ _ h => h) (Or.inl ⟨by rfl, ?_⟩) ?_ ?_
         rotate_left; · intro w'; go_simp; with_reducible rfl
         rotate_left; · simp only [Act.put, sq1, sq2, sq3, i64_w, i32_w]; rfl
         refine pL 22 60 ba31 (v := ?_) (a' := ?_) rfl rfl (any_of HT_.out (by kernel_rfl)) (fun _ _ _ h => h) (Or.inl ⟨by rfl, ?_⟩) ?_ ?_
         rotate_left; · intro w'; go_simp; with_reducible rfl
         rotate_left; · simp only [Act.put, sq1, sq2, sq3, i64_w, i32_w]; rfl
         refine pR 23 61 ba32 (a' := ?_) rfl rfl (any_of HT_.out (by kernel_rfl)) (fun _ _ _ h => h) (Or.inr ⟨by rfl, rfl⟩) ?_ ?_
         rotate_left; · simp only [Act.put, sq1, sq2, sq3, i64_w, i32_w]; rfl
         refine pR 24 62 ba33 (a' := ?_) rfl rfl (any_of HT_.out (by kernel_rfl)) (fun _ _ _ h => h) (Or.inr ⟨by rfl, rfl⟩) ?_ ?_
         rotate_left; · simp only [Act.put, sq1, sq2, sq3, i64_w, i32_w]; rfl
         refine pR 25 63 ba34 (a' := ?_) rfl rfl (any_of HT_.out (by kernel_rfl)) (fun _ _ _ h => h) (Or.inr ⟨by rfl, rfl⟩) ?_ ?_
         rotate_left; · simp only [Act.put, sq1, sq2, sq3, i64_w, i32_w]; rfl
         refine pR 26 64 ba35 (a' := ?_) rfl rfl (any_of HT_.out (by kernel_rfl)) (fun _ _ _ h => h) (Or.inr ⟨by rfl, rfl⟩) ?_ ?_
         rotate_left; · simp only [Act.put, sq1, sq2, sq3, i64_w, i32_w]; rfl
         refine pR 27 65 ba36 (a' := ?_) rfl rfl (any_of HT_.out (by kernel_rfl)) (fun _ _ _ h => h) (Or.inr ⟨by rfl, rfl⟩) ?_ ?_
         rotate_left; · simp only [Act.put, sq1, sq2, sq3, i64_w, i32_w]; rfl
         refine pR 28 66 ba37 (a' := ?_) rfl rfl (any_of HT_.out (by kernel_rfl)) (fun _ _ _ h => h) (Or.inr ⟨by rfl, rfl⟩) ?_ ?_
         rotate_left; · simp only [Act.put, sq1, sq2, sq3, i64_w, i32_w]; rfl
         refine pR 29 67 ba38 (a' := ?_) rfl rfl (any_of HT_.out (by kernel_rfl)) (fun _ _ _ h => h) (Or.inr ⟨by rfl, rfl⟩) ?_ ?_
         rotate_left; · simp only [Act.put, sq1, sq2, sq3, i64_w, i32_w]; rfl
         refine pR 30 68 ba39 (a' := ?_) rfl rfl (any_of HT_.out (by kernel_rfl)) (fun _ _ _ h => h) (Or.inr ⟨by rfl, rfl⟩) ?_ ?_
         rotate_left; · simp only [Act.put, sq1, sq2, sq3, i64_w, i32_w]; rfl
         refine pR 31 69 ba40 (a' := ?_) rfl rfl (any_of HT_.out (by kernel_rfl)) (fun _ _ _ h => h) (Or.inr ⟨by rfl, rfl⟩) ?_ ?_
         rotate_left; · simp only [Act.put, sq1, sq2, sq3, i64_w, i32_w]; rfl
         refine pR 32 70 ba41 (a' := ?_) rfl rfl (any_of HT_.out (by kernel_rfl)) (fun _ _ _ h => h) (Or.inr ⟨by rfl, rfl⟩) ?_ ?_
         rotate_left; · simp only [Act.put, sq1, sq2, sq3, i64_w, i32_w]; rfl
         refine pR 33 71 ba42 (a' := ?_) rfl rfl (any_of HT_.out (by kernel_rfl)) (fun _ _ _ h => h) (Or.inr ⟨by rfl, rfl⟩) ?_ ?_
         rotate_left; · simp only [Act.put, sq1, sq2, sq3, i64_w, i32_w]; rfl
         refine pL 34 72 ba43 (v := ?_) (a' := ?_) rfl rfl (any_of HT_.out (by kernel_rfl)) (fun _ _ _ h => h) (Or.inl ⟨by rfl, ?_⟩) ?_ ?_
         rotate_left; · intro w'; go_simp; with_reducible rfl
         rotate_left; · simp only [Act.put, sq1, sq2, sq3, i64_w, i32_w]; rfl
         refine pL 35 73 ba44 (v := ?_) (a' := ?_) rfl rfl (any_of HT_.out (by kernel_rfl)) (fun _ _ _ h => h) (Or.inl ⟨by rfl, ?_⟩) ?_ ?_
         rotate_left; · intro w'; go_simp; with_reducible rfl
         rotate_left; · simp only [Act.put, sq1, sq2, sq3, i64_w, i32_w]; rfl
         refine pR 36 74 ba45 (a' := ?_) rfl rfl (any_of HT_.out (by kernel_rfl)) (fun _ _ _ h => h) (Or.inr ⟨by rfl, rfl⟩) ?_ ?_
         rotate_left; · simp only [Act.put, sq1, sq2, sq3, i64_w, i32_w]; rfl
         refine pR 37 75 ba46 (a' := ?_) rfl rfl (any_of HT_.out (by kernel_rfl)) (fun _ _ _ h => h) (Or.inr ⟨by rfl, rfl⟩) ?_ ?_
         rotate_left; · simp only [Act.put, sq1, sq2, sq3, i64_w, i32_w]; rfl
         refine pR 38 76 ba47 (a' := ?_) rfl rfl (any_of HT_.out (by kernel_rfl)) (fun _ _ _ h => h) (Or.inr ⟨by rfl, rfl⟩) ?_ ?_
         rotate_left; · simp only [Act.put, sq1, sq2, sq3, i64_w, i32_w]; rfl
         refine pR 39 77 ba48 (a' := ?_) rfl rfl (any_of HT_.out (by kernel_rfl)) (fun _ _ _ h => h) (Or.inr ⟨by rfl, rfl⟩) ?_ ?_
         rotate_left; · simp only [Act.put, sq1, sq2, sq3, i64_w, i32_w]; rfl
         refine pR 40 78 ba49 (a' := ?_) rfl rfl (any_of HT_.out (by kernel_rfl)) (fun _ _ _ h => h) (Or.inr ⟨by rfl, rfl⟩) ?_ ?_
         rotate_left; · simp only [Act.put, sq1, sq2, sq3, i64_w, i32_w]; rfl
         refine pR 41 79 ba50 (a' := ?_) rfl rfl (any_of HT_.out (by kernel_rfl)) (fun _ _ _ h => h) (Or.inr ⟨by rfl, rfl⟩) ?_ ?_
         rotate_left; · simp only [Act.put, sq1, sq2, sq3, i64_w, i32_w]; rfl
         refine pR 42 80 ba51 (a' := ?_) rfl rfl (any_of HT_.out (by kernel_rfl)) (fun _ _ _ h => h) (Or.inr ⟨by rfl, rfl⟩) ?_ ?_
         rotate_left; · simp only [Act.put, sq1, sq2, sq3, i64_w, i32_w]; rfl
         refine pR 43 81 ba52 (a' := ?_) rfl rfl (any_of HT_.out (by kernel_rfl)) (fun _ _ _ h => h) (Or.inr ⟨by rfl, rfl⟩) ?_ ?_
         rotate_left; · simp only [Act.put, sq1, sq2, sq3, i64_w, i32_w]; rfl
         refine pR 44 82 ba53 (a' := ?_) rfl rfl (any_of HT_.out (by kernel_rfl)) (fun _ _ _ h => h) (Or.inr ⟨by rfl, rfl⟩) ?_ ?_
         rotate_left; · simp only [Act.put, sq1, sq2, sq3, i64_w, i32_w]; rfl
         refine pL 45 83 ba54 (v := ?_) (a' := ?_) rfl rfl (any_of HT_.out (by kernel_rfl)) (fun _ _ _ h => h) (Or.inl ⟨by rfl, ?_⟩) ?_ ?_
         rotate_left; · intro w'; go_simp; with_reducible rfl
         rotate_left; · simp only [Act.put, sq1, sq2, sq3, i64_w, i32_w]; rfl
         refine pL 46 84 ba55 (v := ?_) (a' := ?_) rfl rfl (any_of HT_.out (by kernel_rfl)) (fun _ _ _ h => h) (Or.inl ⟨by rfl, ?_⟩) ?_ ?_
         rotate_left; · intro w'; go_simp; with_reducible rfl
         rotate_left; · simp only [Act.put, sq1, sq2, sq3, i64_w, i32_w]; rfl
         refine pR 47 85 ba56 (a' := ?_) rfl rfl (any_of HT_.out (by kernel_rfl)) (fun _ _ _ h => h) (Or.inr ⟨by rfl, rfl⟩) ?_ ?_
         rotate_left; · simp only [Act.put, sq1, sq2, sq3, i64_w, i32_w]; rfl
         refine pR 48 86 ba57 (a' := ?_) rfl rfl (any_of HT_.out (by kernel_rfl)) (fun _ _ _ h => h) (Or.inr ⟨by rfl, rfl⟩) ?_ ?_
         rotate_left; · simp only [Act.put, sq1, sq2, sq3, i64_w, i32_w]; rfl
         refine pR 49 87 ba58 (a' := ?_) rfl rfl (any_of HT_.out (by kernel_rfl)) (fun _ _ _ h => h) (Or.inr ⟨by rfl, rfl⟩) ?_ ?_
         rotate_left; · simp only [Act.put, sq1, sq2, sq3, i64_w, i32_w]; rfl
         refine pR 50 88 ba59 (a' := ?_) rfl rfl (any_of HT_.out (by kernel_rfl)) (fun _ _ _ h => h) (Or.inr ⟨by rfl, rfl⟩) ?_ ?_
         rotate_left; · simp only [Act.put, sq1, sq2, sq3, i64_w, i32_w]; rfl
         refine pR 51 89 ba60 (a' := ?_) rfl rfl (any_of HT_.out (by kernel_rfl)) (fun _ _ _ h => h) (Or.inr ⟨by rfl, rfl⟩) ?_ ?_
         rotate_left; · simp only [Act.put, sq1, sq2, sq3, i64_w, i32_w]; rfl
         refine pR 52 90 ba61 (a' := ?_) rfl rfl (any_of HT_.out (by kernel_rfl)) (fun _ _ _ h => h) (Or.inr ⟨by rfl, rfl⟩) ?_ ?_
         rotate_left; · simp only [Act.put, sq1, sq2, sq3, i64_w, i32_w]; rfl
         refine pR 53 91 ba62 (a' := ?_) rfl rfl (any_of HT_.out (by kernel_rfl)) (fun _ _ _ h => h) (Or.inr ⟨by rfl, rfl⟩) ?_ ?_
         rotate_left; · simp only [Act.put, sq1, sq2, sq3, i64_w, i32_w]; rfl
         refine pL 54 92 ba63 (v := ?_) (a' := ?_) rfl rfl (any_of HT_.out (by kernel_rfl)) (fun _ _ _ h => h) (Or.inl ⟨by rfl, ?_⟩) ?_ ?_
         rotate_left; · intro w'; go_simp; with_reducible rfl
         rotate_left; · simp only [Act.put, sq1, sq2, sq3, i64_w, i32_w]; rfl
         refine pL 55 93 ba64 (v := ?_) (a' := ?_) rfl rfl (any_of HT_.out (by kernel_rfl)) (fun _ _ _ h => h) (Or.inl ⟨by rfl, ?_⟩) ?_ ?_
         rotate_left; · intro w'; go_simp; with_reducible rfl
         rotate_left; · simp only [Act.put, sq1, sq2, sq3, i64_w, i32_w]; rfl
         refine pR 56 94 ba65 (a' := ?_) rfl rfl (any_of HT_.out (by kernel_rfl)) (fun _ _ _ h => h) (Or.inr ⟨by rfl, rfl⟩) ?_ ?_
         rotate_left; · simp only [Act.put, sq1, sq2, sq3, i64_w, i32_w]; rfl
         refine pR 57 95 ba66 (a' := ?_) rfl rfl (any_of HT_.out (by kernel_rfl)) (fun _ _ _ h => h) (Or.inr ⟨by rfl, rfl⟩) ?_ ?_
         rotate_left; · simp only [Act.put, sq1, sq2, sq3, i64_w, i32_w]; rfl
         refine pR 58 96 ba67 (a' := ?_) rfl rfl (any_of HT_.out (by kernel_rfl)) (fun _ _ _ h => h) (Or.inr ⟨by rfl, rfl⟩) ?_ ?_
         rotate_left; · simp only [Act.put, sq1, sq2, sq3, i64_w, i32_w]; rfl
         refine pR 59 97 ba68 (a' := ?_) rfl rfl (any_of HT_.out (by kernel_rfl)) (fun _ _ _ h => h) (Or.inr ⟨by rfl, rfl⟩) ?_ ?_
         rotate_left; · simp only [Act.put, sq1, sq2, sq3, i64_w, i32_w]; rfl
         refine pR 60 98 ba69 (a' := ?_) rfl rfl (any_of HT_.out (by kernel_rfl)) (fun _ _ _ h => h) (Or.inr ⟨by rfl, rfl⟩) ?_ ?_
         rotate_left; · simp only [Act.put, sq1, sq2, sq3, i64_w, i32_w]; rfl
         refine pR 61 99 ba70 (a' := ?_) rfl rfl (any_of HT_.out (by kernel_rfl)) (fun _ _ _ h => h) (Or.inr ⟨by rfl, rfl⟩) ?_ ?_
         rotate_left; · simp only [Act.put, sq1, sq2, sq3, i64_w, i32_w]; rfl
         refine pR 62 100 ba71 (a' := ?_) rfl rfl (any_of HT_.out (by kernel_rfl)) (fun _ _ _ h => h) (Or.inr ⟨by rfl, rfl⟩) ?_ ?_
         rotate_left; · simp only [Act.put, sq1, sq2, sq3, i64_w, i32_w]; rfl
         refine pR 63 101 ba72 (a' := ?_) rfl rfl (any_of HT_.out (by kernel_rfl)) (fun _ _ _ h => h) (Or.inr ⟨by rfl, rfl⟩) ?_ ?_
         rotate_left; · simp only [Act.put, sq1, sq2, sq3, i64_w, i32_w]; rfl
         refine pR 64 102 ba73 (a' := ?_) rfl rfl (any_of HT_.out (by kernel_rfl)) (fun _ _ _ h => h) (Or.inr ⟨by rfl, rfl⟩) ?_ ?_
         rotate_left; · simp only [Act.put, sq1, sq2, sq3, i64_w, i32_w]; rfl
         refine pR 65 103 ba74 (a' := ?_) rfl rfl (any_of HT_.out (by kernel_rfl)) (fun _ _ _ h => h) (Or.inr ⟨by rfl, rfl⟩) ?_ ?_
         rotate_left; · simp only [Act.put, sq1, sq2, sq3, i64_w, i32_w]; rfl
         refine pR 66 104 ba75 (a' := ?_) rfl rfl (any_of HT_.out (by kernel_rfl)) (fun _ _ _ h => h) (Or.inr ⟨by rfl, rfl⟩) ?_ ?_
         rotate_left; · simp only [Act.put, sq1, sq2, sq3, i64_w, i32_w]; rfl
         refine pL 67 105 ba76 (v := ?_) (a' := ?_) rfl rfl (any_of HT_.out (by kernel_rfl)) (fun _ _ _ h => h) (Or.inl ⟨by rfl, ?_⟩) ?_ ?_
         rotate_left; · intro w'; go_simp; with_reducible rfl
         rotate_left; · simp only [Act.put, sq1, sq2, sq3, i64_w, i32_w]; rfl
         refine done_ (done_of HT_.out (by kernel_rfl)) ?_
         try go_wp2
         go_meet
         case rel => exact ⟨_, (true), (by first | rfl | (simp; done) | (simp [*]; done)), H', ⟨by have := HK1.out; first | omega | exact Nat.le_refl _⟩, ⟨by (with_reducible repeat (first | apply Kd.R_alloc | apply Kd.R_drewN | apply Kd.R_drew)); exact HO_7.out⟩, ⟨by (with_reducible repeat (first | refine blk_drewN ?_ _ | refine blk_drew ?_ | refine blk_alloc ?_ _)); exact BK274.out⟩, ⟨by repeat (first | (with_reducible first | exact HB.out | apply below_alloc | apply pw_below_drewN | apply below_drew1 | refine below_set ?_ GE274.out) | exact HB.out)⟩⟩
        ·rw [if_neg c21] at H
         have c21b0 : decide (t277 < (rd t278 x9_1)) = false := decide_eq_false c21
         clear c21
         (first | rw [c21b0] | (simp only [i64_w, i32_w]; rw [c21b0]) | skip)
         by_cases c23 : t284 ≤ t277
         ·rw [if_pos c23] at H
          have c23b0 : decide (t284 ≤ t277) = true := decide_eq_true c23
          clear c23
          have H' := Aside0.mk H
          clear H
          try go_wp2
          have n0_ := Aside0.mk (Kd.R_drew HO_7.out)
          have n1_ := Aside0.mk (blk_drew BK274.out)
          have n2_ := Aside0.mk (below_drew1 HB.out)
          clear HO_7
          clear BK274
          clear HB
          have HO_7 := n0_
          have BK274 := n1_
          have HB := n2_
          clear n0_ n1_ n2_
          have p285 : 0 ≤ (x9_1 : Int) := of_decide_eq_true (by first | (with_reducible assumption) | assumption)
          have q285 : x9_1 < (t278.length : Int) := of_decide_eq_true (by first | (with_reducible assumption) | assumption)
          obtain ⟨ad285, e285, hx285_0⟩ := Kd.at_int (Kd.R_reads' HO_7.out).2.2 x9_1 p285 q285
          obtain rfl : ad283 = ad285 := (by injection e285)
          replace p285 := eq_true p285
          replace q285 := eq_true q285
          refine start_ (n := 68) (S := fun w' => w'.cell? (ad283.add (x9_1).toNat) = some (.int .i64 (rd t278 x9_1))) (ds := []) ba8 (by kernel_rfl) rfl rfl (hx285_0) (fun hHeld => ?_); refine with_tabW spatelaw4_PaneTimes.tab11 spatelaw4_PaneTimes.bits11 (fun HT_ HW_ => ?_)
          generalize w20.drew = w24 at HO_7 BK274 HB hx285_0 hHeld ⊢
          refine pL 0 38 ba9 (v := ?_) (a' := ?_) rfl rfl (any_of HT_.out (by kernel_rfl)) (fun _ _ _ h => h) (Or.inl ⟨by rfl, ?_⟩) ?_ ?_
          rotate_left; · intro w'; go_simp; with_reducible rfl
          rotate_left; · simp only [Act.put, sq1, sq2, sq3, i64_w, i32_w]; rfl
          refine pL 1 39 ba10 (v := ?_) (a' := ?_) rfl rfl (any_of HT_.out (by kernel_rfl)) (fun _ _ _ h => h) (Or.inl ⟨by rfl, ?_⟩) ?_ ?_
          rotate_left; · intro w'; go_simp; with_reducible rfl
          rotate_left; · simp only [Act.put, sq1, sq2, sq3, i64_w, i32_w]; rfl
          refine pL 2 40 ba11 (v := ?_) (a' := ?_) rfl rfl (any_of HT_.out (by kernel_rfl)) (fun _ _ _ h => h) (Or.inl ⟨by rfl, ?_⟩) ?_ ?_
          rotate_left; · intro w'; go_simp; with_reducible rfl
          rotate_left; · simp only [Act.put, sq1, sq2, sq3, i64_w, i32_w]; rfl
          refine pL 4 42 ba12 (v := ?_) (a' := ?_) rfl rfl (any_of HT_.out (by kernel_rfl)) (fun _ _ _ h => h) (Or.inl ⟨by rfl, ?_⟩) ?_ ?_
          rotate_left; · intro w'; go_simp; with_reducible rfl
          rotate_left; · simp only [Act.put, sq1, sq2, sq3, i64_w, i32_w]; rfl
          refine take_ (i := 3) (N := some 41) (v := ?_) (a' := ?_) ba13 rfl rfl (take_ofW HT_.out HW_.out (by kernel_rfl)) (fun _ _ _ h => h) (Or.inl ⟨by rfl, ?_⟩) hHeld ?_ ?_
          rotate_left
          ·intro w' s0
           go_simp
           with_reducible rfl
          rotate_left; · simp only [Act.put, sq1, sq2, sq3, i64_w, i32_w]; rfl
          refine pL 5 43 ba14 (v := ?_) (a' := ?_) rfl rfl (any_of HT_.out (by kernel_rfl)) (fun _ _ _ h => h) (Or.inl ⟨by rfl, ?_⟩) ?_ ?_
          rotate_left; · intro w'; go_simp; with_reducible rfl
          rotate_left; · simp only [Act.put, sq1, sq2, sq3, i64_w, i32_w]; rfl
          refine pL 6 44 ba15 (v := ?_) (a' := ?_) rfl rfl (any_of HT_.out (by kernel_rfl)) (fun _ _ _ h => h) (Or.inl ⟨by rfl, ?_⟩) ?_ ?_
          rotate_left; · intro w'; go_simp; with_reducible rfl
          rotate_left; · simp only [Act.put, sq1, sq2, sq3, i64_w, i32_w]; rfl
          refine pL 7 45 ba16 (v := ?_) (a' := ?_) rfl rfl (any_of HT_.out (by kernel_rfl)) (fun _ _ _ h => h) (Or.inl ⟨by rfl, ?_⟩) ?_ ?_
          rotate_left; · intro w'; go_simp; with_reducible rfl
          rotate_left; · simp only [Act.put, sq1, sq2, sq3, i64_w, i32_w]; rfl
          refine pL 8 46 ba17 (v := ?_) (a' := ?_) rfl rfl (any_of HT_.out (by kernel_rfl)) (fun _ _ _ h => h) (Or.inl ⟨by rfl, ?_⟩) ?_ ?_
          rotate_left; · intro w'; go_simp; with_reducible rfl
          rotate_left; · simp only [Act.put, sq1, sq2, sq3, i64_w, i32_w]; rfl
          refine pL 9 47 ba18 (v := ?_) (a' := ?_) rfl rfl (any_of HT_.out (by kernel_rfl)) (fun _ _ _ h => h) (Or.inl ⟨by rfl, ?_⟩) ?_ ?_
          rotate_left; · intro w'; go_simp; with_reducible rfl
          rotate_left; · simp only [Act.put, sq1, sq2, sq3, i64_w, i32_w]; rfl
          refine pL 10 48 ba19 (v := ?_) (a' := ?_) rfl rfl (any_of HT_.out (by kernel_rfl)) (fun _ _ _ h => h) (Or.inl ⟨by rfl, ?_⟩) ?_ ?_
          rotate_left; · intro w'; go_simp; with_reducible rfl
          rotate_left; · simp only [Act.put, sq1, sq2, sq3, i64_w, i32_w]; rfl
          refine pL 11 49 ba20 (v := ?_) (a' := ?_) rfl rfl (any_of HT_.out (by kernel_rfl)) (fun _ _ _ h => h) (Or.inl ⟨by rfl, ?_⟩) ?_ ?_
          rotate_left; · intro w'; go_simp; with_reducible rfl
          rotate_left; · simp only [Act.put, sq1, sq2, sq3, i64_w, i32_w]; rfl
          refine pR 12 50 ba21 (a' := ?_) rfl rfl (any_of HT_.out (by kernel_rfl)) (fun _ _ _ h => h) (Or.inr ⟨by rfl, rfl⟩) ?_ ?_
          rotate_left; · simp only [Act.put, sq1, sq2, sq3, i64_w, i32_w]; rfl
          refine pR 13 51 ba22 (a' := ?_) rfl rfl (any_of HT_.out (by kernel_rfl)) (fun _ _ _ h => h) (Or.inr ⟨by rfl, rfl⟩) ?_ ?_
          rotate_left; · simp only [Act.put, sq1, sq2, sq3, i64_w, i32_w]; rfl
          refine pR 14 52 ba23 (a' := ?_) rfl rfl (any_of HT_.out (by kernel_rfl)) (fun _ _ _ h => h) (Or.inr ⟨by rfl, rfl⟩) ?_ ?_
          rotate_left; · simp only [Act.put, sq1, sq2, sq3, i64_w, i32_w]; rfl
          refine pR 15 53 ba24 (a' := ?_) rfl rfl (any_of HT_.out (by kernel_rfl)) (fun _ _ _ h => h) (Or.inr ⟨by rfl, rfl⟩) ?_ ?_
          rotate_left; · simp only [Act.put, sq1, sq2, sq3, i64_w, i32_w]; rfl
          refine pR 16 54 ba25 (a' := ?_) rfl rfl (any_of HT_.out (by kernel_rfl)) (fun _ _ _ h => h) (Or.inr ⟨by rfl, rfl⟩) ?_ ?_
          rotate_left; · simp only [Act.put, sq1, sq2, sq3, i64_w, i32_w]; rfl
          refine pR 17 55 ba26 (a' := ?_) rfl rfl (any_of HT_.out (by kernel_rfl)) (fun _ _ _ h => h) (Or.inr ⟨by rfl, rfl⟩) ?_ ?_
          rotate_left; · simp only [Act.put, sq1, sq2, sq3, i64_w, i32_w]; rfl
          refine pR 18 56 ba27 (a' := ?_) rfl rfl (any_of HT_.out (by kernel_rfl)) (fun _ _ _ h => h) (Or.inr ⟨by rfl, rfl⟩) ?_ ?_
          rotate_left; · simp only [Act.put, sq1, sq2, sq3, i64_w, i32_w]; rfl
          refine pR 19 57 ba28 (a' := ?_) rfl rfl (any_of HT_.out (by kernel_rfl)) (fun _ _ _ h => h) (Or.inr ⟨by rfl, rfl⟩) ?_ ?_
          rotate_left; · simp only [Act.put, sq1, sq2, sq3, i64_w, i32_w]; rfl
          refine pR 20 58 ba29 (a' := ?_) rfl rfl (any_of HT_.out (by kernel_rfl)) (fun _ _ _ h => h) (Or.inr ⟨by rfl, rfl⟩) ?_ ?_
          rotate_left; · simp only [Act.put, sq1, sq2, sq3, i64_w, i32_w]; rfl
          refine pL 21 59 ba30 (v := ?_) (a' := ?_) rfl rfl (any_of HT_.out (by kernel_rfl)) (fun _ _ _ h => h) (Or.inl ⟨by rfl, ?_⟩) ?_ ?_
          rotate_left; · intro w'; go_simp; with_reducible rfl
          rotate_left; · simp only [Act.put, sq1, sq2, sq3, i64_w, i32_w]; rfl
          refine pL 22 60 ba31 (v := ?_) (a' := ?_) rfl rfl (any_of HT_.out (by kernel_rfl)) (fun _ _ _ h => h) (Or.inl ⟨by rfl, ?_⟩) ?_ ?_
          rotate_left; · intro w'; go_simp; with_reducible rfl
          rotate_left; · simp only [Act.put, sq1, sq2, sq3, i64_w, i32_w]; rfl
          refine pR 23 61 ba32 (a' := ?_) rfl rfl (any_of HT_.out (by kernel_rfl)) (fun _ _ _ h => h) (Or.inr ⟨by rfl, rfl⟩) ?_ ?_
          rotate_left; · simp only [Act.put, sq1, sq2, sq3, i64_w, i32_w]; rfl
          refine pR 24 62 ba33 (a' := ?_) rfl rfl (any_of HT_.out (by kernel_rfl)) (fun _ _ _ h => h) (Or.inr ⟨by rfl, rfl⟩) ?_ ?_
          rotate_left; · simp only [Act.put, sq1, sq2, sq3, i64_w, i32_w]; rfl
          refine pR 25 63 ba34 (a' := ?_) rfl rfl (any_of HT_.out (by kernel_rfl)) (fun _ _ _ h => h) (Or.inr ⟨by rfl, rfl⟩) ?_ ?_
          rotate_left; · simp only [Act.put, sq1, sq2, sq3, i64_w, i32_w]; rfl
          refine pR 26 64 ba35 (a' := ?_) rfl rfl (any_of HT_.out (by kernel_rfl)) (fun _ _ _ h => h) (Or.inr ⟨by rfl, rfl⟩) ?_ ?_
          rotate_left; · simp only [Act.put, sq1, sq2, sq3, i64_w, i32_w]; rfl
          refine pR 27 65 ba36 (a' := ?_) rfl rfl (any_of HT_.out (by kernel_rfl)) (fun _ _ _ h => h) (Or.inr ⟨by rfl, rfl⟩) ?_ ?_
          rotate_left; · simp only [Act.put, sq1, sq2, sq3, i64_w, i32_w]; rfl
          refine pR 28 66 ba37 (a' := ?_) rfl rfl (any_of HT_.out (by kernel_rfl)) (fun _ _ _ h => h) (Or.inr ⟨by rfl, rfl⟩) ?_ ?_
          rotate_left; · simp only [Act.put, sq1, sq2, sq3, i64_w, i32_w]; rfl
          refine pR 29 67 ba38 (a' := ?_) rfl rfl (any_of HT_.out (by kernel_rfl)) (fun _ _ _ h => h) (Or.inr ⟨by rfl, rfl⟩) ?_ ?_
          rotate_left; · simp only [Act.put, sq1, sq2, sq3, i64_w, i32_w]; rfl
          refine pR 30 68 ba39 (a' := ?_) rfl rfl (any_of HT_.out (by kernel_rfl)) (fun _ _ _ h => h) (Or.inr ⟨by rfl, rfl⟩) ?_ ?_
          rotate_left; · simp only [Act.put, sq1, sq2, sq3, i64_w, i32_w]; rfl
          refine pR 31 69 ba40 (a' := ?_) rfl rfl (any_of HT_.out (by kernel_rfl)) (fun _ _ _ h => h) (Or.inr ⟨by rfl, rfl⟩) ?_ ?_
          rotate_left; · simp only [Act.put, sq1, sq2, sq3, i64_w, i32_w]; rfl
          refine pR 32 70 ba41 (a' := ?_) rfl rfl (any_of HT_.out (by kernel_rfl)) (fun _ _ _ h => h) (Or.inr ⟨by rfl, rfl⟩) ?_ ?_
          rotate_left; · simp only [Act.put, sq1, sq2, sq3, i64_w, i32_w]; rfl
          refine pR 33 71 ba42 (a' := ?_) rfl rfl (any_of HT_.out (by kernel_rfl)) (fun _ _ _ h => h) (Or.inr ⟨by rfl, rfl⟩) ?_ ?_
          rotate_left; · simp only [Act.put, sq1, sq2, sq3, i64_w, i32_w]; rfl
          refine pL 34 72 ba43 (v := ?_) (a' := ?_) rfl rfl (any_of HT_.out (by kernel_rfl)) (fun _ _ _ h => h) (Or.inl ⟨by rfl, ?_⟩) ?_ ?_
          rotate_left; · intro w'; go_simp; with_reducible rfl
          rotate_left; · simp only [Act.put, sq1, sq2, sq3, i64_w, i32_w]; rfl
          refine pL 35 73 ba44 (v := ?_) (a' := ?_) rfl rfl (any_of HT_.out (by kernel_rfl)) (fun _ _ _ h => h) (Or.inl ⟨by rfl, ?_⟩) ?_ ?_
          rotate_left; · intro w'; go_simp; with_reducible rfl
          rotate_left; · simp only [Act.put, sq1, sq2, sq3, i64_w, i32_w]; rfl
          refine pR 36 74 ba45 (a' := ?_) rfl rfl (any_of HT_.out (by kernel_rfl)) (fun _ _ _ h => h) (Or.inr ⟨by rfl, rfl⟩) ?_ ?_
          rotate_left; · simp only [Act.put, sq1, sq2, sq3, i64_w, i32_w]; rfl
          refine pR 37 75 ba46 (a' := ?_) rfl rfl (any_of HT_.out (by kernel_rfl)) (fun _ _ _ h => h) (Or.inr ⟨by rfl, rfl⟩) ?_ ?_
          rotate_left; · simp only [Act.put, sq1, sq2, sq3, i64_w, i32_w]; rfl
          refine pR 38 76 ba47 (a' := ?_) rfl rfl (any_of HT_.out (by kernel_rfl)) (fun _ _ _ h => h) (Or.inr ⟨by rfl, rfl⟩) ?_ ?_
          rotate_left; · simp only [Act.put, sq1, sq2, sq3, i64_w, i32_w]; rfl
          refine pR 39 77 ba48 (a' := ?_) rfl rfl (any_of HT_.out (by kernel_rfl)) (fun _ _ _ h => h) (Or.inr ⟨by rfl, rfl⟩) ?_ ?_
          rotate_left; · simp only [Act.put, sq1, sq2, sq3, i64_w, i32_w]; rfl
          refine pR 40 78 ba49 (a' := ?_) rfl rfl (any_of HT_.out (by kernel_rfl)) (fun _ _ _ h => h) (Or.inr ⟨by rfl, rfl⟩) ?_ ?_
          rotate_left; · simp only [Act.put, sq1, sq2, sq3, i64_w, i32_w]; rfl
          refine pR 41 79 ba50 (a' := ?_) rfl rfl (any_of HT_.out (by kernel_rfl)) (fun _ _ _ h => h) (Or.inr ⟨by rfl, rfl⟩) ?_ ?_
          rotate_left; · simp only [Act.put, sq1, sq2, sq3, i64_w, i32_w]; rfl
          refine pR 42 80 ba51 (a' := ?_) rfl rfl (any_of HT_.out (by kernel_rfl)) (fun _ _ _ h => h) (Or.inr ⟨by rfl, rfl⟩) ?_ ?_
          rotate_left; · simp only [Act.put, sq1, sq2, sq3, i64_w, i32_w]; rfl
          refine pR 43 81 ba52 (a' := ?_) rfl rfl (any_of HT_.out (by kernel_rfl)) (fun _ _ _ h => h) (Or.inr ⟨by rfl, rfl⟩) ?_ ?_
          rotate_left; · simp only [Act.put, sq1, sq2, sq3, i64_w, i32_w]; rfl
          refine pR 44 82 ba53 (a' := ?_) rfl rfl (any_of HT_.out (by kernel_rfl)) (fun _ _ _ h => h) (Or.inr ⟨by rfl, rfl⟩) ?_ ?_
          rotate_left; · simp only [Act.put, sq1, sq2, sq3, i64_w, i32_w]; rfl
          refine pL 45 83 ba54 (v := ?_) (a' := ?_) rfl rfl (any_of HT_.out (by kernel_rfl)) (fun _ _ _ h => h) (Or.inl ⟨by rfl, ?_⟩) ?_ ?_
          rotate_left; · intro w'; go_simp; with_reducible rfl
          rotate_left; · simp only [Act.put, sq1, sq2, sq3, i64_w, i32_w]; rfl
          refine pL 46 84 ba55 (v := ?_) (a' := ?_) rfl rfl (any_of HT_.out (by kernel_rfl)) (fun _ _ _ h => h) (Or.inl ⟨by rfl, ?_⟩) ?_ ?_
          rotate_left; · intro w'; go_simp; with_reducible rfl
          rotate_left; · simp only [Act.put, sq1, sq2, sq3, i64_w, i32_w]; rfl
          refine pR 47 85 ba56 (a' := ?_) rfl rfl (any_of HT_.out (by kernel_rfl)) (fun _ _ _ h => h) (Or.inr ⟨by rfl, rfl⟩) ?_ ?_
          rotate_left; · simp only [Act.put, sq1, sq2, sq3, i64_w, i32_w]; rfl
          refine pR 48 86 ba57 (a' := ?_) rfl rfl (any_of HT_.out (by kernel_rfl)) (fun _ _ _ h => h) (Or.inr ⟨by rfl, rfl⟩) ?_ ?_
          rotate_left; · simp only [Act.put, sq1, sq2, sq3, i64_w, i32_w]; rfl
          refine pR 49 87 ba58 (a' := ?_) rfl rfl (any_of HT_.out (by kernel_rfl)) (fun _ _ _ h => h) (Or.inr ⟨by rfl, rfl⟩) ?_ ?_
          rotate_left; · simp only [Act.put, sq1, sq2, sq3, i64_w, i32_w]; rfl
          refine pR 50 88 ba59 (a' := ?_) rfl rfl (any_of HT_.out (by kernel_rfl)) (fun _ _ _ h => h) (Or.inr ⟨by rfl, rfl⟩) ?_ ?_
          rotate_left; · simp only [Act.put, sq1, sq2, sq3, i64_w, i32_w]; rfl
          refine pR 51 89 ba60 (a' := ?_) rfl rfl (any_of HT_.out (by kernel_rfl)) (fun _ _ _ h => h) (Or.inr ⟨by rfl, rfl⟩) ?_ ?_
          rotate_left; · simp only [Act.put, sq1, sq2, sq3, i64_w, i32_w]; rfl
          refine pR 52 90 ba61 (a' := ?_) rfl rfl (any_of HT_.out (by kernel_rfl)) (fun _ _ _ h => h) (Or.inr ⟨by rfl, rfl⟩) ?_ ?_
          rotate_left; · simp only [Act.put, sq1, sq2, sq3, i64_w, i32_w]; rfl
          refine pR 53 91 ba62 (a' := ?_) rfl rfl (any_of HT_.out (by kernel_rfl)) (fun _ _ _ h => h) (Or.inr ⟨by rfl, rfl⟩) ?_ ?_
          rotate_left; · simp only [Act.put, sq1, sq2, sq3, i64_w, i32_w]; rfl
          refine pL 54 92 ba63 (v := ?_) (a' := ?_) rfl rfl (any_of HT_.out (by kernel_rfl)) (fun _ _ _ h => h) (Or.inl ⟨by rfl, ?_⟩) ?_ ?_
          rotate_left; · intro w'; go_simp; with_reducible rfl
          rotate_left; · simp only [Act.put, sq1, sq2, sq3, i64_w, i32_w]; rfl
          refine pL 55 93 ba64 (v := ?_) (a' := ?_) rfl rfl (any_of HT_.out (by kernel_rfl)) (fun _ _ _ h => h) (Or.inl ⟨by rfl, ?_⟩) ?_ ?_
          rotate_left; · intro w'; go_simp; with_reducible rfl
          rotate_left; · simp only [Act.put, sq1, sq2, sq3, i64_w, i32_w]; rfl
          refine pR 56 94 ba65 (a' := ?_) rfl rfl (any_of HT_.out (by kernel_rfl)) (fun _ _ _ h => h) (Or.inr ⟨by rfl, rfl⟩) ?_ ?_
          rotate_left; · simp only [Act.put, sq1, sq2, sq3, i64_w, i32_w]; rfl
          refine pR 57 95 ba66 (a' := ?_) rfl rfl (any_of HT_.out (by kernel_rfl)) (fun _ _ _ h => h) (Or.inr ⟨by rfl, rfl⟩) ?_ ?_
          rotate_left; · simp only [Act.put, sq1, sq2, sq3, i64_w, i32_w]; rfl
          refine pR 58 96 ba67 (a' := ?_) rfl rfl (any_of HT_.out (by kernel_rfl)) (fun _ _ _ h => h) (Or.inr ⟨by rfl, rfl⟩) ?_ ?_
          rotate_left; · simp only [Act.put, sq1, sq2, sq3, i64_w, i32_w]; rfl
          refine pR 59 97 ba68 (a' := ?_) rfl rfl (any_of HT_.out (by kernel_rfl)) (fun _ _ _ h => h) (Or.inr ⟨by rfl, rfl⟩) ?_ ?_
          rotate_left; · simp only [Act.put, sq1, sq2, sq3, i64_w, i32_w]; rfl
          refine pR 60 98 ba69 (a' := ?_) rfl rfl (any_of HT_.out (by kernel_rfl)) (fun _ _ _ h => h) (Or.inr ⟨by rfl, rfl⟩) ?_ ?_
          rotate_left; · simp only [Act.put, sq1, sq2, sq3, i64_w, i32_w]; rfl
          refine pR 61 99 ba70 (a' := ?_) rfl rfl (any_of HT_.out (by kernel_rfl)) (fun _ _ _ h => h) (Or.inr ⟨by rfl, rfl⟩) ?_ ?_
          rotate_left; · simp only [Act.put, sq1, sq2, sq3, i64_w, i32_w]; rfl
          refine pR 62 100 ba71 (a' := ?_) rfl rfl (any_of HT_.out (by kernel_rfl)) (fun _ _ _ h => h) (Or.inr ⟨by rfl, rfl⟩) ?_ ?_
          rotate_left; · simp only [Act.put, sq1, sq2, sq3, i64_w, i32_w]; rfl
          refine pR 63 101 ba72 (a' := ?_) rfl rfl (any_of HT_.out (by kernel_rfl)) (fun _ _ _ h => h) (Or.inr ⟨by rfl, rfl⟩) ?_ ?_
          rotate_left; · simp only [Act.put, sq1, sq2, sq3, i64_w, i32_w]; rfl
          refine pR 64 102 ba73 (a' := ?_) rfl rfl (any_of HT_.out (by kernel_rfl)) (fun _ _ _ h => h) (Or.inr ⟨by rfl, rfl⟩) ?_ ?_
          rotate_left; · simp only [Act.put, sq1, sq2, sq3, i64_w, i32_w]; rfl
          refine pR 65 103 ba74 (a' := ?_) rfl rfl (any_of HT_.out (by kernel_rfl)) (fun _ _ _ h => h) (Or.inr ⟨by rfl, rfl⟩) ?_ ?_
          rotate_left; · simp only [Act.put, sq1, sq2, sq3, i64_w, i32_w]; rfl
          refine pR 66 104 ba75 (a' := ?_) rfl rfl (any_of HT_.out (by kernel_rfl)) (fun _ _ _ h => h) (Or.inr ⟨by rfl, rfl⟩) ?_ ?_
          rotate_left; · simp only [Act.put, sq1, sq2, sq3, i64_w, i32_w]; rfl
          refine pL 67 105 ba76 (v := ?_) (a' := ?_) rfl rfl (any_of HT_.out (by kernel_rfl)) (fun _ _ _ h => h) (Or.inl ⟨by rfl, ?_⟩) ?_ ?_
          rotate_left; · intro w'; go_simp; with_reducible rfl
          rotate_left; · simp only [Act.put, sq1, sq2, sq3, i64_w, i32_w]; rfl
          refine done_ (done_of HT_.out (by kernel_rfl)) ?_
          try go_wp2
          go_meet
          case rel => exact ⟨_, (true), (by first | rfl | (simp; done) | (simp [*]; done)), H', ⟨by have := HK1.out; first | omega | exact Nat.le_refl _⟩, ⟨by (with_reducible repeat (first | apply Kd.R_alloc | apply Kd.R_drewN | apply Kd.R_drew)); exact HO_7.out⟩, ⟨by (with_reducible repeat (first | refine blk_drewN ?_ _ | refine blk_drew ?_ | refine blk_alloc ?_ _)); exact BK274.out⟩, ⟨by repeat (first | (with_reducible first | exact HB.out | apply below_alloc | apply pw_below_drewN | apply below_drew1 | refine below_set ?_ GE274.out) | exact HB.out)⟩⟩
         ·rw [if_neg c23] at H
          have c23b0 : decide (t284 ≤ t277) = false := decide_eq_false c23
          clear c23
          by_cases c25 : (wrap64 (t284 - (rd t278 x9_1))) = a0_0
          ·rw [if_pos c25] at H
           have c25b0 : ((wrap64 (t284 - (rd t278 x9_1))) == a0_0) = true := beq_iff_eq.mpr c25
           have c25b1 : ((wrap64 (t284 - (rd t278 x9_1))) != a0_0) = false := bne_eq_false_iff_eq.mpr c25
           clear c25
           replace H := Option.bind_eq_some_iff.mp H
           obtain ⟨t289, A260, H⟩ := H
           replace H : (if t289 = true then ((spatelaw4_has.f k1 a0_0 a0_1 a0_2 (wrap64 (t284 - 1)) (rd t278 x9_1)).bind fun t291 => (if t291 = true then ((spatelaw4_has.f k1 a0_0 a0_1 a0_2 t284 (rd t278 x9_1)).bind fun t293 => (if t293 = true then (spatelaw4_PaneTimes.j1 k1 t277 a2 t278 x9_1 t284 true a0_0 a0_1 a0_2) else ((spatelaw4_has.f k1 a0_0 a0_1 a0_2 (wrap64 ((rd t278 x9_1) - 1)) (rd t278 x9_1)).bind fun t296 => (spatelaw4_PaneTimes.j1 k1 t277 a2 t278 x9_1 t284 t296 a0_0 a0_1 a0_2)))) else (spatelaw4_PaneTimes.j1 k1 t277 a2 t278 x9_1 t284 true a0_0 a0_1 a0_2))) else (spatelaw4_PaneTimes.j1 k1 t277 a2 t278 x9_1 t284 true a0_0 a0_1 a0_2)) = some r := H
           have A26 := Aside0.mk A260
           clear A260
           by_cases c27 : t289 = true
           ·subst c27
            have H1 : ((spatelaw4_has.f k1 a0_0 a0_1 a0_2 (wrap64 (t284 - 1)) (rd t278 x9_1)).bind fun t291 => (if t291 = true then ((spatelaw4_has.f k1 a0_0 a0_1 a0_2 t284 (rd t278 x9_1)).bind fun t293 => (if t293 = true then (spatelaw4_PaneTimes.j1 k1 t277 a2 t278 x9_1 t284 true a0_0 a0_1 a0_2) else ((spatelaw4_has.f k1 a0_0 a0_1 a0_2 (wrap64 ((rd t278 x9_1) - 1)) (rd t278 x9_1)).bind fun t296 => (spatelaw4_PaneTimes.j1 k1 t277 a2 t278 x9_1 t284 t296 a0_0 a0_1 a0_2)))) else (spatelaw4_PaneTimes.j1 k1 t277 a2 t278 x9_1 t284 true a0_0 a0_1 a0_2))) = some r := by rw [if_pos rfl] at H; exact H
            clear H
            have H := H1
            clear H1
            replace H := Option.bind_eq_some_iff.mp H
            obtain ⟨t291, A280, H⟩ := H
            replace H : (if t291 = true then ((spatelaw4_has.f k1 a0_0 a0_1 a0_2 t284 (rd t278 x9_1)).bind fun t293 => (if t293 = true then (spatelaw4_PaneTimes.j1 k1 t277 a2 t278 x9_1 t284 true a0_0 a0_1 a0_2) else ((spatelaw4_has.f k1 a0_0 a0_1 a0_2 (wrap64 ((rd t278 x9_1) - 1)) (rd t278 x9_1)).bind fun t296 => (spatelaw4_PaneTimes.j1 k1 t277 a2 t278 x9_1 t284 t296 a0_0 a0_1 a0_2)))) else (spatelaw4_PaneTimes.j1 k1 t277 a2 t278 x9_1 t284 true a0_0 a0_1 a0_2)) = some r := H
            have A28 := Aside0.mk A280
            clear A280
            by_cases c29 : t291 = true
            ·subst c29
             have H1 : ((spatelaw4_has.f k1 a0_0 a0_1 a0_2 t284 (rd t278 x9_1)).bind fun t293 => (if t293 = true then (spatelaw4_PaneTimes.j1 k1 t277 a2 t278 x9_1 t284 true a0_0 a0_1 a0_2) else ((spatelaw4_has.f k1 a0_0 a0_1 a0_2 (wrap64 ((rd t278 x9_1) - 1)) (rd t278 x9_1)).bind fun t296 => (spatelaw4_PaneTimes.j1 k1 t277 a2 t278 x9_1 t284 t296 a0_0 a0_1 a0_2)))) = some r := by rw [if_pos rfl] at H; exact H
             clear H
             have H := H1
             clear H1
             replace H := Option.bind_eq_some_iff.mp H
             obtain ⟨t293, A300, H⟩ := H
             replace H : (if t293 = true then (spatelaw4_PaneTimes.j1 k1 t277 a2 t278 x9_1 t284 true a0_0 a0_1 a0_2) else ((spatelaw4_has.f k1 a0_0 a0_1 a0_2 (wrap64 ((rd t278 x9_1) - 1)) (rd t278 x9_1)).bind fun t296 => (spatelaw4_PaneTimes.j1 k1 t277 a2 t278 x9_1 t284 t296 a0_0 a0_1 a0_2))) = some r := H
             have A30 := Aside0.mk A300
             clear A300
             by_cases c31 : t293 = true
             ·subst c31
              have H1 : (spatelaw4_PaneTimes.j1 k1 t277 a2 t278 x9_1 t284 true a0_0 a0_1 a0_2) = some r := by rw [if_pos rfl] at H; exact H
              clear H
              have H := H1
              clear H1
              have H' := Aside0.mk H
              clear H
              try go_wp2
              have n0_ := Aside0.mk (Kd.R_drew HO_7.out)
              have n1_ := Aside0.mk (blk_drew BK274.out)
              have n2_ := Aside0.mk (below_drew1 HB.out)
              clear HO_7
              clear BK274
              clear HB
              have HO_7 := n0_
              have BK274 := n1_
              have HB := n2_
              clear n0_ n1_ n2_
              have p285 : 0 ≤ (x9_1 : Int) := of_decide_eq_true (by first | (with_reducible assumption) | assumption)
              have q285 : x9_1 < (t278.length : Int) := of_decide_eq_true (by first | (with_reducible assumption) | assumption)
              obtain ⟨ad285, e285, hx285_0⟩ := Kd.at_int (Kd.R_reads' HO_7.out).2.2 x9_1 p285 q285
              obtain rfl : ad283 = ad285 := (by injection e285)
              replace p285 := eq_true p285
              replace q285 := eq_true q285
              have p286 : 0 ≤ (x9_1 : Int) := of_decide_eq_true (by first | (with_reducible assumption) | assumption)
              have q286 : x9_1 < (t278.length : Int) := of_decide_eq_true (by first | (with_reducible assumption) | assumption)
              obtain ⟨ad286, e286, hx286_0⟩ := Kd.at_int (Kd.R_reads' HO_7.out).2.2 x9_1 p286 q286
              obtain rfl : ad283 = ad286 := (by injection e286)
              replace p286 := eq_true p286
              replace q286 := eq_true q286
              have p287 : 0 ≤ (x9_1 : Int) := of_decide_eq_true (by first | (with_reducible assumption) | assumption)
              have q287 : x9_1 < (t278.length : Int) := of_decide_eq_true (by first | (with_reducible assumption) | assumption)
              obtain ⟨ad287, e287, hx287_0⟩ := Kd.at_int (Kd.R_reads' HO_7.out).2.2 x9_1 p287 q287
              obtain rfl : ad283 = ad287 := (by injection e287)
              replace p287 := eq_true p287
              replace q287 := eq_true q287
              have p288 : 0 ≤ (x9_1 : Int) := of_decide_eq_true (by first | (with_reducible assumption) | assumption)
              have q288 : x9_1 < (t278.length : Int) := of_decide_eq_true (by first | (with_reducible assumption) | assumption)
              obtain ⟨ad288, e288, hx288_0⟩ := Kd.at_int (Kd.R_reads' HO_7.out).2.2 x9_1 p288 q288
              obtain rfl : ad283 = ad288 := (by injection e288)
              replace p288 := eq_true p288
              replace q288 := eq_true q288
              have p290 : 0 ≤ (x9_1 : Int) := of_decide_eq_true (by first | (with_reducible assumption) | assumption)
              have q290 : x9_1 < (t278.length : Int) := of_decide_eq_true (by first | (with_reducible assumption) | assumption)
              obtain ⟨ad290, e290, hx290_0⟩ := Kd.at_int (Kd.R_reads' HO_7.out).2.2 x9_1 p290 q290
              obtain rfl : ad283 = ad290 := (by injection e290)
              replace p290 := eq_true p290
              replace q290 := eq_true q290
              have p292 : 0 ≤ (x9_1 : Int) := of_decide_eq_true (by first | (with_reducible assumption) | assumption)
              have q292 : x9_1 < (t278.length : Int) := of_decide_eq_true (by first | (with_reducible assumption) | assumption)
              obtain ⟨ad292, e292, hx292_0⟩ := Kd.at_int (Kd.R_reads' HO_7.out).2.2 x9_1 p292 q292
              obtain rfl : ad283 = ad292 := (by injection e292)
              replace p292 := eq_true p292
              replace q292 := eq_true q292
              refine start_ (n := 68) (S := fun w' => w'.cell? ⟨gb274, 0, none⟩ = some (.int .i64 a0_0) ∧ w'.cell? ⟨gb274, 1, none⟩ = some (.int .i64 a0_1) ∧ w'.cell? ⟨gb274, 2, none⟩ = some (.int .i64 a0_2) ∧ w'.cell? (ad283.add (x9_1).toNat) = some (.int .i64 (rd t278 x9_1)) ∧ w'.cell? (ad283.add (x9_1).toNat) = some (.int .i64 (rd t278 x9_1)) ∧ w'.cell? (ad283.add (x9_1).toNat) = some (.int .i64 (rd t278 x9_1)) ∧ w'.cell? (ad283.add (x9_1).toNat) = some (.int .i64 (rd t278 x9_1)) ∧ w'.cell? (ad283.add (x9_1).toNat) = some (.int .i64 (rd t278 x9_1)) ∧ w'.cell? (ad283.add (x9_1).toNat) = some (.int .i64 (rd t278 x9_1))) (ds := []) ba8 (by kernel_rfl) rfl rfl ⟨(blk_cell BK274.out 0).trans rfl, (blk_cell BK274.out 1).trans rfl, (blk_cell BK274.out 2).trans rfl, hx285_0, hx286_0, hx287_0, hx288_0, hx290_0, hx292_0⟩ (fun hHeld => ?_); refine with_tabW spatelaw4_PaneTimes.tab11 spatelaw4_PaneTimes.bits11 (fun HT_ HW_ => ?_)
              generalize w20.drew = w32 at HO_7 BK274 HB hx285_0 hx286_0 hx287_0 hx288_0 hx290_0 hx292_0 hHeld ⊢
              refine pL 0 38 ba9 (v := ?_) (a' := ?_) rfl rfl (any_of HT_.out (by kernel_rfl)) (fun _ _ _ h => h) (Or.inl ⟨by rfl, ?_⟩) ?_ ?_
              rotate_left; · intro w'; go_simp; with_reducible rfl
              rotate_left; · simp only [Act.put, sq1, sq2, sq3, i64_w, i32_w]; rfl
              refine pL 1 39 ba10 (v := ?_) (a' := ?_) rfl rfl (any_of HT_.out (by kernel_rfl)) (fun _ _ _ h => h) (Or.inl ⟨by rfl, ?_⟩) ?_ ?_
              rotate_left; · intro w'; go_simp; with_reducible rfl
              rotate_left; · simp only [Act.put, sq1, sq2, sq3, i64_w, i32_w]; rfl
              refine pL 2 40 ba11 (v := ?_) (a' := ?_) rfl rfl (any_of HT_.out (by kernel_rfl)) (fun _ _ _ h => h) (Or.inl ⟨by rfl, ?_⟩) ?_ ?_
              rotate_left; · intro w'; go_simp; with_reducible rfl
              rotate_left; · simp only [Act.put, sq1, sq2, sq3, i64_w, i32_w]; rfl
              refine pL 4 42 ba12 (v := ?_) (a' := ?_) rfl rfl (any_of HT_.out (by kernel_rfl)) (fun _ _ _ h => h) (Or.inl ⟨by rfl, ?_⟩) ?_ ?_
              rotate_left; · intro w'; go_simp; with_reducible rfl
              rotate_left; · simp only [Act.put, sq1, sq2, sq3, i64_w, i32_w]; rfl
              refine take_ (i := 3) (N := some 41) (v := ?_) (a' := ?_) ba13 rfl rfl (take_ofW HT_.out HW_.out (by kernel_rfl)) (fun _ _ _ h => h) (Or.inl ⟨by rfl, ?_⟩) hHeld ?_ ?_
              rotate_left
              ·rintro w' ⟨s0, s1, s2, s3, s4, s5, s6, s7, s8⟩
               go_simp
               with_reducible rfl
              rotate_left; · simp only [Act.put, sq1, sq2, sq3, i64_w, i32_w]; rfl
              refine pL 5 43 ba14 (v := ?_) (a' := ?_) rfl rfl (any_of HT_.out (by kernel_rfl)) (fun _ _ _ h => h) (Or.inl ⟨by rfl, ?_⟩) ?_ ?_
              rotate_left; · intro w'; go_simp; with_reducible rfl
              rotate_left; · simp only [Act.put, sq1, sq2, sq3, i64_w, i32_w]; rfl
              refine pL 6 44 ba15 (v := ?_) (a' := ?_) rfl rfl (any_of HT_.out (by kernel_rfl)) (fun _ _ _ h => h) (Or.inl ⟨by rfl, ?_⟩) ?_ ?_
              rotate_left; · intro w'; go_simp; with_reducible rfl
              rotate_left; · simp only [Act.put, sq1, sq2, sq3, i64_w, i32_w]; rfl
              refine pL 7 45 ba16 (v := ?_) (a' := ?_) rfl rfl (any_of HT_.out (by kernel_rfl)) (fun _ _ _ h => h) (Or.inl ⟨by rfl, ?_⟩) ?_ ?_
              rotate_left; · intro w'; go_simp; with_reducible rfl
              rotate_left; · simp only [Act.put, sq1, sq2, sq3, i64_w, i32_w]; rfl
              refine pL 8 46 ba17 (v := ?_) (a' := ?_) rfl rfl (any_of HT_.out (by kernel_rfl)) (fun _ _ _ h => h) (Or.inl ⟨by rfl, ?_⟩) ?_ ?_
              rotate_left; · intro w'; go_simp; with_reducible rfl
              rotate_left; · simp only [Act.put, sq1, sq2, sq3, i64_w, i32_w]; rfl
              refine pL 9 47 ba18 (v := ?_) (a' := ?_) rfl rfl (any_of HT_.out (by kernel_rfl)) (fun _ _ _ h => h) (Or.inl ⟨by rfl, ?_⟩) ?_ ?_
              rotate_left; · intro w'; go_simp; with_reducible rfl
              rotate_left; · simp only [Act.put, sq1, sq2, sq3, i64_w, i32_w]; rfl
              refine pL 10 48 ba19 (v := ?_) (a' := ?_) rfl rfl (any_of HT_.out (by kernel_rfl)) (fun _ _ _ h => h) (Or.inl ⟨by rfl, ?_⟩) ?_ ?_
              rotate_left; · intro w'; go_simp; with_reducible rfl
              rotate_left; · simp only [Act.put, sq1, sq2, sq3, i64_w, i32_w]; rfl
              refine pL 11 49 ba20 (v := ?_) (a' := ?_) rfl rfl (any_of HT_.out (by kernel_rfl)) (fun _ _ _ h => h) (Or.inl ⟨by rfl, ?_⟩) ?_ ?_
              rotate_left; · intro w'; go_simp; with_reducible rfl
              rotate_left; · simp only [Act.put, sq1, sq2, sq3, i64_w, i32_w]; rfl
              refine pL 12 50 ba21 (v := ?_) (a' := ?_) rfl rfl (any_of HT_.out (by kernel_rfl)) (fun _ _ _ h => h) (Or.inl ⟨by rfl, ?_⟩) ?_ ?_
              rotate_left; · intro w'; go_simp; with_reducible rfl
              rotate_left; · simp only [Act.put, sq1, sq2, sq3, i64_w, i32_w]; rfl
              refine pL 13 51 ba22 (v := ?_) (a' := ?_) rfl rfl (any_of HT_.out (by kernel_rfl)) (fun _ _ _ h => h) (Or.inl ⟨by rfl, ?_⟩) ?_ ?_
              rotate_left; · intro w'; go_simp; with_reducible rfl
              rotate_left; · simp only [Act.put, sq1, sq2, sq3, i64_w, i32_w]; rfl
              refine pL 14 52 ba23 (v := ?_) (a' := ?_) rfl rfl (any_of HT_.out (by kernel_rfl)) (fun _ _ _ h => h) (Or.inl ⟨by rfl, ?_⟩) ?_ ?_
              rotate_left; · intro w'; go_simp; with_reducible rfl
              rotate_left; · simp only [Act.put, sq1, sq2, sq3, i64_w, i32_w]; rfl
              refine pL 15 53 ba24 (v := ?_) (a' := ?_) rfl rfl (any_of HT_.out (by kernel_rfl)) (fun _ _ _ h => h) (Or.inl ⟨by rfl, ?_⟩) ?_ ?_
              rotate_left; · intro w'; go_simp; with_reducible rfl
              rotate_left; · simp only [Act.put, sq1, sq2, sq3, i64_w, i32_w]; rfl
              refine pL 18 56 ba77 (v := ?_) (a' := ?_) rfl rfl (any_of HT_.out (by kernel_rfl)) (fun _ _ _ h => h) (Or.inl ⟨by rfl, ?_⟩) ?_ ?_
              rotate_left; · intro w'; go_simp; with_reducible rfl
              rotate_left; · simp only [Act.put, sq1, sq2, sq3, i64_w, i32_w]; rfl
              refine take_ (i := 16) (N := some 54) (v := ?_) (a' := ?_) ba78 rfl rfl (take_ofW HT_.out HW_.out (by kernel_rfl)) (fun _ _ _ h => h) (Or.inl ⟨by rfl, ?_⟩) hHeld ?_ ?_
              rotate_left
              ·rintro w' ⟨s0, s1, s2, s3, s4, s5, s6, s7, s8⟩
               go_simp
               with_reducible rfl
              rotate_left; · simp only [Act.put, sq1, sq2, sq3, i64_w, i32_w]; rfl
              refine pL 17 55 ba27 (v := ?_) (a' := ?_) rfl rfl (any_of HT_.out (by kernel_rfl)) (fun _ _ _ h => h) (Or.inl ⟨by rfl, ?_⟩) ?_ ?_
              rotate_left; · intro w'; go_simp; with_reducible rfl
              rotate_left; · simp only [Act.put, sq1, sq2, sq3, i64_w, i32_w]; rfl
              refine take_ (i := 19) (N := some 57) (v := ?_) (a' := ?_) ba28 rfl rfl (take_ofW HT_.out HW_.out (by kernel_rfl)) (fun _ _ _ h => h) (Or.inl ⟨by rfl, ?_⟩) hHeld ?_ ?_
              rotate_left
              ·rintro w' ⟨s0, s1, s2, s3, s4, s5, s6, s7, s8⟩
               go_simp
               with_reducible rfl
              rotate_left; · simp only [Act.put, sq1, sq2, sq3, i64_w, i32_w]; rfl
              refine pL 20 58 ba29 (v := ?_) (a' := ?_) rfl rfl (any_of HT_.out (by kernel_rfl)) (fun _ _ _ h => h) (Or.inl ⟨by rfl, ?_⟩) ?_ ?_
              rotate_left; · intro w'; go_simp; with_reducible rfl
              rotate_left; · simp only [Act.put, sq1, sq2, sq3, i64_w, i32_w]; rfl
              refine pL 21 59 ba30 (v := ?_) (a' := ?_) rfl rfl (any_of HT_.out (by kernel_rfl)) (fun _ _ _ h => h) (Or.inl ⟨by rfl, ?_⟩) ?_ ?_
              rotate_left; · intro w'; go_simp; with_reducible rfl
              rotate_left; · simp only [Act.put, sq1, sq2, sq3, i64_w, i32_w]; rfl
              refine pL 22 60 ba31 (v := ?_) (a' := ?_) rfl rfl (any_of HT_.out (by kernel_rfl)) (fun _ _ _ h => h) (Or.inl ⟨by rfl, ?_⟩) ?_ ?_
              rotate_left; · intro w'; go_simp; with_reducible rfl
              rotate_left; · simp only [Act.put, sq1, sq2, sq3, i64_w, i32_w]; rfl
              refine pL 24 62 ba79 (v := ?_) (a' := ?_) rfl rfl (any_of HT_.out (by kernel_rfl)) (fun _ _ _ h => h) (Or.inl ⟨by rfl, ?_⟩) ?_ ?_
              rotate_left; · intro w'; go_simp; with_reducible rfl
              rotate_left; · simp only [Act.put, sq1, sq2, sq3, i64_w, i32_w]; rfl
              refine pL 25 63 ba80 (v := ?_) (a' := ?_) rfl rfl (any_of HT_.out (by kernel_rfl)) (fun _ _ _ h => h) (Or.inl ⟨by rfl, ?_⟩) ?_ ?_
              rotate_left; · intro w'; go_simp; with_reducible rfl
              rotate_left; · simp only [Act.put, sq1, sq2, sq3, i64_w, i32_w]; rfl
              refine pL 26 64 ba81 (v := ?_) (a' := ?_) rfl rfl (any_of HT_.out (by kernel_rfl)) (fun _ _ _ h => h) (Or.inl ⟨by rfl, ?_⟩) ?_ ?_
              rotate_left; · intro w'; go_simp; with_reducible rfl
              rotate_left; · simp only [Act.put, sq1, sq2, sq3, i64_w, i32_w]; rfl
              refine pL 28 66 ba82 (v := ?_) (a' := ?_) rfl rfl (any_of HT_.out (by kernel_rfl)) (fun _ _ _ h => h) (Or.inl ⟨by rfl, ?_⟩) ?_ ?_
              rotate_left; · intro w'; go_simp; with_reducible rfl
              rotate_left; · simp only [Act.put, sq1, sq2, sq3, i64_w, i32_w]; rfl
              refine pL 29 67 ba83 (v := ?_) (a' := ?_) rfl rfl (any_of HT_.out (by kernel_rfl)) (fun _ _ _ h => h) (Or.inl ⟨by rfl, ?_⟩) ?_ ?_
              rotate_left; · intro w'; go_simp; with_reducible rfl
              rotate_left; · simp only [Act.put, sq1, sq2, sq3, i64_w, i32_w]; rfl
              refine pL 30 68 ba84 (v := ?_) (a' := ?_) rfl rfl (any_of HT_.out (by kernel_rfl)) (fun _ _ _ h => h) (Or.inl ⟨by rfl, ?_⟩) ?_ ?_
              rotate_left; · intro w'; go_simp; with_reducible rfl
              rotate_left; · simp only [Act.put, sq1, sq2, sq3, i64_w, i32_w]; rfl
              refine take_ (i := 23) (N := some 61) (v := ?_) (a' := ?_) ba85 rfl rfl (take_ofW HT_.out HW_.out (by kernel_rfl)) (fun _ _ _ h => h) (Or.inl ⟨by rfl, ?_⟩) hHeld ?_ ?_
              rotate_left
              ·rintro w' ⟨s0, s1, s2, s3, s4, s5, s6, s7, s8⟩
               go_simp
               with_reducible rfl
              rotate_left; · simp only [Act.put, sq1, sq2, sq3, i64_w, i32_w]; rfl
              refine take_ (i := 27) (N := some 65) (v := ?_) (a' := ?_) ba39 rfl rfl (take_ofW HT_.out HW_.out (by kernel_rfl)) (fun _ _ _ h => h) (Or.inl ⟨by rfl, ?_⟩) hHeld ?_ ?_
              rotate_left
              ·rintro w' ⟨s0, s1, s2, s3, s4, s5, s6, s7, s8⟩
               go_simp
               with_reducible rfl
              rotate_left; · simp only [Act.put, sq1, sq2, sq3, i64_w, i32_w]; rfl
              refine take_ (i := 31) (N := some 69) (v := ?_) (a' := ?_) ba40 rfl rfl (take_ofW HT_.out HW_.out (by kernel_rfl)) (fun _ _ _ h => h) (Or.inl ⟨by rfl, ?_⟩) hHeld ?_ ?_
              rotate_left
              ·rintro w' ⟨s0, s1, s2, s3, s4, s5, s6, s7, s8⟩
               go_simp
               with_reducible rfl
              rotate_left; · simp only [Act.put, sq1, sq2, sq3, i64_w, i32_w]; rfl
              refine one_ (i := 32) (N := some 70) ba41 rfl rfl (one_of HT_.out (by kernel_rfl)) (by decide) (fun K hK => ?_)
              refine goes_ Try.func22 (by kernel_rfl) rfl #[.agg #[.int .i64 a0_0, .int .i64 a0_1, .int .i64 a0_2], .int .i64 (rd t278 x9_1), .int .i64 (rd t278 x9_1)] (by rfl) rfl rfl (by (try simp only [List.map_toArray, List.map_cons, List.map_nil]); first | done | rfl | (simp only [List.length_drop, List.length_take]; rfl)) ?_
              with_reducible refine (spatelaw4_has.calls k1 a0_0 a0_1 a0_2 (rd t278 x9_1) (rd t278 x9_1) true _ A26.out).mono ?_
              rintro e w33 ⟨rfl, hb⟩
              have HS3_ := (hb.cell (World.block_lt_of_cell? _ _ (hHeld.2.2.2.1))).trans (hHeld.2.2.2.1)
              have HS4_ := (hb.cell (World.block_lt_of_cell? _ _ (hHeld.2.2.2.2.1))).trans (hHeld.2.2.2.2.1)
              have HS5_ := (hb.cell (World.block_lt_of_cell? _ _ (hHeld.2.2.2.2.2.1))).trans (hHeld.2.2.2.2.2.1)
              have HS6_ := (hb.cell (World.block_lt_of_cell? _ _ (hHeld.2.2.2.2.2.2.1))).trans (hHeld.2.2.2.2.2.2.1)
              have HS7_ := (hb.cell (World.block_lt_of_cell? _ _ (hHeld.2.2.2.2.2.2.2.1))).trans (hHeld.2.2.2.2.2.2.2.1)
              have HS8_ := (hb.cell (World.block_lt_of_cell? _ _ (hHeld.2.2.2.2.2.2.2.2))).trans (hHeld.2.2.2.2.2.2.2.2)
              refine ⟨_, rfl, ?_⟩
              have n0_ := Aside0.mk (Kd.R_below (by (with_reducible repeat (first | apply Kd.R_alloc | apply Kd.R_drewN | apply Kd.R_drew)); exact HO_7.out) hb)
              have n1_ := Aside0.mk (blk_below (g := gb274) (o := .cells #[.int .i64 a0_0, .int .i64 a0_1, .int .i64 a0_2] 24 (0, 0)) (by (with_reducible repeat (first | refine blk_drewN ?_ _ | refine blk_drew ?_ | refine blk_alloc ?_ _)); exact BK274.out) hb)
              have n2_ := Aside0.mk (below_step (by repeat (first | (with_reducible first | exact HB.out | apply below_alloc | apply pw_below_drewN | apply below_drew1 | refine below_set ?_ GE274.out) | exact HB.out)) hb)
              clear HO_7
              clear BK274
              clear HB
              have HO_7 := n0_
              have BK274 := n1_
              have HB := n2_
              clear n0_ n1_ n2_
              (try clear hb)
              (try clear hb2)
              (try clear hk)
              (try clear hi)
              refine hK.out _ _ ⟨(blk_cell BK274.out 0).trans rfl, (blk_cell BK274.out 1).trans rfl, (blk_cell BK274.out 2).trans rfl, HS3_, HS4_, HS5_, HS6_, HS7_, HS8_⟩ (fun hHeld => ?_)
              clear hK K
              refine norm_ (a' := ?_) ?_ ?_
              rotate_left
              ·show Act.put _ (some 70) _ = _
               simp only [Act.put, sq1, sq2, sq3, i64_w, i32_w]
               rfl
              refine pL 33 71 ba42 (v := ?_) (a' := ?_) rfl rfl (any_of HT_.out (by kernel_rfl)) (fun _ _ _ h => h) (Or.inl ⟨by rfl, ?_⟩) ?_ ?_
              rotate_left; · intro w'; go_simp; with_reducible rfl
              rotate_left; · simp only [Act.put, sq1, sq2, sq3, i64_w, i32_w]; rfl
              refine pL 34 72 ba43 (v := ?_) (a' := ?_) rfl rfl (any_of HT_.out (by kernel_rfl)) (fun _ _ _ h => h) (Or.inl ⟨by rfl, ?_⟩) ?_ ?_
              rotate_left; · intro w'; go_simp; with_reducible rfl
              rotate_left; · simp only [Act.put, sq1, sq2, sq3, i64_w, i32_w]; rfl
              refine pL 35 73 ba44 (v := ?_) (a' := ?_) rfl rfl (any_of HT_.out (by kernel_rfl)) (fun _ _ _ h => h) (Or.inl ⟨by rfl, ?_⟩) ?_ ?_
              rotate_left; · intro w'; go_simp; with_reducible rfl
              rotate_left; · simp only [Act.put, sq1, sq2, sq3, i64_w, i32_w]; rfl
              refine pL 37 75 ba86 (v := ?_) (a' := ?_) rfl rfl (any_of HT_.out (by kernel_rfl)) (fun _ _ _ h => h) (Or.inl ⟨by rfl, ?_⟩) ?_ ?_
              rotate_left; · intro w'; go_simp; with_reducible rfl
              rotate_left; · simp only [Act.put, sq1, sq2, sq3, i64_w, i32_w]; rfl
              refine pL 38 76 ba87 (v := ?_) (a' := ?_) rfl rfl (any_of HT_.out (by kernel_rfl)) (fun _ _ _ h => h) (Or.inl ⟨by rfl, ?_⟩) ?_ ?_
              rotate_left; · intro w'; go_simp; with_reducible rfl
              rotate_left; · simp only [Act.put, sq1, sq2, sq3, i64_w, i32_w]; rfl
              refine pL 39 77 ba88 (v := ?_) (a' := ?_) rfl rfl (any_of HT_.out (by kernel_rfl)) (fun _ _ _ h => h) (Or.inl ⟨by rfl, ?_⟩) ?_ ?_
              rotate_left; · intro w'; go_simp; with_reducible rfl
              rotate_left; · simp only [Act.put, sq1, sq2, sq3, i64_w, i32_w]; rfl
              refine pL 40 78 ba89 (v := ?_) (a' := ?_) rfl rfl (any_of HT_.out (by kernel_rfl)) (fun _ _ _ h => h) (Or.inl ⟨by rfl, ?_⟩) ?_ ?_
              rotate_left; · intro w'; go_simp; with_reducible rfl
              rotate_left; · simp only [Act.put, sq1, sq2, sq3, i64_w, i32_w]; rfl
              refine pL 41 79 ba90 (v := ?_) (a' := ?_) rfl rfl (any_of HT_.out (by kernel_rfl)) (fun _ _ _ h => h) (Or.inl ⟨by rfl, ?_⟩) ?_ ?_
              rotate_left; · intro w'; go_simp; with_reducible rfl
              rotate_left; · simp only [Act.put, sq1, sq2, sq3, i64_w, i32_w]; rfl
              refine take_ (i := 36) (N := some 74) (v := ?_) (a' := ?_) ba50 rfl rfl (take_ofW HT_.out HW_.out (by kernel_rfl)) (fun _ _ _ h => h) (Or.inl ⟨by rfl, ?_⟩) hHeld ?_ ?_
              rotate_left
              ·rintro w' ⟨s0, s1, s2, s3, s4, s5, s6, s7, s8⟩
               go_simp
               with_reducible rfl
              rotate_left; · simp only [Act.put, sq1, sq2, sq3, i64_w, i32_w]; rfl
              refine take_ (i := 42) (N := some 80) (v := ?_) (a' := ?_) ba51 rfl rfl (take_ofW HT_.out HW_.out (by kernel_rfl)) (fun _ _ _ h => h) (Or.inl ⟨by rfl, ?_⟩) hHeld ?_ ?_
              rotate_left
              ·rintro w' ⟨s0, s1, s2, s3, s4, s5, s6, s7, s8⟩
               go_simp
               with_reducible rfl
              rotate_left; · simp only [Act.put, sq1, sq2, sq3, i64_w, i32_w]; rfl
              refine one_ (i := 43) (N := some 81) ba52 rfl rfl (one_of HT_.out (by kernel_rfl)) (by decide) (fun K hK => ?_)
              refine goes_ Try.func22 (by kernel_rfl) rfl #[.agg #[.int .i64 a0_0, .int .i64 a0_1, .int .i64 a0_2], .int .i64 (wrap64 (t284 - 1)), .int .i64 (rd t278 x9_1)] (by rfl) rfl rfl (by (try simp only [List.map_toArray, List.map_cons, List.map_nil]); first | done | rfl | (simp only [List.length_drop, List.length_take]; rfl)) ?_
              with_reducible refine (spatelaw4_has.calls k1 a0_0 a0_1 a0_2 (wrap64 (t284 - 1)) (rd t278 x9_1) true _ A28.out).mono ?_
              rintro e w34 ⟨rfl, hb⟩
              have HS3_ := (hb.cell (World.block_lt_of_cell? _ _ (hHeld.2.2.2.1))).trans (hHeld.2.2.2.1)
              have HS4_ := (hb.cell (World.block_lt_of_cell? _ _ (hHeld.2.2.2.2.1))).trans (hHeld.2.2.2.2.1)
              have HS5_ := (hb.cell (World.block_lt_of_cell? _ _ (hHeld.2.2.2.2.2.1))).trans (hHeld.2.2.2.2.2.1)
              have HS6_ := (hb.cell (World.block_lt_of_cell? _ _ (hHeld.2.2.2.2.2.2.1))).trans (hHeld.2.2.2.2.2.2.1)
              have HS7_ := (hb.cell (World.block_lt_of_cell? _ _ (hHeld.2.2.2.2.2.2.2.1))).trans (hHeld.2.2.2.2.2.2.2.1)
              have HS8_ := (hb.cell (World.block_lt_of_cell? _ _ (hHeld.2.2.2.2.2.2.2.2))).trans (hHeld.2.2.2.2.2.2.2.2)
              refine ⟨_, rfl, ?_⟩
              have n0_ := Aside0.mk (Kd.R_below (by (with_reducible repeat (first | apply Kd.R_alloc | apply Kd.R_drewN | apply Kd.R_drew)); exact HO_7.out) hb)
              have n1_ := Aside0.mk (blk_below (g := gb274) (o := .cells #[.int .i64 a0_0, .int .i64 a0_1, .int .i64 a0_2] 24 (0, 0)) (by (with_reducible repeat (first | refine blk_drewN ?_ _ | refine blk_drew ?_ | refine blk_alloc ?_ _)); exact BK274.out) hb)
              have n2_ := Aside0.mk (below_step (by repeat (first | (with_reducible first | exact HB.out | apply below_alloc | apply pw_below_drewN | apply below_drew1 | refine below_set ?_ GE274.out) | exact HB.out)) hb)
              clear HO_7
              clear BK274
              clear HB
              have HO_7 := n0_
              have BK274 := n1_
              have HB := n2_
              clear n0_ n1_ n2_
              (try clear hb)
              (try clear hb2)
              (try clear hk)
              (try clear hi)
              refine hK.out _ _ ⟨(blk_cell BK274.out 0).trans rfl, (blk_cell BK274.out 1).trans rfl, (blk_cell BK274.out 2).trans rfl, HS3_, HS4_, HS5_, HS6_, HS7_, HS8_⟩ (fun hHeld => ?_)
              clear hK K
              refine norm_ (a' := ?_) ?_ ?_
              rotate_left
              ·show Act.put _ (some 81) _ = _
               simp only [Act.put, sq1, sq2, sq3, i64_w, i32_w]
               rfl
              refine pL 44 82 ba53 (v := ?_) (a' := ?_) rfl rfl (any_of HT_.out (by kernel_rfl)) (fun _ _ _ h => h) (Or.inl ⟨by rfl, ?_⟩) ?_ ?_
              rotate_left; · intro w'; go_simp; with_reducible rfl
              rotate_left; · simp only [Act.put, sq1, sq2, sq3, i64_w, i32_w]; rfl
              refine pL 45 83 ba54 (v := ?_) (a' := ?_) rfl rfl (any_of HT_.out (by kernel_rfl)) (fun _ _ _ h => h) (Or.inl ⟨by rfl, ?_⟩) ?_ ?_
              rotate_left; · intro w'; go_simp; with_reducible rfl
              rotate_left; · simp only [Act.put, sq1, sq2, sq3, i64_w, i32_w]; rfl
              refine pL 46 84 ba55 (v := ?_) (a' := ?_) rfl rfl (any_of HT_.out (by kernel_rfl)) (fun _ _ _ h => h) (Or.inl ⟨by rfl, ?_⟩) ?_ ?_
              rotate_left; · intro w'; go_simp; with_reducible rfl
              rotate_left; · simp only [Act.put, sq1, sq2, sq3, i64_w, i32_w]; rfl
              refine pL 48 86 ba91 (v := ?_) (a' := ?_) rfl rfl (any_of HT_.out (by kernel_rfl)) (fun _ _ _ h => h) (Or.inl ⟨by rfl, ?_⟩) ?_ ?_
              rotate_left; · intro w'; go_simp; with_reducible rfl
              rotate_left; · simp only [Act.put, sq1, sq2, sq3, i64_w, i32_w]; rfl
              refine pL 49 87 ba92 (v := ?_) (a' := ?_) rfl rfl (any_of HT_.out (by kernel_rfl)) (fun _ _ _ h => h) (Or.inl ⟨by rfl, ?_⟩) ?_ ?_
              rotate_left; · intro w'; go_simp; with_reducible rfl
              rotate_left; · simp only [Act.put, sq1, sq2, sq3, i64_w, i32_w]; rfl
              refine pL 50 88 ba93 (v := ?_) (a' := ?_) rfl rfl (any_of HT_.out (by kernel_rfl)) (fun _ _ _ h => h) (Or.inl ⟨by rfl, ?_⟩) ?_ ?_
              rotate_left; · intro w'; go_simp; with_reducible rfl
              rotate_left; · simp only [Act.put, sq1, sq2, sq3, i64_w, i32_w]; rfl
              refine pL 51 89 ba94 (v := ?_) (a' := ?_) rfl rfl (any_of HT_.out (by kernel_rfl)) (fun _ _ _ h => h) (Or.inl ⟨by rfl, ?_⟩) ?_ ?_
              rotate_left; · intro w'; go_simp; with_reducible rfl
              rotate_left; · simp only [Act.put, sq1, sq2, sq3, i64_w, i32_w]; rfl
              refine take_ (i := 47) (N := some 85) (v := ?_) (a' := ?_) ba60 rfl rfl (take_ofW HT_.out HW_.out (by kernel_rfl)) (fun _ _ _ h => h) (Or.inl ⟨by rfl, ?_⟩) hHeld ?_ ?_
              rotate_left
              ·rintro w' ⟨s0, s1, s2, s3, s4, s5, s6, s7, s8⟩
               go_simp
               with_reducible rfl
              rotate_left; · simp only [Act.put, sq1, sq2, sq3, i64_w, i32_w]; rfl
              refine take_ (i := 52) (N := some 90) (v := ?_) (a' := ?_) ba61 rfl rfl (take_ofW HT_.out HW_.out (by kernel_rfl)) (fun _ _ _ h => h) (Or.inl ⟨by rfl, ?_⟩) hHeld ?_ ?_
              rotate_left
              ·rintro w' ⟨s0, s1, s2, s3, s4, s5, s6, s7, s8⟩
               go_simp
               with_reducible rfl
              rotate_left; · simp only [Act.put, sq1, sq2, sq3, i64_w, i32_w]; rfl
              refine one_ (i := 53) (N := some 91) ba62 rfl rfl (one_of HT_.out (by kernel_rfl)) (by decide) (fun K hK => ?_)
              refine goes_ Try.func22 (by kernel_rfl) rfl #[.agg #[.int .i64 a0_0, .int .i64 a0_1, .int .i64 a0_2], .int .i64 t284, .int .i64 (rd t278 x9_1)] (by rfl) rfl rfl (by (try simp only [List.map_toArray, List.map_cons, List.map_nil]); first | done | rfl | (simp only [List.length_drop, List.length_take]; rfl)) ?_
              with_reducible refine (spatelaw4_has.calls k1 a0_0 a0_1 a0_2 t284 (rd t278 x9_1) true _ A30.out).mono ?_
              rintro e w35 ⟨rfl, hb⟩
              have HS3_ := (hb.cell (World.block_lt_of_cell? _ _ (hHeld.2.2.2.1))).trans (hHeld.2.2.2.1)
              have HS4_ := (hb.cell (World.block_lt_of_cell? _ _ (hHeld.2.2.2.2.1))).trans (hHeld.2.2.2.2.1)
              have HS5_ := (hb.cell (World.block_lt_of_cell? _ _ (hHeld.2.2.2.2.2.1))).trans (hHeld.2.2.2.2.2.1)
              have HS6_ := (hb.cell (World.block_lt_of_cell? _ _ (hHeld.2.2.2.2.2.2.1))).trans (hHeld.2.2.2.2.2.2.1)
              have HS7_ := (hb.cell (World.block_lt_of_cell? _ _ (hHeld.2.2.2.2.2.2.2.1))).trans (hHeld.2.2.2.2.2.2.2.1)
              have HS8_ := (hb.cell (World.block_lt_of_cell? _ _ (hHeld.2.2.2.2.2.2.2.2))).trans (hHeld.2.2.2.2.2.2.2.2)
              refine ⟨_, rfl, ?_⟩
              have n0_ := Aside0.mk (Kd.R_below (by (with_reducible repeat (first | apply Kd.R_alloc | apply Kd.R_drewN | apply Kd.R_drew)); exact HO_7.out) hb)
              have n1_ := Aside0.mk (blk_below (g := gb274) (o := .cells #[.int .i64 a0_0, .int .i64 a0_1, .int .i64 a0_2] 24 (0, 0)) (by (with_reducible repeat (first | refine blk_drewN ?_ _ | refine blk_drew ?_ | refine blk_alloc ?_ _)); exact BK274.out) hb)
              have n2_ := Aside0.mk (below_step (by repeat (first | (with_reducible first | exact HB.out | apply below_alloc | apply pw_below_drewN | apply below_drew1 | refine below_set ?_ GE274.out) | exact HB.out)) hb)
              clear HO_7
              clear BK274
              clear HB
              have HO_7 := n0_
              have BK274 := n1_
              have HB := n2_
              clear n0_ n1_ n2_
              (try clear hb)
              (try clear hb2)
              (try clear hk)
              (try clear hi)
              refine hK.out _ _ ⟨(blk_cell BK274.out 0).trans rfl, (blk_cell BK274.out 1).trans rfl, (blk_cell BK274.out 2).trans rfl, HS3_, HS4_, HS5_, HS6_, HS7_, HS8_⟩ (fun hHeld => ?_)
              clear hK K
              refine norm_ (a' := ?_) ?_ ?_
              rotate_left
              ·show Act.put _ (some 91) _ = _
               simp only [Act.put, sq1, sq2, sq3, i64_w, i32_w]
               rfl
              refine pL 54 92 ba63 (v := ?_) (a' := ?_) rfl rfl (any_of HT_.out (by kernel_rfl)) (fun _ _ _ h => h) (Or.inl ⟨by rfl, ?_⟩) ?_ ?_
              rotate_left; · intro w'; go_simp; with_reducible rfl
              rotate_left; · simp only [Act.put, sq1, sq2, sq3, i64_w, i32_w]; rfl
              refine pL 55 93 ba64 (v := ?_) (a' := ?_) rfl rfl (any_of HT_.out (by kernel_rfl)) (fun _ _ _ h => h) (Or.inl ⟨by rfl, ?_⟩) ?_ ?_
              rotate_left; · intro w'; go_simp; with_reducible rfl
              rotate_left; · simp only [Act.put, sq1, sq2, sq3, i64_w, i32_w]; rfl
              refine pR 56 94 ba65 (a' := ?_) rfl rfl (any_of HT_.out (by kernel_rfl)) (fun _ _ _ h => h) (Or.inr ⟨by rfl, rfl⟩) ?_ ?_
              rotate_left; · simp only [Act.put, sq1, sq2, sq3, i64_w, i32_w]; rfl
              refine pR 57 95 ba66 (a' := ?_) rfl rfl (any_of HT_.out (by kernel_rfl)) (fun _ _ _ h => h) (Or.inr ⟨by rfl, rfl⟩) ?_ ?_
              rotate_left; · simp only [Act.put, sq1, sq2, sq3, i64_w, i32_w]; rfl
              refine pR 58 96 ba67 (a' := ?_) rfl rfl (any_of HT_.out (by kernel_rfl)) (fun _ _ _ h => h) (Or.inr ⟨by rfl, rfl⟩) ?_ ?_
              rotate_left; · simp only [Act.put, sq1, sq2, sq3, i64_w, i32_w]; rfl
              refine pR 59 97 ba68 (a' := ?_) rfl rfl (any_of HT_.out (by kernel_rfl)) (fun _ _ _ h => h) (Or.inr ⟨by rfl, rfl⟩) ?_ ?_
              rotate_left; · simp only [Act.put, sq1, sq2, sq3, i64_w, i32_w]; rfl
              refine pR 60 98 ba69 (a' := ?_) rfl rfl (any_of HT_.out (by kernel_rfl)) (fun _ _ _ h => h) (Or.inr ⟨by rfl, rfl⟩) ?_ ?_
              rotate_left; · simp only [Act.put, sq1, sq2, sq3, i64_w, i32_w]; rfl
              refine pR 61 99 ba70 (a' := ?_) rfl rfl (any_of HT_.out (by kernel_rfl)) (fun _ _ _ h => h) (Or.inr ⟨by rfl, rfl⟩) ?_ ?_
              rotate_left; · simp only [Act.put, sq1, sq2, sq3, i64_w, i32_w]; rfl
              refine pR 62 100 ba71 (a' := ?_) rfl rfl (any_of HT_.out (by kernel_rfl)) (fun _ _ _ h => h) (Or.inr ⟨by rfl, rfl⟩) ?_ ?_
              rotate_left; · simp only [Act.put, sq1, sq2, sq3, i64_w, i32_w]; rfl
              refine pR 63 101 ba72 (a' := ?_) rfl rfl (any_of HT_.out (by kernel_rfl)) (fun _ _ _ h => h) (Or.inr ⟨by rfl, rfl⟩) ?_ ?_
              rotate_left; · simp only [Act.put, sq1, sq2, sq3, i64_w, i32_w]; rfl
              refine pR 64 102 ba73 (a' := ?_) rfl rfl (any_of HT_.out (by kernel_rfl)) (fun _ _ _ h => h) (Or.inr ⟨by rfl, rfl⟩) ?_ ?_
              rotate_left; · simp only [Act.put, sq1, sq2, sq3, i64_w, i32_w]; rfl
              refine pR 65 103 ba74 (a' := ?_) rfl rfl (any_of HT_.out (by kernel_rfl)) (fun _ _ _ h => h) (Or.inr ⟨by rfl, rfl⟩) ?_ ?_
              rotate_left; · simp only [Act.put, sq1, sq2, sq3, i64_w, i32_w]; rfl
              refine pR 66 104 ba75 (a' := ?_) rfl rfl (any_of HT_.out (by kernel_rfl)) (fun _ _ _ h => h) (Or.inr ⟨by rfl, rfl⟩) ?_ ?_
              rotate_left; · simp only [Act.put, sq1, sq2, sq3, i64_w, i32_w]; rfl
              refine pL 67 105 ba76 (v := ?_) (a' := ?_) rfl rfl (any_of HT_.out (by kernel_rfl)) (fun _ _ _ h => h) (Or.inl ⟨by rfl, ?_⟩) ?_ ?_
              rotate_left; · intro w'; go_simp; with_reducible rfl
              rotate_left; · simp only [Act.put, sq1, sq2, sq3, i64_w, i32_w]; rfl
              refine done_ (done_of HT_.out (by kernel_rfl)) ?_
              try go_wp2
              go_meet
              case rel => exact ⟨_, (true), (by first | rfl | (simp; done) | (simp [*]; done)), H', ⟨by have := HK1.out; first | omega | exact Nat.le_refl _⟩, ⟨by (with_reducible repeat (first | apply Kd.R_alloc | apply Kd.R_drewN | apply Kd.R_drew)); exact HO_7.out⟩, ⟨by (with_reducible repeat (first | refine blk_drewN ?_ _ | refine blk_drew ?_ | refine blk_alloc ?_ _)); exact BK274.out⟩, ⟨by repeat (first | (with_reducible first | exact HB.out | apply below_alloc | apply pw_below_drewN | apply below_drew1 | refine below_set ?_ GE274.out) | exact HB.out)⟩⟩
             ·replace c31 := Bool.eq_false_iff.mpr c31
              subst c31
              have H1 : ((spatelaw4_has.f k1 a0_0 a0_1 a0_2 (wrap64 ((rd t278 x9_1) - 1)) (rd t278 x9_1)).bind fun t296 => (spatelaw4_PaneTimes.j1 k1 t277 a2 t278 x9_1 t284 t296 a0_0 a0_1 a0_2)) = some r := by rw [if_neg (show ¬ (false = true) by decide)] at H; exact H
              clear H
              have H := H1
              clear H1
              replace H := Option.bind_eq_some_iff.mp H
              obtain ⟨t296, A360, H⟩ := H
              replace H : (spatelaw4_PaneTimes.j1 k1 t277 a2 t278 x9_1 t284 t296 a0_0 a0_1 a0_2) = some r := H
              have A36 := Aside0.mk A360
              clear A360
              have H' := Aside0.mk H
              clear H
              try go_wp2
              have n0_ := Aside0.mk (Kd.R_drew HO_7.out)
              have n1_ := Aside0.mk (blk_drew BK274.out)
              have n2_ := Aside0.mk (below_drew1 HB.out)
              clear HO_7
              clear BK274
              clear HB
              have HO_7 := n0_
              have BK274 := n1_
              have HB := n2_
              clear n0_ n1_ n2_
              have p285 : 0 ≤ (x9_1 : Int) := of_decide_eq_true (by first | (with_reducible assumption) | assumption)
              have q285 : x9_1 < (t278.length : Int) := of_decide_eq_true (by first | (with_reducible assumption) | assumption)
              obtain ⟨ad285, e285, hx285_0⟩ := Kd.at_int (Kd.R_reads' HO_7.out).2.2 x9_1 p285 q285
              obtain rfl : ad283 = ad285 := (by injection e285)
              replace p285 := eq_true p285
              replace q285 := eq_true q285
              have p286 : 0 ≤ (x9_1 : Int) := of_decide_eq_true (by first | (with_reducible assumption) | assumption)
              have q286 : x9_1 < (t278.length : Int) := of_decide_eq_true (by first | (with_reducible assumption) | assumption)
              obtain ⟨ad286, e286, hx286_0⟩ := Kd.at_int (Kd.R_reads' HO_7.out).2.2 x9_1 p286 q286
              obtain rfl : ad283 = ad286 := (by injection e286)
              replace p286 := eq_true p286
              replace q286 := eq_true q286
              have p287 : 0 ≤ (x9_1 : Int) := of_decide_eq_true (by first | (with_reducible assumption) | assumption)
              have q287 : x9_1 < (t278.length : Int) := of_decide_eq_true (by first | (with_reducible assumption) | assumption)
              obtain ⟨ad287, e287, hx287_0⟩ := Kd.at_int (Kd.R_reads' HO_7.out).2.2 x9_1 p287 q287
              obtain rfl : ad283 = ad287 := (by injection e287)
              replace p287 := eq_true p287
              replace q287 := eq_true q287
              have p288 : 0 ≤ (x9_1 : Int) := of_decide_eq_true (by first | (with_reducible assumption) | assumption)
              have q288 : x9_1 < (t278.length : Int) := of_decide_eq_true (by first | (with_reducible assumption) | assumption)
              obtain ⟨ad288, e288, hx288_0⟩ := Kd.at_int (Kd.R_reads' HO_7.out).2.2 x9_1 p288 q288
              obtain rfl : ad283 = ad288 := (by injection e288)
              replace p288 := eq_true p288
              replace q288 := eq_true q288
              have p290 : 0 ≤ (x9_1 : Int) := of_decide_eq_true (by first | (with_reducible assumption) | assumption)
              have q290 : x9_1 < (t278.length : Int) := of_decide_eq_true (by first | (with_reducible assumption) | assumption)
              obtain ⟨ad290, e290, hx290_0⟩ := Kd.at_int (Kd.R_reads' HO_7.out).2.2 x9_1 p290 q290
              obtain rfl : ad283 = ad290 := (by injection e290)
              replace p290 := eq_true p290
              replace q290 := eq_true q290
              have p292 : 0 ≤ (x9_1 : Int) := of_decide_eq_true (by first | (with_reducible assumption) | assumption)
              have q292 : x9_1 < (t278.length : Int) := of_decide_eq_true (by first | (with_reducible assumption) | assumption)
              obtain ⟨ad292, e292, hx292_0⟩ := Kd.at_int (Kd.R_reads' HO_7.out).2.2 x9_1 p292 q292
              obtain rfl : ad283 = ad292 := (by injection e292)
              replace p292 := eq_true p292
              replace q292 := eq_true q292
              have p294 : 0 ≤ (x9_1 : Int) := of_decide_eq_true (by first | (with_reducible assumption) | assumption)
              have q294 : x9_1 < (t278.length : Int) := of_decide_eq_true (by first | (with_reducible assumption) | assumption)
              obtain ⟨ad294, e294, hx294_0⟩ := Kd.at_int (Kd.R_reads' HO_7.out).2.2 x9_1 p294 q294
              obtain rfl : ad283 = ad294 := (by injection e294)
              replace p294 := eq_true p294
              replace q294 := eq_true q294
              have p295 : 0 ≤ (x9_1 : Int) := of_decide_eq_true (by first | (with_reducible assumption) | assumption)
              have q295 : x9_1 < (t278.length : Int) := of_decide_eq_true (by first | (with_reducible assumption) | assumption)
              obtain ⟨ad295, e295, hx295_0⟩ := Kd.at_int (Kd.R_reads' HO_7.out).2.2 x9_1 p295 q295
              obtain rfl : ad283 = ad295 := (by injection e295)
              replace p295 := eq_true p295
              replace q295 := eq_true q295
              refine start_ (n := 68) (S := fun w' => w'.cell? ⟨gb274, 0, none⟩ = some (.int .i64 a0_0) ∧ w'.cell? ⟨gb274, 1, none⟩ = some (.int .i64 a0_1) ∧ w'.cell? ⟨gb274, 2, none⟩ = some (.int .i64 a0_2) ∧ w'.cell? (ad283.add (x9_1).toNat) = some (.int .i64 (rd t278 x9_1)) ∧ w'.cell? (ad283.add (x9_1).toNat) = some (.int .i64 (rd t278 x9_1)) ∧ w'.cell? (ad283.add (x9_1).toNat) = some (.int .i64 (rd t278 x9_1)) ∧ w'.cell? (ad283.add (x9_1).toNat) = some (.int .i64 (rd t278 x9_1)) ∧ w'.cell? (ad283.add (x9_1).toNat) = some (.int .i64 (rd t278 x9_1)) ∧ w'.cell? (ad283.add (x9_1).toNat) = some (.int .i64 (rd t278 x9_1)) ∧ w'.cell? (ad283.add (x9_1).toNat) = some (.int .i64 (rd t278 x9_1)) ∧ w'.cell? (ad283.add (x9_1).toNat) = some (.int .i64 (rd t278 x9_1))) (ds := []) ba8 (by kernel_rfl) rfl rfl ⟨(blk_cell BK274.out 0).trans rfl, (blk_cell BK274.out 1).trans rfl, (blk_cell BK274.out 2).trans rfl, hx285_0, hx286_0, hx287_0, hx288_0, hx290_0, hx292_0, hx294_0, hx295_0⟩ (fun hHeld => ?_); refine with_tabW spatelaw4_PaneTimes.tab11 spatelaw4_PaneTimes.bits11 (fun HT_ HW_ => ?_)
              generalize w20.drew = w37 at HO_7 BK274 HB hx285_0 hx286_0 hx287_0 hx288_0 hx290_0 hx292_0 hx294_0 hx295_0 hHeld ⊢
              refine pL 0 38 ba9 (v := ?_) (a' := ?_) rfl rfl (any_of HT_.out (by kernel_rfl)) (fun _ _ _ h => h) (Or.inl ⟨by rfl, ?_⟩) ?_ ?_
              rotate_left; · intro w'; go_simp; with_reducible rfl
              rotate_left; · simp only [Act.put, sq1, sq2, sq3, i64_w, i32_w]; rfl
              refine pL 1 39 ba10 (v := ?_) (a' := ?_) rfl rfl (any_of HT_.out (by kernel_rfl)) (fun _ _ _ h => h) (Or.inl ⟨by rfl, ?_⟩) ?_ ?_
              rotate_left; · intro w'; go_simp; with_reducible rfl
              rotate_left; · simp only [Act.put, sq1, sq2, sq3, i64_w, i32_w]; rfl
              refine pL 2 40 ba11 (v := ?_) (a' := ?_) rfl rfl (any_of HT_.out (by kernel_rfl)) (fun _ _ _ h => h) (Or.inl ⟨by rfl, ?_⟩) ?_ ?_
              rotate_left; · intro w'; go_simp; with_reducible rfl
              rotate_left; · simp only [Act.put, sq1, sq2, sq3, i64_w, i32_w]; rfl
              refine pL 4 42 ba12 (v := ?_) (a' := ?_) rfl rfl (any_of HT_.out (by kernel_rfl)) (fun _ _ _ h => h) (Or.inl ⟨by rfl, ?_⟩) ?_ ?_
              rotate_left; · intro w'; go_simp; with_reducible rfl
              rotate_left; · simp only [Act.put, sq1, sq2, sq3, i64_w, i32_w]; rfl
              refine take_ (i := 3) (N := some 41) (v := ?_) (a' := ?_) ba13 rfl rfl (take_ofW HT_.out HW_.out (by kernel_rfl)) (fun _ _ _ h => h) (Or.inl ⟨by rfl, ?_⟩) hHeld ?_ ?_
              rotate_left
              ·rintro w' ⟨s0, s1, s2, s3, s4, s5, s6, s7, s8, s9, s10⟩
               go_simp
               with_reducible rfl
              rotate_left; · simp only [Act.put, sq1, sq2, sq3, i64_w, i32_w]; rfl
              refine pL 5 43 ba14 (v := ?_) (a' := ?_) rfl rfl (any_of HT_.out (by kernel_rfl)) (fun _ _ _ h => h) (Or.inl ⟨by rfl, ?_⟩) ?_ ?_
              rotate_left; · intro w'; go_simp; with_reducible rfl
              rotate_left; · simp only [Act.put, sq1, sq2, sq3, i64_w, i32_w]; rfl
              refine pL 6 44 ba15 (v := ?_) (a' := ?_) rfl rfl (any_of HT_.out (by kernel_rfl)) (fun _ _ _ h => h) (Or.inl ⟨by rfl, ?_⟩) ?_ ?_
              rotate_left; · intro w'; go_simp; with_reducible rfl
              rotate_left; · simp only [Act.put, sq1, sq2, sq3, i64_w, i32_w]; rfl
              refine pL 7 45 ba16 (v := ?_) (a' := ?_) rfl rfl (any_of HT_.out (by kernel_rfl)) (fun _ _ _ h => h) (Or.inl ⟨by rfl, ?_⟩) ?_ ?_
              rotate_left; · intro w'; go_simp; with_reducible rfl
              rotate_left; · simp only [Act.put, sq1, sq2, sq3, i64_w, i32_w]; rfl
              refine pL 8 46 ba17 (v := ?_) (a' := ?_) rfl rfl (any_of HT_.out (by kernel_rfl)) (fun _ _ _ h => h) (Or.inl ⟨by rfl, ?_⟩) ?_ ?_
              rotate_left; · intro w'; go_simp; with_reducible rfl
              rotate_left; · simp only [Act.put, sq1, sq2, sq3, i64_w, i32_w]; rfl
              refine pL 9 47 ba18 (v := ?_) (a' := ?_) rfl rfl (any_of HT_.out (by kernel_rfl)) (fun _ _ _ h => h) (Or.inl ⟨by rfl, ?_⟩) ?_ ?_
              rotate_left; · intro w'; go_simp; with_reducible rfl
              rotate_left; · simp only [Act.put, sq1, sq2, sq3, i64_w, i32_w]; rfl
              refine pL 10 48 ba19 (v := ?_) (a' := ?_) rfl rfl (any_of HT_.out (by kernel_rfl)) (fun _ _ _ h => h) (Or.inl ⟨by rfl, ?_⟩) ?_ ?_
              rotate_left; · intro w'; go_simp; with_reducible rfl
              rotate_left; · simp only [Act.put, sq1, sq2, sq3, i64_w, i32_w]; rfl
              refine pL 11 49 ba20 (v := ?_) (a' := ?_) rfl rfl (any_of HT_.out (by kernel_rfl)) (fun _ _ _ h => h) (Or.inl ⟨by rfl, ?_⟩) ?_ ?_
              rotate_left; · intro w'; go_simp; with_reducible rfl
              rotate_left; · simp only [Act.put, sq1, sq2, sq3, i64_w, i32_w]; rfl
              refine pL 12 50 ba21 (v := ?_) (a' := ?_) rfl rfl (any_of HT_.out (by kernel_rfl)) (fun _ _ _ h => h) (Or.inl ⟨by rfl, ?_⟩) ?_ ?_
              rotate_left; · intro w'; go_simp; with_reducible rfl
              rotate_left; · simp only [Act.put, sq1, sq2, sq3, i64_w, i32_w]; rfl
              refine pL 13 51 ba22 (v := ?_) (a' := ?_) rfl rfl (any_of HT_.out (by kernel_rfl)) (fun _ _ _ h => h) (Or.inl ⟨by rfl, ?_⟩) ?_ ?_
              rotate_left; · intro w'; go_simp; with_reducible rfl
              rotate_left; · simp only [Act.put, sq1, sq2, sq3, i64_w, i32_w]; rfl
              refine pL 14 52 ba23 (v := ?_) (a' := ?_) rfl rfl (any_of HT_.out (by kernel_rfl)) (fun _ _ _ h => h) (Or.inl ⟨by rfl, ?_⟩) ?_ ?_
              rotate_left; · intro w'; go_simp; with_reducible rfl
              rotate_left; · simp only [Act.put, sq1, sq2, sq3, i64_w, i32_w]; rfl
              refine pL 15 53 ba24 (v := ?_) (a' := ?_) rfl rfl (any_of HT_.out (by kernel_rfl)) (fun _ _ _ h => h) (Or.inl ⟨by rfl, ?_⟩) ?_ ?_
              rotate_left; · intro w'; go_simp; with_reducible rfl
              rotate_left; · simp only [Act.put, sq1, sq2, sq3, i64_w, i32_w]; rfl
              refine pL 18 56 ba77 (v := ?_) (a' := ?_) rfl rfl (any_of HT_.out (by kernel_rfl)) (fun _ _ _ h => h) (Or.inl ⟨by rfl, ?_⟩) ?_ ?_
              rotate_left; · intro w'; go_simp; with_reducible rfl
              rotate_left; · simp only [Act.put, sq1, sq2, sq3, i64_w, i32_w]; rfl
              refine take_ (i := 16) (N := some 54) (v := ?_) (a' := ?_) ba78 rfl rfl (take_ofW HT_.out HW_.out (by kernel_rfl)) (fun _ _ _ h => h) (Or.inl ⟨by rfl, ?_⟩) hHeld ?_ ?_
              rotate_left
              ·rintro w' ⟨s0, s1, s2, s3, s4, s5, s6, s7, s8, s9, s10⟩
               go_simp
               with_reducible rfl
              rotate_left; · simp only [Act.put, sq1, sq2, sq3, i64_w, i32_w]; rfl
              refine pL 17 55 ba27 (v := ?_) (a' := ?_) rfl rfl (any_of HT_.out (by kernel_rfl)) (fun _ _ _ h => h) (Or.inl ⟨by rfl, ?_⟩) ?_ ?_
              rotate_left; · intro w'; go_simp; with_reducible rfl
              rotate_left; · simp only [Act.put, sq1, sq2, sq3, i64_w, i32_w]; rfl
              refine take_ (i := 19) (N := some 57) (v := ?_) (a' := ?_) ba28 rfl rfl (take_ofW HT_.out HW_.out (by kernel_rfl)) (fun _ _ _ h => h) (Or.inl ⟨by rfl, ?_⟩) hHeld ?_ ?_
              rotate_left
              ·rintro w' ⟨s0, s1, s2, s3, s4, s5, s6, s7, s8, s9, s10⟩
               go_simp
               with_reducible rfl
              rotate_left; · simp only [Act.put, sq1, sq2, sq3, i64_w, i32_w]; rfl
              refine pL 20 58 ba29 (v := ?_) (a' := ?_) rfl rfl (any_of HT_.out (by kernel_rfl)) (fun _ _ _ h => h) (Or.inl ⟨by rfl, ?_⟩) ?_ ?_
              rotate_left; · intro w'; go_simp; with_reducible rfl
              rotate_left; · simp only [Act.put, sq1, sq2, sq3, i64_w, i32_w]; rfl
              refine pL 21 59 ba30 (v := ?_) (a' := ?_) rfl rfl (any_of HT_.out (by kernel_rfl)) (fun _ _ _ h => h) (Or.inl ⟨by rfl, ?_⟩) ?_ ?_
              rotate_left; · intro w'; go_simp; with_reducible rfl
              rotate_left; · simp only [Act.put, sq1, sq2, sq3, i64_w, i32_w]; rfl
              refine pL 22 60 ba31 (v := ?_) (a' := ?_) rfl rfl (any_of HT_.out (by kernel_rfl)) (fun _ _ _ h => h) (Or.inl ⟨by rfl, ?_⟩) ?_ ?_
              rotate_left; · intro w'; go_simp; with_reducible rfl
              rotate_left; · simp only [Act.put, sq1, sq2, sq3, i64_w, i32_w]; rfl
              refine pL 24 62 ba79 (v := ?_) (a' := ?_) rfl rfl (any_of HT_.out (by kernel_rfl)) (fun _ _ _ h => h) (Or.inl ⟨by rfl, ?_⟩) ?_ ?_
              rotate_left; · intro w'; go_simp; with_reducible rfl
              rotate_left; · simp only [Act.put, sq1, sq2, sq3, i64_w, i32_w]; rfl
              refine pL 25 63 ba80 (v := ?_) (a' := ?_) rfl rfl (any_of HT_.out (by kernel_rfl)) (fun _ _ _ h => h) (Or.inl ⟨by rfl, ?_⟩) ?_ ?_
              rotate_left; · intro w'; go_simp; with_reducible rfl
              rotate_left; · simp only [Act.put, sq1, sq2, sq3, i64_w, i32_w]; rfl
              refine pL 26 64 ba81 (v := ?_) (a' := ?_) rfl rfl (any_of HT_.out (by kernel_rfl)) (fun _ _ _ h => h) (Or.inl ⟨by rfl, ?_⟩) ?_ ?_
              rotate_left; · intro w'; go_simp; with_reducible rfl
              rotate_left; · simp only [Act.put, sq1, sq2, sq3, i64_w, i32_w]; rfl
              refine pL 28 66 ba82 (v := ?_) (a' := ?_) rfl rfl (any_of HT_.out (by kernel_rfl)) (fun _ _ _ h => h) (Or.inl ⟨by rfl, ?_⟩) ?_ ?_
              rotate_left; · intro w'; go_simp; with_reducible rfl
              rotate_left; · simp only [Act.put, sq1, sq2, sq3, i64_w, i32_w]; rfl
              refine pL 29 67 ba83 (v := ?_) (a' := ?_) rfl rfl (any_of HT_.out (by kernel_rfl)) (fun _ _ _ h => h) (Or.inl ⟨by rfl, ?_⟩) ?_ ?_
              rotate_left; · intro w'; go_simp; with_reducible rfl
              rotate_left; · simp only [Act.put, sq1, sq2, sq3, i64_w, i32_w]; rfl
              refine pL 30 68 ba84 (v := ?_) (a' := ?_) rfl rfl (any_of HT_.out (by kernel_rfl)) (fun _ _ _ h => h) (Or.inl ⟨by rfl, ?_⟩) ?_ ?_
              rotate_left; · intro w'; go_simp; with_reducible rfl
              rotate_left; · simp only [Act.put, sq1, sq2, sq3, i64_w, i32_w]; rfl
              refine take_ (i := 23) (N := some 61) (v := ?_) (a' := ?_) ba85 rfl rfl (take_ofW HT_.out HW_.out (by kernel_rfl)) (fun _ _ _ h => h) (Or.inl ⟨by rfl, ?_⟩) hHeld ?_ ?_
              rotate_left
              ·rintro w' ⟨s0, s1, s2, s3, s4, s5, s6, s7, s8, s9, s10⟩
               go_simp
               with_reducible rfl
              rotate_left; · simp only [Act.put, sq1, sq2, sq3, i64_w, i32_w]; rfl
              refine take_ (i := 27) (N := some 65) (v := ?_) (a' := ?_) ba39 rfl rfl (take_ofW HT_.out HW_.out (by kernel_rfl)) (fun _ _ _ h => h) (Or.inl ⟨by rfl, ?_⟩) hHeld ?_ ?_
              rotate_left
              ·rintro w' ⟨s0, s1, s2, s3, s4, s5, s6, s7, s8, s9, s10⟩
               go_simp
               with_reducible rfl
              rotate_left; · simp only [Act.put, sq1, sq2, sq3, i64_w, i32_w]; rfl
              refine take_ (i := 31) (N := some 69) (v := ?_) (a' := ?_) ba40 rfl rfl (take_ofW HT_.out HW_.out (by kernel_rfl)) (fun _ _ _ h => h) (Or.inl ⟨by rfl, ?_⟩) hHeld ?_ ?_
              rotate_left
              ·rintro w' ⟨s0, s1, s2, s3, s4, s5, s6, s7, s8, s9, s10⟩
               go_simp
               with_reducible rfl
              rotate_left; · simp only [Act.put, sq1, sq2, sq3, i64_w, i32_w]; rfl
              refine one_ (i := 32) (N := some 70) ba41 rfl rfl (one_of HT_.out (by kernel_rfl)) (by decide) (fun K hK => ?_)
              refine goes_ Try.func22 (by kernel_rfl) rfl #[.agg #[.int .i64 a0_0, .int .i64 a0_1, .int .i64 a0_2], .int .i64 (rd t278 x9_1), .int .i64 (rd t278 x9_1)] (by rfl) rfl rfl (by (try simp only [List.map_toArray, List.map_cons, List.map_nil]); first | done | rfl | (simp only [List.length_drop, List.length_take]; rfl)) ?_
              with_reducible refine (spatelaw4_has.calls k1 a0_0 a0_1 a0_2 (rd t278 x9_1) (rd t278 x9_1) true _ A26.out).mono ?_
              rintro e w38 ⟨rfl, hb⟩
              have HS3_ := (hb.cell (World.block_lt_of_cell? _ _ (hHeld.2.2.2.1))).trans (hHeld.2.2.2.1)
              have HS4_ := (hb.cell (World.block_lt_of_cell? _ _ (hHeld.2.2.2.2.1))).trans (hHeld.2.2.2.2.1)
              have HS5_ := (hb.cell (World.block_lt_of_cell? _ _ (hHeld.2.2.2.2.2.1))).trans (hHeld.2.2.2.2.2.1)
              have HS6_ := (hb.cell (World.block_lt_of_cell? _ _ (hHeld.2.2.2.2.2.2.1))).trans (hHeld.2.2.2.2.2.2.1)
              have HS7_ := (hb.cell (World.block_lt_of_cell? _ _ (hHeld.2.2.2.2.2.2.2.1))).trans (hHeld.2.2.2.2.2.2.2.1)
              have HS8_ := (hb.cell (World.block_lt_of_cell? _ _ (hHeld.2.2.2.2.2.2.2.2.1))).trans (hHeld.2.2.2.2.2.2.2.2.1)
              have HS9_ := (hb.cell (World.block_lt_of_cell? _ _ (hHeld.2.2.2.2.2.2.2.2.2.1))).trans (hHeld.2.2.2.2.2.2.2.2.2.1)
              have HS10_ := (hb.cell (World.block_lt_of_cell? _ _ (hHeld.2.2.2.2.2.2.2.2.2.2))).trans (hHeld.2.2.2.2.2.2.2.2.2.2)
              refine ⟨_, rfl, ?_⟩
              have n0_ := Aside0.mk (Kd.R_below (by (with_reducible repeat (first | apply Kd.R_alloc | apply Kd.R_drewN | apply Kd.R_drew)); exact HO_7.out) hb)
              have n1_ := Aside0.mk (blk_below (g := gb274) (o := .cells #[.int .i64 a0_0, .int .i64 a0_1, .int .i64 a0_2] 24 (0, 0)) (by (with_reducible repeat (first | refine blk_drewN ?_ _ | refine blk_drew ?_ | refine blk_alloc ?_ _)); exact BK274.out) hb)
              have n2_ := Aside0.mk (below_step (by repeat (first | (with_reducible first | exact HB.out | apply below_alloc | apply pw_below_drewN | apply below_drew1 | refine below_set ?_ GE274.out) | exact HB.out)) hb)
              clear HO_7
              clear BK274
              clear HB
              have HO_7 := n0_
              have BK274 := n1_
              have HB := n2_
              clear n0_ n1_ n2_
              (try clear hb)
              (try clear hb2)
              (try clear hk)
              (try clear hi)
              refine hK.out _ _ ⟨(blk_cell BK274.out 0).trans rfl, (blk_cell BK274.out 1).trans rfl, (blk_cell BK274.out 2).trans rfl, HS3_, HS4_, HS5_, HS6_, HS7_, HS8_, HS9_, HS10_⟩ (fun hHeld => ?_)
              clear hK K
              refine norm_ (a' := ?_) ?_ ?_
              rotate_left
              ·show Act.put _ (some 70) _ = _
               simp only [Act.put, sq1, sq2, sq3, i64_w, i32_w]
               rfl
              refine pL 33 71 ba42 (v := ?_) (a' := ?_) rfl rfl (any_of HT_.out (by kernel_rfl)) (fun _ _ _ h => h) (Or.inl ⟨by rfl, ?_⟩) ?_ ?_
              rotate_left; · intro w'; go_simp; with_reducible rfl
              rotate_left; · simp only [Act.put, sq1, sq2, sq3, i64_w, i32_w]; rfl
              refine pL 34 72 ba43 (v := ?_) (a' := ?_) rfl rfl (any_of HT_.out (by kernel_rfl)) (fun _ _ _ h => h) (Or.inl ⟨by rfl, ?_⟩) ?_ ?_
              rotate_left; · intro w'; go_simp; with_reducible rfl
              rotate_left; · simp only [Act.put, sq1, sq2, sq3, i64_w, i32_w]; rfl
              refine pL 35 73 ba44 (v := ?_) (a' := ?_) rfl rfl (any_of HT_.out (by kernel_rfl)) (fun _ _ _ h => h) (Or.inl ⟨by rfl, ?_⟩) ?_ ?_
              rotate_left; · intro w'; go_simp; with_reducible rfl
              rotate_left; · simp only [Act.put, sq1, sq2, sq3, i64_w, i32_w]; rfl
              refine pL 37 75 ba86 (v := ?_) (a' := ?_) rfl rfl (any_of HT_.out (by kernel_rfl)) (fun _ _ _ h => h) (Or.inl ⟨by rfl, ?_⟩) ?_ ?_
              rotate_left; · intro w'; go_simp; with_reducible rfl
              rotate_left; · simp only [Act.put, sq1, sq2, sq3, i64_w, i32_w]; rfl
              refine pL 38 76 ba87 (v := ?_) (a' := ?_) rfl rfl (any_of HT_.out (by kernel_rfl)) (fun _ _ _ h => h) (Or.inl ⟨by rfl, ?_⟩) ?_ ?_
              rotate_left; · intro w'; go_simp; with_reducible rfl
              rotate_left; · simp only [Act.put, sq1, sq2, sq3, i64_w, i32_w]; rfl
              refine pL 39 77 ba88 (v := ?_) (a' := ?_) rfl rfl (any_of HT_.out (by kernel_rfl)) (fun _ _ _ h => h) (Or.inl ⟨by rfl, ?_⟩) ?_ ?_
              rotate_left; · intro w'; go_simp; with_reducible rfl
              rotate_left; · simp only [Act.put, sq1, sq2, sq3, i64_w, i32_w]; rfl
              refine pL 40 78 ba89 (v := ?_) (a' := ?_) rfl rfl (any_of HT_.out (by kernel_rfl)) (fun _ _ _ h => h) (Or.inl ⟨by rfl, ?_⟩) ?_ ?_
              rotate_left; · intro w'; go_simp; with_reducible rfl
              rotate_left; · simp only [Act.put, sq1, sq2, sq3, i64_w, i32_w]; rfl
              refine pL 41 79 ba90 (v := ?_) (a' := ?_) rfl rfl (any_of HT_.out (by kernel_rfl)) (fun _ _ _ h => h) (Or.inl ⟨by rfl, ?_⟩) ?_ ?_
              rotate_left; · intro w'; go_simp; with_reducible rfl
              rotate_left; · simp only [Act.put, sq1, sq2, sq3, i64_w, i32_w]; rfl
              refine take_ (i := 36) (N := some 74) (v := ?_) (a' := ?_) ba50 rfl rfl (take_ofW HT_.out HW_.out (by kernel_rfl)) (fun _ _ _ h => h) (Or.inl ⟨by rfl, ?_⟩) hHeld ?_ ?_
              rotate_left
              ·rintro w' ⟨s0, s1, s2, s3, s4, s5, s6, s7, s8, s9, s10⟩
               go_simp
               with_reducible rfl
              rotate_left; · simp only [Act.put, sq1, sq2, sq3, i64_w, i32_w]; rfl
              refine take_ (i := 42) (N := some 80) (v := ?_) (a' := ?_) ba51 rfl rfl (take_ofW HT_.out HW_.out (by kernel_rfl)) (fun _ _ _ h => h) (Or.inl ⟨by rfl, ?_⟩) hHeld ?_ ?_
              rotate_left
              ·rintro w' ⟨s0, s1, s2, s3, s4, s5, s6, s7, s8, s9, s10⟩
               go_simp
               with_reducible rfl
              rotate_left; · simp only [Act.put, sq1, sq2, sq3, i64_w, i32_w]; rfl
              refine one_ (i := 43) (N := some 81) ba52 rfl rfl (one_of HT_.out (by kernel_rfl)) (by decide) (fun K hK => ?_)
              refine goes_ Try.func22 (by kernel_rfl) rfl #[.agg #[.int .i64 a0_0, .int .i64 a0_1, .int .i64 a0_2], .int .i64 (wrap64 (t284 - 1)), .int .i64 (rd t278 x9_1)] (by rfl) rfl rfl (by (try simp only [List.map_toArray, List.map_cons, List.map_nil]); first | done | rfl | (simp only [List.length_drop, List.length_take]; rfl)) ?_
              with_reducible refine (spatelaw4_has.calls k1 a0_0 a0_1 a0_2 (wrap64 (t284 - 1)) (rd t278 x9_1) true _ A28.out).mono ?_
              rintro e w39 ⟨rfl, hb⟩
              have HS3_ := (hb.cell (World.block_lt_of_cell? _ _ (hHeld.2.2.2.1))).trans (hHeld.2.2.2.1)
              have HS4_ := (hb.cell (World.block_lt_of_cell? _ _ (hHeld.2.2.2.2.1))).trans (hHeld.2.2.2.2.1)
              have HS5_ := (hb.cell (World.block_lt_of_cell? _ _ (hHeld.2.2.2.2.2.1))).trans (hHeld.2.2.2.2.2.1)
              have HS6_ := (hb.cell (World.block_lt_of_cell? _ _ (hHeld.2.2.2.2.2.2.1))).trans (hHeld.2.2.2.2.2.2.1)
              have HS7_ := (hb.cell (World.block_lt_of_cell? _ _ (hHeld.2.2.2.2.2.2.2.1))).trans (hHeld.2.2.2.2.2.2.2.1)
              have HS8_ := (hb.cell (World.block_lt_of_cell? _ _ (hHeld.2.2.2.2.2.2.2.2.1))).trans (hHeld.2.2.2.2.2.2.2.2.1)
              have HS9_ := (hb.cell (World.block_lt_of_cell? _ _ (hHeld.2.2.2.2.2.2.2.2.2.1))).trans (hHeld.2.2.2.2.2.2.2.2.2.1)
              have HS10_ := (hb.cell (World.block_lt_of_cell? _ _ (hHeld.2.2.2.2.2.2.2.2.2.2))).trans (hHeld.2.2.2.2.2.2.2.2.2.2)
              refine ⟨_, rfl, ?_⟩
              have n0_ := Aside0.mk (Kd.R_below (by (with_reducible repeat (first | apply Kd.R_alloc | apply Kd.R_drewN | apply Kd.R_drew)); exact HO_7.out) hb)
              have n1_ := Aside0.mk (blk_below (g := gb274) (o := .cells #[.int .i64 a0_0, .int .i64 a0_1, .int .i64 a0_2] 24 (0, 0)) (by (with_reducible repeat (first | refine blk_drewN ?_ _ | refine blk_drew ?_ | refine blk_alloc ?_ _)); exact BK274.out) hb)
              have n2_ := Aside0.mk (below_step (by repeat (first | (with_reducible first | exact HB.out | apply below_alloc | apply pw_below_drewN | apply below_drew1 | refine below_set ?_ GE274.out) | exact HB.out)) hb)
              clear HO_7
              clear BK274
              clear HB
              have HO_7 := n0_
              have BK274 := n1_
              have HB := n2_
              clear n0_ n1_ n2_
              (try clear hb)
              (try clear hb2)
              (try clear hk)
              (try clear hi)
              refine hK.out _ _ ⟨(blk_cell BK274.out 0).trans rfl, (blk_cell BK274.out 1).trans rfl, (blk_cell BK274.out 2).trans rfl, HS3_, HS4_, HS5_, HS6_, HS7_, HS8_, HS9_, HS10_⟩ (fun hHeld => ?_)
              clear hK K
              refine norm_ (a' := ?_) ?_ ?_
              rotate_left
              ·show Act.put _ (some 81) _ = _
               simp only [Act.put, sq1, sq2, sq3, i64_w, i32_w]
               rfl
              refine pL 44 82 ba53 (v := ?_) (a' := ?_) rfl rfl (any_of HT_.out (by kernel_rfl)) (fun _ _ _ h => h) (Or.inl ⟨by rfl, ?_⟩) ?_ ?_
              rotate_left; · intro w'; go_simp; with_reducible rfl
              rotate_left; · simp only [Act.put, sq1, sq2, sq3, i64_w, i32_w]; rfl
              refine pL 45 83 ba54 (v := ?_) (a' := ?_) rfl rfl (any_of HT_.out (by kernel_rfl)) (fun _ _ _ h => h) (Or.inl ⟨by rfl, ?_⟩) ?_ ?_
              rotate_left; · intro w'; go_simp; with_reducible rfl
              rotate_left; · simp only [Act.put, sq1, sq2, sq3, i64_w, i32_w]; rfl
              refine pL 46 84 ba55 (v := ?_) (a' := ?_) rfl rfl (any_of HT_.out (by kernel_rfl)) (fun _ _ _ h => h) (Or.inl ⟨by rfl, ?_⟩) ?_ ?_
              rotate_left; · intro w'; go_simp; with_reducible rfl
              rotate_left; · simp only [Act.put, sq1, sq2, sq3, i64_w, i32_w]; rfl
              refine pL 48 86 ba91 (v := ?_) (a' := ?_) rfl rfl (any_of HT_.out (by kernel_rfl)) (fun _ _ _ h => h) (Or.inl ⟨by rfl, ?_⟩) ?_ ?_
              rotate_left; · intro w'; go_simp; with_reducible rfl
              rotate_left; · simp only [Act.put, sq1, sq2, sq3, i64_w, i32_w]; rfl
              refine pL 49 87 ba92 (v := ?_) (a' := ?_) rfl rfl (any_of HT_.out (by kernel_rfl)) (fun _ _ _ h => h) (Or.inl ⟨by rfl, ?_⟩) ?_ ?_
              rotate_left; · intro w'; go_simp; with_reducible rfl
              rotate_left; · simp only [Act.put, sq1, sq2, sq3, i64_w, i32_w]; rfl
              refine pL 50 88 ba93 (v := ?_) (a' := ?_) rfl rfl (any_of HT_.out (by kernel_rfl)) (fun _ _ _ h => h) (Or.inl ⟨by rfl, ?_⟩) ?_ ?_
              rotate_left; · intro w'; go_simp; with_reducible rfl
              rotate_left; · simp only [Act.put, sq1, sq2, sq3, i64_w, i32_w]; rfl
              refine pL 51 89 ba94 (v := ?_) (a' := ?_) rfl rfl (any_of HT_.out (by kernel_rfl)) (fun _ _ _ h => h) (Or.inl ⟨by rfl, ?_⟩) ?_ ?_
              rotate_left; · intro w'; go_simp; with_reducible rfl
              rotate_left; · simp only [Act.put, sq1, sq2, sq3, i64_w, i32_w]; rfl
              refine take_ (i := 47) (N := some 85) (v := ?_) (a' := ?_) ba60 rfl rfl (take_ofW HT_.out HW_.out (by kernel_rfl)) (fun _ _ _ h => h) (Or.inl ⟨by rfl, ?_⟩) hHeld ?_ ?_
              rotate_left
              ·rintro w' ⟨s0, s1, s2, s3, s4, s5, s6, s7, s8, s9, s10⟩
               go_simp
               with_reducible rfl
              rotate_left; · simp only [Act.put, sq1, sq2, sq3, i64_w, i32_w]; rfl
              refine take_ (i := 52) (N := some 90) (v := ?_) (a' := ?_) ba61 rfl rfl (take_ofW HT_.out HW_.out (by kernel_rfl)) (fun _ _ _ h => h) (Or.inl ⟨by rfl, ?_⟩) hHeld ?_ ?_
              rotate_left
              ·rintro w' ⟨s0, s1, s2, s3, s4, s5, s6, s7, s8, s9, s10⟩
               go_simp
               with_reducible rfl
              rotate_left; · simp only [Act.put, sq1, sq2, sq3, i64_w, i32_w]; rfl
              refine one_ (i := 53) (N := some 91) ba62 rfl rfl (one_of HT_.out (by kernel_rfl)) (by decide) (fun K hK => ?_)
              refine goes_ Try.func22 (by kernel_rfl) rfl #[.agg #[.int .i64 a0_0, .int .i64 a0_1, .int .i64 a0_2], .int .i64 t284, .int .i64 (rd t278 x9_1)] (by rfl) rfl rfl (by (try simp only [List.map_toArray, List.map_cons, List.map_nil]); first | done | rfl | (simp only [List.length_drop, List.length_take]; rfl)) ?_
              with_reducible refine (spatelaw4_has.calls k1 a0_0 a0_1 a0_2 t284 (rd t278 x9_1) false _ A30.out).mono ?_
              rintro e w40 ⟨rfl, hb⟩
              have HS3_ := (hb.cell (World.block_lt_of_cell? _ _ (hHeld.2.2.2.1))).trans (hHeld.2.2.2.1)
              have HS4_ := (hb.cell (World.block_lt_of_cell? _ _ (hHeld.2.2.2.2.1))).trans (hHeld.2.2.2.2.1)
              have HS5_ := (hb.cell (World.block_lt_of_cell? _ _ (hHeld.2.2.2.2.2.1))).trans (hHeld.2.2.2.2.2.1)
              have HS6_ := (hb.cell (World.block_lt_of_cell? _ _ (hHeld.2.2.2.2.2.2.1))).trans (hHeld.2.2.2.2.2.2.1)
              have HS7_ := (hb.cell (World.block_lt_of_cell? _ _ (hHeld.2.2.2.2.2.2.2.1))).trans (hHeld.2.2.2.2.2.2.2.1)
              have HS8_ := (hb.cell (World.block_lt_of_cell? _ _ (hHeld.2.2.2.2.2.2.2.2.1))).trans (hHeld.2.2.2.2.2.2.2.2.1)
              have HS9_ := (hb.cell (World.block_lt_of_cell? _ _ (hHeld.2.2.2.2.2.2.2.2.2.1))).trans (hHeld.2.2.2.2.2.2.2.2.2.1)
              have HS10_ := (hb.cell (World.block_lt_of_cell? _ _ (hHeld.2.2.2.2.2.2.2.2.2.2))).trans (hHeld.2.2.2.2.2.2.2.2.2.2)
              refine ⟨_, rfl, ?_⟩
              have n0_ := Aside0.mk (Kd.R_below (by (with_reducible repeat (first | apply Kd.R_alloc | apply Kd.R_drewN | apply Kd.R_drew)); exact HO_7.out) hb)
              have n1_ := Aside0.mk (blk_below (g := gb274) (o := .cells #[.int .i64 a0_0, .int .i64 a0_1, .int .i64 a0_2] 24 (0, 0)) (by (with_reducible repeat (first | refine blk_drewN ?_ _ | refine blk_drew ?_ | refine blk_alloc ?_ _)); exact BK274.out) hb)
              have n2_ := Aside0.mk (below_step (by repeat (first | (with_reducible first | exact HB.out | apply below_alloc | apply pw_below_drewN | apply below_drew1 | refine below_set ?_ GE274.out) | exact HB.out)) hb)
              clear HO_7
              clear BK274
              clear HB
              have HO_7 := n0_
              have BK274 := n1_
              have HB := n2_
              clear n0_ n1_ n2_
              (try clear hb)
              (try clear hb2)
              (try clear hk)
              (try clear hi)
              refine hK.out _ _ ⟨(blk_cell BK274.out 0).trans rfl, (blk_cell BK274.out 1).trans rfl, (blk_cell BK274.out 2).trans rfl, HS3_, HS4_, HS5_, HS6_, HS7_, HS8_, HS9_, HS10_⟩ (fun hHeld => ?_)
              clear hK K
              refine norm_ (a' := ?_) ?_ ?_
              rotate_left
              ·show Act.put _ (some 91) _ = _
               simp only [Act.put, sq1, sq2, sq3, i64_w, i32_w]
               rfl
              refine pL 54 92 ba63 (v := ?_) (a' := ?_) rfl rfl (any_of HT_.out (by kernel_rfl)) (fun _ _ _ h => h) (Or.inl ⟨by rfl, ?_⟩) ?_ ?_
              rotate_left; · intro w'; go_simp; with_reducible rfl
              rotate_left; · simp only [Act.put, sq1, sq2, sq3, i64_w, i32_w]; rfl
              refine pL 55 93 ba64 (v := ?_) (a' := ?_) rfl rfl (any_of HT_.out (by kernel_rfl)) (fun _ _ _ h => h) (Or.inl ⟨by rfl, ?_⟩) ?_ ?_
              rotate_left; · intro w'; go_simp; with_reducible rfl
              rotate_left; · simp only [Act.put, sq1, sq2, sq3, i64_w, i32_w]; rfl
              refine pL 57 95 ba95 (v := ?_) (a' := ?_) rfl rfl (any_of HT_.out (by kernel_rfl)) (fun _ _ _ h => h) (Or.inl ⟨by rfl, ?_⟩) ?_ ?_
              rotate_left; · intro w'; go_simp; with_reducible rfl
              rotate_left; · simp only [Act.put, sq1, sq2, sq3, i64_w, i32_w]; rfl
              refine pL 58 96 ba96 (v := ?_) (a' := ?_) rfl rfl (any_of HT_.out (by kernel_rfl)) (fun _ _ _ h => h) (Or.inl ⟨by rfl, ?_⟩) ?_ ?_
              rotate_left; · intro w'; go_simp; with_reducible rfl
              rotate_left; · simp only [Act.put, sq1, sq2, sq3, i64_w, i32_w]; rfl
              refine pL 59 97 ba97 (v := ?_) (a' := ?_) rfl rfl (any_of HT_.out (by kernel_rfl)) (fun _ _ _ h => h) (Or.inl ⟨by rfl, ?_⟩) ?_ ?_
              rotate_left; · intro w'; go_simp; with_reducible rfl
              rotate_left; · simp only [Act.put, sq1, sq2, sq3, i64_w, i32_w]; rfl
              refine pL 62 100 ba98 (v := ?_) (a' := ?_) rfl rfl (any_of HT_.out (by kernel_rfl)) (fun _ _ _ h => h) (Or.inl ⟨by rfl, ?_⟩) ?_ ?_
              rotate_left; · intro w'; go_simp; with_reducible rfl
              rotate_left; · simp only [Act.put, sq1, sq2, sq3, i64_w, i32_w]; rfl
              refine pL 63 101 ba99 (v := ?_) (a' := ?_) rfl rfl (any_of HT_.out (by kernel_rfl)) (fun _ _ _ h => h) (Or.inl ⟨by rfl, ?_⟩) ?_ ?_
              rotate_left; · intro w'; go_simp; with_reducible rfl
              rotate_left; · simp only [Act.put, sq1, sq2, sq3, i64_w, i32_w]; rfl
              refine pL 64 102 ba100 (v := ?_) (a' := ?_) rfl rfl (any_of HT_.out (by kernel_rfl)) (fun _ _ _ h => h) (Or.inl ⟨by rfl, ?_⟩) ?_ ?_
              rotate_left; · intro w'; go_simp; with_reducible rfl
              rotate_left; · simp only [Act.put, sq1, sq2, sq3, i64_w, i32_w]; rfl
              refine take_ (i := 56) (N := some 94) (v := ?_) (a' := ?_) ba101 rfl rfl (take_ofW HT_.out HW_.out (by kernel_rfl)) (fun _ _ _ h => h) (Or.inl ⟨by rfl, ?_⟩) hHeld ?_ ?_
              rotate_left
              ·rintro w' ⟨s0, s1, s2, s3, s4, s5, s6, s7, s8, s9, s10⟩
               go_simp
               with_reducible rfl
              rotate_left; · simp only [Act.put, sq1, sq2, sq3, i64_w, i32_w]; rfl
              refine take_ (i := 60) (N := some 98) (v := ?_) (a' := ?_) ba102 rfl rfl (take_ofW HT_.out HW_.out (by kernel_rfl)) (fun _ _ _ h => h) (Or.inl ⟨by rfl, ?_⟩) hHeld ?_ ?_
              rotate_left
              ·rintro w' ⟨s0, s1, s2, s3, s4, s5, s6, s7, s8, s9, s10⟩
               go_simp
               with_reducible rfl
              rotate_left; · simp only [Act.put, sq1, sq2, sq3, i64_w, i32_w]; rfl
              refine pL 61 99 ba73 (v := ?_) (a' := ?_) rfl rfl (any_of HT_.out (by kernel_rfl)) (fun _ _ _ h => h) (Or.inl ⟨by rfl, ?_⟩) ?_ ?_
              rotate_left; · intro w'; go_simp; with_reducible rfl
              rotate_left; · simp only [Act.put, sq1, sq2, sq3, i64_w, i32_w]; rfl
              refine take_ (i := 65) (N := some 103) (v := ?_) (a' := ?_) ba74 rfl rfl (take_ofW HT_.out HW_.out (by kernel_rfl)) (fun _ _ _ h => h) (Or.inl ⟨by rfl, ?_⟩) hHeld ?_ ?_
              rotate_left
              ·rintro w' ⟨s0, s1, s2, s3, s4, s5, s6, s7, s8, s9, s10⟩
               go_simp
               with_reducible rfl
              rotate_left; · simp only [Act.put, sq1, sq2, sq3, i64_w, i32_w]; rfl
              refine one_ (i := 66) (N := some 104) ba75 rfl rfl (one_of HT_.out (by kernel_rfl)) (by decide) (fun K hK => ?_)
              refine goes_ Try.func22 (by kernel_rfl) rfl #[.agg #[.int .i64 a0_0, .int .i64 a0_1, .int .i64 a0_2], .int .i64 (wrap64 ((rd t278 x9_1) - 1)), .int .i64 (rd t278 x9_1)] (by rfl) rfl rfl (by (try simp only [List.map_toArray, List.map_cons, List.map_nil]); first | done | rfl | (simp only [List.length_drop, List.length_take]; rfl)) ?_
              with_reducible refine (spatelaw4_has.calls k1 a0_0 a0_1 a0_2 (wrap64 ((rd t278 x9_1) - 1)) (rd t278 x9_1) t296 _ A36.out).mono ?_
              rintro e w41 ⟨rfl, hb⟩
              have HS3_ := (hb.cell (World.block_lt_of_cell? _ _ (hHeld.2.2.2.1))).trans (hHeld.2.2.2.1)
              have HS4_ := (hb.cell (World.block_lt_of_cell? _ _ (hHeld.2.2.2.2.1))).trans (hHeld.2.2.2.2.1)
              have HS5_ := (hb.cell (World.block_lt_of_cell? _ _ (hHeld.2.2.2.2.2.1))).trans (hHeld.2.2.2.2.2.1)
              have HS6_ := (hb.cell (World.block_lt_of_cell? _ _ (hHeld.2.2.2.2.2.2.1))).trans (hHeld.2.2.2.2.2.2.1)
              have HS7_ := (hb.cell (World.block_lt_of_cell? _ _ (hHeld.2.2.2.2.2.2.2.1))).trans (hHeld.2.2.2.2.2.2.2.1)
              have HS8_ := (hb.cell (World.block_lt_of_cell? _ _ (hHeld.2.2.2.2.2.2.2.2.1))).trans (hHeld.2.2.2.2.2.2.2.2.1)
              have HS9_ := (hb.cell (World.block_lt_of_cell? _ _ (hHeld.2.2.2.2.2.2.2.2.2.1))).trans (hHeld.2.2.2.2.2.2.2.2.2.1)
              have HS10_ := (hb.cell (World.block_lt_of_cell? _ _ (hHeld.2.2.2.2.2.2.2.2.2.2))).trans (hHeld.2.2.2.2.2.2.2.2.2.2)
              refine ⟨_, rfl, ?_⟩
              have n0_ := Aside0.mk (Kd.R_below (by (with_reducible repeat (first | apply Kd.R_alloc | apply Kd.R_drewN | apply Kd.R_drew)); exact HO_7.out) hb)
              have n1_ := Aside0.mk (blk_below (g := gb274) (o := .cells #[.int .i64 a0_0, .int .i64 a0_1, .int .i64 a0_2] 24 (0, 0)) (by (with_reducible repeat (first | refine blk_drewN ?_ _ | refine blk_drew ?_ | refine blk_alloc ?_ _)); exact BK274.out) hb)
              have n2_ := Aside0.mk (below_step (by repeat (first | (with_reducible first | exact HB.out | apply below_alloc | apply pw_below_drewN | apply below_drew1 | refine below_set ?_ GE274.out) | exact HB.out)) hb)
              clear HO_7
              clear BK274
              clear HB
              have HO_7 := n0_
              have BK274 := n1_
              have HB := n2_
              clear n0_ n1_ n2_
              (try clear hb)
              (try clear hb2)
              (try clear hk)
              (try clear hi)
              refine hK.out _ _ ⟨(blk_cell BK274.out 0).trans rfl, (blk_cell BK274.out 1).trans rfl, (blk_cell BK274.out 2).trans rfl, HS3_, HS4_, HS5_, HS6_, HS7_, HS8_, HS9_, HS10_⟩ (fun hHeld => ?_)
              clear hK K
              refine norm_ (a' := ?_) ?_ ?_
              rotate_left
              ·show Act.put _ (some 104) _ = _
               simp only [Act.put, sq1, sq2, sq3, i64_w, i32_w]
               rfl
              refine pL 67 105 ba76 (v := ?_) (a' := ?_) rfl rfl (any_of HT_.out (by kernel_rfl)) (fun _ _ _ h => h) (Or.inl ⟨by rfl, ?_⟩) ?_ ?_
              rotate_left; · intro w'; go_simp; with_reducible rfl
              rotate_left; · simp only [Act.put, sq1, sq2, sq3, i64_w, i32_w]; rfl
              refine done_ (done_of HT_.out (by kernel_rfl)) ?_
              try go_wp2
              go_meet
              case rel => exact ⟨_, (t296), (by first | rfl | (simp; done) | (simp [*]; done)), H', ⟨by have := HK1.out; first | omega | exact Nat.le_refl _⟩, ⟨by (with_reducible repeat (first | apply Kd.R_alloc | apply Kd.R_drewN | apply Kd.R_drew)); exact HO_7.out⟩, ⟨by (with_reducible repeat (first | refine blk_drewN ?_ _ | refine blk_drew ?_ | refine blk_alloc ?_ _)); exact BK274.out⟩, ⟨by repeat (first | (with_reducible first | exact HB.out | apply below_alloc | apply pw_below_drewN | apply below_drew1 | refine below_set ?_ GE274.out) | exact HB.out)⟩⟩
            ·replace c29 := Bool.eq_false_iff.mpr c29
             subst c29
             have H1 : (spatelaw4_PaneTimes.j1 k1 t277 a2 t278 x9_1 t284 true a0_0 a0_1 a0_2) = some r := by rw [if_neg (show ¬ (false = true) by decide)] at H; exact H
             clear H
             have H := H1
             clear H1
             have H' := Aside0.mk H
             clear H
             try go_wp2
             have n0_ := Aside0.mk (Kd.R_drew HO_7.out)
             have n1_ := Aside0.mk (blk_drew BK274.out)
             have n2_ := Aside0.mk (below_drew1 HB.out)
             clear HO_7
             clear BK274
             clear HB
             have HO_7 := n0_
             have BK274 := n1_
             have HB := n2_
             clear n0_ n1_ n2_
             have p285 : 0 ≤ (x9_1 : Int) := of_decide_eq_true (by first | (with_reducible assumption) | assumption)
             have q285 : x9_1 < (t278.length : Int) := of_decide_eq_true (by first | (with_reducible assumption) | assumption)
             obtain ⟨ad285, e285, hx285_0⟩ := Kd.at_int (Kd.R_reads' HO_7.out).2.2 x9_1 p285 q285
             obtain rfl : ad283 = ad285 := (by injection e285)
             replace p285 := eq_true p285
             replace q285 := eq_true q285
             have p286 : 0 ≤ (x9_1 : Int) := of_decide_eq_true (by first | (with_reducible assumption) | assumption)
             have q286 : x9_1 < (t278.length : Int) := of_decide_eq_true (by first | (with_reducible assumption) | assumption)
             obtain ⟨ad286, e286, hx286_0⟩ := Kd.at_int (Kd.R_reads' HO_7.out).2.2 x9_1 p286 q286
             obtain rfl : ad283 = ad286 := (by injection e286)
             replace p286 := eq_true p286
             replace q286 := eq_true q286
             have p287 : 0 ≤ (x9_1 : Int) := of_decide_eq_true (by first | (with_reducible assumption) | assumption)
             have q287 : x9_1 < (t278.length : Int) := of_decide_eq_true (by first | (with_reducible assumption) | assumption)
             obtain ⟨ad287, e287, hx287_0⟩ := Kd.at_int (Kd.R_reads' HO_7.out).2.2 x9_1 p287 q287
             obtain rfl : ad283 = ad287 := (by injection e287)
             replace p287 := eq_true p287
             replace q287 := eq_true q287
             have p288 : 0 ≤ (x9_1 : Int) := of_decide_eq_true (by first | (with_reducible assumption) | assumption)
             have q288 : x9_1 < (t278.length : Int) := of_decide_eq_true (by first | (with_reducible assumption) | assumption)
             obtain ⟨ad288, e288, hx288_0⟩ := Kd.at_int (Kd.R_reads' HO_7.out).2.2 x9_1 p288 q288
             obtain rfl : ad283 = ad288 := (by injection e288)
             replace p288 := eq_true p288
             replace q288 := eq_true q288
             have p290 : 0 ≤ (x9_1 : Int) := of_decide_eq_true (by first | (with_reducible assumption) | assumption)
             have q290 : x9_1 < (t278.length : Int) := of_decide_eq_true (by first | (with_reducible assumption) | assumption)
             obtain ⟨ad290, e290, hx290_0⟩ := Kd.at_int (Kd.R_reads' HO_7.out).2.2 x9_1 p290 q290
             obtain rfl : ad283 = ad290 := (by injection e290)
             replace p290 := eq_true p290
             replace q290 := eq_true q290
             refine start_ (n := 68) (S := fun w' => w'.cell? ⟨gb274, 0, none⟩ = some (.int .i64 a0_0) ∧ w'.cell? ⟨gb274, 1, none⟩ = some (.int .i64 a0_1) ∧ w'.cell? ⟨gb274, 2, none⟩ = some (.int .i64 a0_2) ∧ w'.cell? (ad283.add (x9_1).toNat) = some (.int .i64 (rd t278 x9_1)) ∧ w'.cell? (ad283.add (x9_1).toNat) = some (.int .i64 (rd t278 x9_1)) ∧ w'.cell? (ad283.add (x9_1).toNat) = some (.int .i64 (rd t278 x9_1)) ∧ w'.cell? (ad283.add (x9_1).toNat) = some (.int .i64 (rd t278 x9_1)) ∧ w'.cell? (ad283.add (x9_1).toNat) = some (.int .i64 (rd t278 x9_1))) (ds := []) ba8 (by kernel_rfl) rfl rfl ⟨(blk_cell BK274.out 0).trans rfl, (blk_cell BK274.out 1).trans rfl, (blk_cell BK274.out 2).trans rfl, hx285_0, hx286_0, hx287_0, hx288_0, hx290_0⟩ (fun hHeld => ?_); refine with_tabW spatelaw4_PaneTimes.tab11 spatelaw4_PaneTimes.bits11 (fun HT_ HW_ => ?_)
             generalize w20.drew = w42 at HO_7 BK274 HB hx285_0 hx286_0 hx287_0 hx288_0 hx290_0 hHeld ⊢
             refine pL 0 38 ba9 (v := ?_) (a' := ?_) rfl rfl (any_of HT_.out (by kernel_rfl)) (fun _ _ _ h => h) (Or.inl ⟨by rfl, ?_⟩) ?_ ?_
             rotate_left; · intro w'; go_simp; with_reducible rfl
             rotate_left; · simp only [Act.put, sq1, sq2, sq3, i64_w, i32_w]; rfl
             refine pL 1 39 ba10 (v := ?_) (a' := ?_) rfl rfl (any_of HT_.out (by kernel_rfl)) (fun _ _ _ h => h) (Or.inl ⟨by rfl, ?_⟩) ?_ ?_
             rotate_left; · intro w'; go_simp; with_reducible rfl
             rotate_left; · simp only [Act.put, sq1, sq2, sq3, i64_w, i32_w]; rfl
             refine pL 2 40 ba11 (v := ?_) (a' := ?_) rfl rfl (any_of HT_.out (by kernel_rfl)) (fun _ _ _ h => h) (Or.inl ⟨by rfl, ?_⟩) ?_ ?_
             rotate_left; · intro w'; go_simp; with_reducible rfl
             rotate_left; · simp only [Act.put, sq1, sq2, sq3, i64_w, i32_w]; rfl
             refine pL 4 42 ba12 (v := ?_) (a' := ?_) rfl rfl (any_of HT_.out (by kernel_rfl)) (fun _ _ _ h => h) (Or.inl ⟨by rfl, ?_⟩) ?_ ?_
             rotate_left; · intro w'; go_simp; with_reducible rfl
             rotate_left; · simp only [Act.put, sq1, sq2, sq3, i64_w, i32_w]; rfl
             refine take_ (i := 3) (N := some 41) (v := ?_) (a' := ?_) ba13 rfl rfl (take_ofW HT_.out HW_.out (by kernel_rfl)) (fun _ _ _ h => h) (Or.inl ⟨by rfl, ?_⟩) hHeld ?_ ?_
             rotate_left
             ·rintro w' ⟨s0, s1, s2, s3, s4, s5, s6, s7⟩
              go_simp
              with_reducible rfl
             rotate_left; · simp only [Act.put, sq1, sq2, sq3, i64_w, i32_w]; rfl
             refine pL 5 43 ba14 (v := ?_) (a' := ?_) rfl rfl (any_of HT_.out (by kernel_rfl)) (fun _ _ _ h => h) (Or.inl ⟨by rfl, ?_⟩) ?_ ?_
             rotate_left; · intro w'; go_simp; with_reducible rfl
             rotate_left; · simp only [Act.put, sq1, sq2, sq3, i64_w, i32_w]; rfl
             refine pL 6 44 ba15 (v := ?_) (a' := ?_) rfl rfl (any_of HT_.out (by kernel_rfl)) (fun _ _ _ h => h) (Or.inl ⟨by rfl, ?_⟩) ?_ ?_
             rotate_left; · intro w'; go_simp; with_reducible rfl
             rotate_left; · simp only [Act.put, sq1, sq2, sq3, i64_w, i32_w]; rfl
             refine pL 7 45 ba16 (v := ?_) (a' := ?_) rfl rfl (any_of HT_.out (by kernel_rfl)) (fun _ _ _ h => h) (Or.inl ⟨by rfl, ?_⟩) ?_ ?_
             rotate_left; · intro w'; go_simp; with_reducible rfl
             rotate_left; · simp only [Act.put, sq1, sq2, sq3, i64_w, i32_w]; rfl
             refine pL 8 46 ba17 (v := ?_) (a' := ?_) rfl rfl (any_of HT_.out (by kernel_rfl)) (fun _ _ _ h => h) (Or.inl ⟨by rfl, ?_⟩) ?_ ?_
             rotate_left; · intro w'; go_simp; with_reducible rfl
             rotate_left; · simp only [Act.put, sq1, sq2, sq3, i64_w, i32_w]; rfl
             refine pL 9 47 ba18 (v := ?_) (a' := ?_) rfl rfl (any_of HT_.out (by kernel_rfl)) (fun _ _ _ h => h) (Or.inl ⟨by rfl, ?_⟩) ?_ ?_
             rotate_left; · intro w'; go_simp; with_reducible rfl
             rotate_left; · simp only [Act.put, sq1, sq2, sq3, i64_w, i32_w]; rfl
             refine pL 10 48 ba19 (v := ?_) (a' := ?_) rfl rfl (any_of HT_.out (by kernel_rfl)) (fun _ _ _ h => h) (Or.inl ⟨by rfl, ?_⟩) ?_ ?_
             rotate_left; · intro w'; go_simp; with_reducible rfl
             rotate_left; · simp only [Act.put, sq1, sq2, sq3, i64_w, i32_w]; rfl
             refine pL 11 49 ba20 (v := ?_) (a' := ?_) rfl rfl (any_of HT_.out (by kernel_rfl)) (fun _ _ _ h => h) (Or.inl ⟨by rfl, ?_⟩) ?_ ?_
             rotate_left; · intro w'; go_simp; with_reducible rfl
             rotate_left; · simp only [Act.put, sq1, sq2, sq3, i64_w, i32_w]; rfl
             refine pL 12 50 ba21 (v := ?_) (a' := ?_) rfl rfl (any_of HT_.out (by kernel_rfl)) (fun _ _ _ h => h) (Or.inl ⟨by rfl, ?_⟩) ?_ ?_
             rotate_left; · intro w'; go_simp; with_reducible rfl
             rotate_left; · simp only [Act.put, sq1, sq2, sq3, i64_w, i32_w]; rfl
             refine pL 13 51 ba22 (v := ?_) (a' := ?_) rfl rfl (any_of HT_.out (by kernel_rfl)) (fun _ _ _ h => h) (Or.inl ⟨by rfl, ?_⟩) ?_ ?_
             rotate_left; · intro w'; go_simp; with_reducible rfl
             rotate_left; · simp only [Act.put, sq1, sq2, sq3, i64_w, i32_w]; rfl
             refine pL 14 52 ba23 (v := ?_) (a' := ?_) rfl rfl (any_of HT_.out (by kernel_rfl)) (fun _ _ _ h => h) (Or.inl ⟨by rfl, ?_⟩) ?_ ?_
             rotate_left; · intro w'; go_simp; with_reducible rfl
             rotate_left; · simp only [Act.put, sq1, sq2, sq3, i64_w, i32_w]; rfl
             refine pL 15 53 ba24 (v := ?_) (a' := ?_) rfl rfl (any_of HT_.out (by kernel_rfl)) (fun _ _ _ h => h) (Or.inl ⟨by rfl, ?_⟩) ?_ ?_
             rotate_left; · intro w'; go_simp; with_reducible rfl
             rotate_left; · simp only [Act.put, sq1, sq2, sq3, i64_w, i32_w]; rfl
             refine pL 18 56 ba77 (v := ?_) (a' := ?_) rfl rfl (any_of HT_.out (by kernel_rfl)) (fun _ _ _ h => h) (Or.inl ⟨by rfl, ?_⟩) ?_ ?_
             rotate_left; · intro w'; go_simp; with_reducible rfl
             rotate_left; · simp only [Act.put, sq1, sq2, sq3, i64_w, i32_w]; rfl
             refine take_ (i := 16) (N := some 54) (v := ?_) (a' := ?_) ba78 rfl rfl (take_ofW HT_.out HW_.out (by kernel_rfl)) (fun _ _ _ h => h) (Or.inl ⟨by rfl, ?_⟩) hHeld ?_ ?_
             rotate_left
             ·rintro w' ⟨s0, s1, s2, s3, s4, s5, s6, s7⟩
              go_simp
              with_reducible rfl
             rotate_left; · simp only [Act.put, sq1, sq2, sq3, i64_w, i32_w]; rfl
             refine pL 17 55 ba27 (v := ?_) (a' := ?_) rfl rfl (any_of HT_.out (by kernel_rfl)) (fun _ _ _ h => h) (Or.inl ⟨by rfl, ?_⟩) ?_ ?_
             rotate_left; · intro w'; go_simp; with_reducible rfl
             rotate_left; · simp only [Act.put, sq1, sq2, sq3, i64_w, i32_w]; rfl
             refine take_ (i := 19) (N := some 57) (v := ?_) (a' := ?_) ba28 rfl rfl (take_ofW HT_.out HW_.out (by kernel_rfl)) (fun _ _ _ h => h) (Or.inl ⟨by rfl, ?_⟩) hHeld ?_ ?_
             rotate_left
             ·rintro w' ⟨s0, s1, s2, s3, s4, s5, s6, s7⟩
              go_simp
              with_reducible rfl
             rotate_left; · simp only [Act.put, sq1, sq2, sq3, i64_w, i32_w]; rfl
             refine pL 20 58 ba29 (v := ?_) (a' := ?_) rfl rfl (any_of HT_.out (by kernel_rfl)) (fun _ _ _ h => h) (Or.inl ⟨by rfl, ?_⟩) ?_ ?_
             rotate_left; · intro w'; go_simp; with_reducible rfl
             rotate_left; · simp only [Act.put, sq1, sq2, sq3, i64_w, i32_w]; rfl
             refine pL 21 59 ba30 (v := ?_) (a' := ?_) rfl rfl (any_of HT_.out (by kernel_rfl)) (fun _ _ _ h => h) (Or.inl ⟨by rfl, ?_⟩) ?_ ?_
             rotate_left; · intro w'; go_simp; with_reducible rfl
             rotate_left; · simp only [Act.put, sq1, sq2, sq3, i64_w, i32_w]; rfl
             refine pL 22 60 ba31 (v := ?_) (a' := ?_) rfl rfl (any_of HT_.out (by kernel_rfl)) (fun _ _ _ h => h) (Or.inl ⟨by rfl, ?_⟩) ?_ ?_
             rotate_left; · intro w'; go_simp; with_reducible rfl
             rotate_left; · simp only [Act.put, sq1, sq2, sq3, i64_w, i32_w]; rfl
             refine pL 24 62 ba79 (v := ?_) (a' := ?_) rfl rfl (any_of HT_.out (by kernel_rfl)) (fun _ _ _ h => h) (Or.inl ⟨by rfl, ?_⟩) ?_ ?_
             rotate_left; · intro w'; go_simp; with_reducible rfl
             rotate_left; · simp only [Act.put, sq1, sq2, sq3, i64_w, i32_w]; rfl
             refine pL 25 63 ba80 (v := ?_) (a' := ?_) rfl rfl (any_of HT_.out (by kernel_rfl)) (fun _ _ _ h => h) (Or.inl ⟨by rfl, ?_⟩) ?_ ?_
             rotate_left; · intro w'; go_simp; with_reducible rfl
             rotate_left; · simp only [Act.put, sq1, sq2, sq3, i64_w, i32_w]; rfl
             refine pL 26 64 ba81 (v := ?_) (a' := ?_) rfl rfl (any_of HT_.out (by kernel_rfl)) (fun _ _ _ h => h) (Or.inl ⟨by rfl, ?_⟩) ?_ ?_
             rotate_left; · intro w'; go_simp; with_reducible rfl
             rotate_left; · simp only [Act.put, sq1, sq2, sq3, i64_w, i32_w]; rfl
             refine pL 28 66 ba82 (v := ?_) (a' := ?_) rfl rfl (any_of HT_.out (by kernel_rfl)) (fun _ _ _ h => h) (Or.inl ⟨by rfl, ?_⟩) ?_ ?_
             rotate_left; · intro w'; go_simp; with_reducible rfl
             rotate_left; · simp only [Act.put, sq1, sq2, sq3, i64_w, i32_w]; rfl
             refine pL 29 67 ba83 (v := ?_) (a' := ?_) rfl rfl (any_of HT_.out (by kernel_rfl)) (fun _ _ _ h => h) (Or.inl ⟨by rfl, ?_⟩) ?_ ?_
             rotate_left; · intro w'; go_simp; with_reducible rfl
             rotate_left; · simp only [Act.put, sq1, sq2, sq3, i64_w, i32_w]; rfl
             refine pL 30 68 ba84 (v := ?_) (a' := ?_) rfl rfl (any_of HT_.out (by kernel_rfl)) (fun _ _ _ h => h) (Or.inl ⟨by rfl, ?_⟩) ?_ ?_
             rotate_left; · intro w'; go_simp; with_reducible rfl
             rotate_left; · simp only [Act.put, sq1, sq2, sq3, i64_w, i32_w]; rfl
             refine take_ (i := 23) (N := some 61) (v := ?_) (a' := ?_) ba85 rfl rfl (take_ofW HT_.out HW_.out (by kernel_rfl)) (fun _ _ _ h => h) (Or.inl ⟨by rfl, ?_⟩) hHeld ?_ ?_
             rotate_left
             ·rintro w' ⟨s0, s1, s2, s3, s4, s5, s6, s7⟩
              go_simp
              with_reducible rfl
             rotate_left; · simp only [Act.put, sq1, sq2, sq3, i64_w, i32_w]; rfl
             refine take_ (i := 27) (N := some 65) (v := ?_) (a' := ?_) ba39 rfl rfl (take_ofW HT_.out HW_.out (by kernel_rfl)) (fun _ _ _ h => h) (Or.inl ⟨by rfl, ?_⟩) hHeld ?_ ?_
             rotate_left
             ·rintro w' ⟨s0, s1, s2, s3, s4, s5, s6, s7⟩
              go_simp
              with_reducible rfl
             rotate_left; · simp only [Act.put, sq1, sq2, sq3, i64_w, i32_w]; rfl
             refine take_ (i := 31) (N := some 69) (v := ?_) (a' := ?_) ba40 rfl rfl (take_ofW HT_.out HW_.out (by kernel_rfl)) (fun _ _ _ h => h) (Or.inl ⟨by rfl, ?_⟩) hHeld ?_ ?_
             rotate_left
             ·rintro w' ⟨s0, s1, s2, s3, s4, s5, s6, s7⟩
              go_simp
              with_reducible rfl
             rotate_left; · simp only [Act.put, sq1, sq2, sq3, i64_w, i32_w]; rfl
             refine one_ (i := 32) (N := some 70) ba41 rfl rfl (one_of HT_.out (by kernel_rfl)) (by decide) (fun K hK => ?_)
             refine goes_ Try.func22 (by kernel_rfl) rfl #[.agg #[.int .i64 a0_0, .int .i64 a0_1, .int .i64 a0_2], .int .i64 (rd t278 x9_1), .int .i64 (rd t278 x9_1)] (by rfl) rfl rfl (by (try simp only [List.map_toArray, List.map_cons, List.map_nil]); first | done | rfl | (simp only [List.length_drop, List.length_take]; rfl)) ?_
             with_reducible refine (spatelaw4_has.calls k1 a0_0 a0_1 a0_2 (rd t278 x9_1) (rd t278 x9_1) true _ A26.out).mono ?_
             rintro e w43 ⟨rfl, hb⟩
             have HS3_ := (hb.cell (World.block_lt_of_cell? _ _ (hHeld.2.2.2.1))).trans (hHeld.2.2.2.1)
             have HS4_ := (hb.cell (World.block_lt_of_cell? _ _ (hHeld.2.2.2.2.1))).trans (hHeld.2.2.2.2.1)
             have HS5_ := (hb.cell (World.block_lt_of_cell? _ _ (hHeld.2.2.2.2.2.1))).trans (hHeld.2.2.2.2.2.1)
             have HS6_ := (hb.cell (World.block_lt_of_cell? _ _ (hHeld.2.2.2.2.2.2.1))).trans (hHeld.2.2.2.2.2.2.1)
             have HS7_ := (hb.cell (World.block_lt_of_cell? _ _ (hHeld.2.2.2.2.2.2.2))).trans (hHeld.2.2.2.2.2.2.2)
             refine ⟨_, rfl, ?_⟩
             have n0_ := Aside0.mk (Kd.R_below (by (with_reducible repeat (first | apply Kd.R_alloc | apply Kd.R_drewN | apply Kd.R_drew)); exact HO_7.out) hb)
             have n1_ := Aside0.mk (blk_below (g := gb274) (o := .cells #[.int .i64 a0_0, .int .i64 a0_1, .int .i64 a0_2] 24 (0, 0)) (by (with_reducible repeat (first | refine blk_drewN ?_ _ | refine blk_drew ?_ | refine blk_alloc ?_ _)); exact BK274.out) hb)
             have n2_ := Aside0.mk (below_step (by repeat (first | (with_reducible first | exact HB.out | apply below_alloc | apply pw_below_drewN | apply below_drew1 | refine below_set ?_ GE274.out) | exact HB.out)) hb)
             clear HO_7
             clear BK274
             clear HB
             have HO_7 := n0_
             have BK274 := n1_
             have HB := n2_
             clear n0_ n1_ n2_
             (try clear hb)
             (try clear hb2)
             (try clear hk)
             (try clear hi)
             refine hK.out _ _ ⟨(blk_cell BK274.out 0).trans rfl, (blk_cell BK274.out 1).trans rfl, (blk_cell BK274.out 2).trans rfl, HS3_, HS4_, HS5_, HS6_, HS7_⟩ (fun hHeld => ?_)
             clear hK K
             refine norm_ (a' := ?_) ?_ ?_
             rotate_left
             ·show Act.put _ (some 70) _ = _
              simp only [Act.put, sq1, sq2, sq3, i64_w, i32_w]
              rfl
             refine pL 33 71 ba42 (v := ?_) (a' := ?_) rfl rfl (any_of HT_.out (by kernel_rfl)) (fun _ _ _ h => h) (Or.inl ⟨by rfl, ?_⟩) ?_ ?_
             rotate_left; · intro w'; go_simp; with_reducible rfl
             rotate_left; · simp only [Act.put, sq1, sq2, sq3, i64_w, i32_w]; rfl
             refine pL 34 72 ba43 (v := ?_) (a' := ?_) rfl rfl (any_of HT_.out (by kernel_rfl)) (fun _ _ _ h => h) (Or.inl ⟨by rfl, ?_⟩) ?_ ?_
             rotate_left; · intro w'; go_simp; with_reducible rfl
             rotate_left; · simp only [Act.put, sq1, sq2, sq3, i64_w, i32_w]; rfl
             refine pL 35 73 ba44 (v := ?_) (a' := ?_) rfl rfl (any_of HT_.out (by kernel_rfl)) (fun _ _ _ h => h) (Or.inl ⟨by rfl, ?_⟩) ?_ ?_
             rotate_left; · intro w'; go_simp; with_reducible rfl
             rotate_left; · simp only [Act.put, sq1, sq2, sq3, i64_w, i32_w]; rfl
             refine pL 37 75 ba86 (v := ?_) (a' := ?_) rfl rfl (any_of HT_.out (by kernel_rfl)) (fun _ _ _ h => h) (Or.inl ⟨by rfl, ?_⟩) ?_ ?_
             rotate_left; · intro w'; go_simp; with_reducible rfl
             rotate_left; · simp only [Act.put, sq1, sq2, sq3, i64_w, i32_w]; rfl
             refine pL 38 76 ba87 (v := ?_) (a' := ?_) rfl rfl (any_of HT_.out (by kernel_rfl)) (fun _ _ _ h => h) (Or.inl ⟨by rfl, ?_⟩) ?_ ?_
             rotate_left; · intro w'; go_simp; with_reducible rfl
             rotate_left; · simp only [Act.put, sq1, sq2, sq3, i64_w, i32_w]; rfl
             refine pL 39 77 ba88 (v := ?_) (a' := ?_) rfl rfl (any_of HT_.out (by kernel_rfl)) (fun _ _ _ h => h) (Or.inl ⟨by rfl, ?_⟩) ?_ ?_
             rotate_left; · intro w'; go_simp; with_reducible rfl
             rotate_left; · simp only [Act.put, sq1, sq2, sq3, i64_w, i32_w]; rfl
             refine pL 40 78 ba89 (v := ?_) (a' := ?_) rfl rfl (any_of HT_.out (by kernel_rfl)) (fun _ _ _ h => h) (Or.inl ⟨by rfl, ?_⟩) ?_ ?_
             rotate_left; · intro w'; go_simp; with_reducible rfl
             rotate_left; · simp only [Act.put, sq1, sq2, sq3, i64_w, i32_w]; rfl
             refine pL 41 79 ba90 (v := ?_) (a' := ?_) rfl rfl (any_of HT_.out (by kernel_rfl)) (fun _ _ _ h => h) (Or.inl ⟨by rfl, ?_⟩) ?_ ?_
             rotate_left; · intro w'; go_simp; with_reducible rfl
             rotate_left; · simp only [Act.put, sq1, sq2, sq3, i64_w, i32_w]; rfl
             refine take_ (i := 36) (N := some 74) (v := ?_) (a' := ?_) ba50 rfl rfl (take_ofW HT_.out HW_.out (by kernel_rfl)) (fun _ _ _ h => h) (Or.inl ⟨by rfl, ?_⟩) hHeld ?_ ?_
             rotate_left
             ·rintro w' ⟨s0, s1, s2, s3, s4, s5, s6, s7⟩
              go_simp
              with_reducible rfl
             rotate_left; · simp only [Act.put, sq1, sq2, sq3, i64_w, i32_w]; rfl
             refine take_ (i := 42) (N := some 80) (v := ?_) (a' := ?_) ba51 rfl rfl (take_ofW HT_.out HW_.out (by kernel_rfl)) (fun _ _ _ h => h) (Or.inl ⟨by rfl, ?_⟩) hHeld ?_ ?_
             rotate_left
             ·rintro w' ⟨s0, s1, s2, s3, s4, s5, s6, s7⟩
              go_simp
              with_reducible rfl
             rotate_left; · simp only [Act.put, sq1, sq2, sq3, i64_w, i32_w]; rfl
             refine one_ (i := 43) (N := some 81) ba52 rfl rfl (one_of HT_.out (by kernel_rfl)) (by decide) (fun K hK => ?_)
             refine goes_ Try.func22 (by kernel_rfl) rfl #[.agg #[.int .i64 a0_0, .int .i64 a0_1, .int .i64 a0_2], .int .i64 (wrap64 (t284 - 1)), .int .i64 (rd t278 x9_1)] (by rfl) rfl rfl (by (try simp only [List.map_toArray, List.map_cons, List.map_nil]); first | done | rfl | (simp only [List.length_drop, List.length_take]; rfl)) ?_
             with_reducible refine (spatelaw4_has.calls k1 a0_0 a0_1 a0_2 (wrap64 (t284 - 1)) (rd t278 x9_1) false _ A28.out).mono ?_
             rintro e w44 ⟨rfl, hb⟩
             have HS3_ := (hb.cell (World.block_lt_of_cell? _ _ (hHeld.2.2.2.1))).trans (hHeld.2.2.2.1)
             have HS4_ := (hb.cell (World.block_lt_of_cell? _ _ (hHeld.2.2.2.2.1))).trans (hHeld.2.2.2.2.1)
             have HS5_ := (hb.cell (World.block_lt_of_cell? _ _ (hHeld.2.2.2.2.2.1))).trans (hHeld.2.2.2.2.2.1)
             have HS6_ := (hb.cell (World.block_lt_of_cell? _ _ (hHeld.2.2.2.2.2.2.1))).trans (hHeld.2.2.2.2.2.2.1)
             have HS7_ := (hb.cell (World.block_lt_of_cell? _ _ (hHeld.2.2.2.2.2.2.2))).trans (hHeld.2.2.2.2.2.2.2)
             refine ⟨_, rfl, ?_⟩
             have n0_ := Aside0.mk (Kd.R_below (by (with_reducible repeat (first | apply Kd.R_alloc | apply Kd.R_drewN | apply Kd.R_drew)); exact HO_7.out) hb)
             have n1_ := Aside0.mk (blk_below (g := gb274) (o := .cells #[.int .i64 a0_0, .int .i64 a0_1, .int .i64 a0_2] 24 (0, 0)) (by (with_reducible repeat (first | refine blk_drewN ?_ _ | refine blk_drew ?_ | refine blk_alloc ?_ _)); exact BK274.out) hb)
             have n2_ := Aside0.mk (below_step (by repeat (first | (with_reducible first | exact HB.out | apply below_alloc | apply pw_below_drewN | apply below_drew1 | refine below_set ?_ GE274.out) | exact HB.out)) hb)
             clear HO_7
             clear BK274
             clear HB
             have HO_7 := n0_
             have BK274 := n1_
             have HB := n2_
             clear n0_ n1_ n2_
             (try clear hb)
             (try clear hb2)
             (try clear hk)
             (try clear hi)
             refine hK.out _ _ ⟨(blk_cell BK274.out 0).trans rfl, (blk_cell BK274.out 1).trans rfl, (blk_cell BK274.out 2).trans rfl, HS3_, HS4_, HS5_, HS6_, HS7_⟩ (fun hHeld => ?_)
             clear hK K
             refine norm_ (a' := ?_) ?_ ?_
             rotate_left
             ·show Act.put _ (some 81) _ = _
              simp only [Act.put, sq1, sq2, sq3, i64_w, i32_w]
              rfl
             refine pL 44 82 ba53 (v := ?_) (a' := ?_) rfl rfl (any_of HT_.out (by kernel_rfl)) (fun _ _ _ h => h) (Or.inl ⟨by rfl, ?_⟩) ?_ ?_
             rotate_left; · intro w'; go_simp; with_reducible rfl
             rotate_left; · simp only [Act.put, sq1, sq2, sq3, i64_w, i32_w]; rfl
             refine pL 45 83 ba54 (v := ?_) (a' := ?_) rfl rfl (any_of HT_.out (by kernel_rfl)) (fun _ _ _ h => h) (Or.inl ⟨by rfl, ?_⟩) ?_ ?_
             rotate_left; · intro w'; go_simp; with_reducible rfl
             rotate_left; · simp only [Act.put, sq1, sq2, sq3, i64_w, i32_w]; rfl
             refine pL 46 84 ba55 (v := ?_) (a' := ?_) rfl rfl (any_of HT_.out (by kernel_rfl)) (fun _ _ _ h => h) (Or.inl ⟨by rfl, ?_⟩) ?_ ?_
             rotate_left; · intro w'; go_simp; with_reducible rfl
             rotate_left; · simp only [Act.put, sq1, sq2, sq3, i64_w, i32_w]; rfl
             refine pR 47 85 ba56 (a' := ?_) rfl rfl (any_of HT_.out (by kernel_rfl)) (fun _ _ _ h => h) (Or.inr ⟨by rfl, rfl⟩) ?_ ?_
             rotate_left; · simp only [Act.put, sq1, sq2, sq3, i64_w, i32_w]; rfl
             refine pR 48 86 ba57 (a' := ?_) rfl rfl (any_of HT_.out (by kernel_rfl)) (fun _ _ _ h => h) (Or.inr ⟨by rfl, rfl⟩) ?_ ?_
             rotate_left; · simp only [Act.put, sq1, sq2, sq3, i64_w, i32_w]; rfl
             refine pR 49 87 ba58 (a' := ?_) rfl rfl (any_of HT_.out (by kernel_rfl)) (fun _ _ _ h => h) (Or.inr ⟨by rfl, rfl⟩) ?_ ?_
             rotate_left; · simp only [Act.put, sq1, sq2, sq3, i64_w, i32_w]; rfl
             refine pR 50 88 ba59 (a' := ?_) rfl rfl (any_of HT_.out (by kernel_rfl)) (fun _ _ _ h => h) (Or.inr ⟨by rfl, rfl⟩) ?_ ?_
             rotate_left; · simp only [Act.put, sq1, sq2, sq3, i64_w, i32_w]; rfl
             refine pR 51 89 ba60 (a' := ?_) rfl rfl (any_of HT_.out (by kernel_rfl)) (fun _ _ _ h => h) (Or.inr ⟨by rfl, rfl⟩) ?_ ?_
             rotate_left; · simp only [Act.put, sq1, sq2, sq3, i64_w, i32_w]; rfl
             refine pR 52 90 ba61 (a' := ?_) rfl rfl (any_of HT_.out (by kernel_rfl)) (fun _ _ _ h => h) (Or.inr ⟨by rfl, rfl⟩) ?_ ?_
             rotate_left; · simp only [Act.put, sq1, sq2, sq3, i64_w, i32_w]; rfl
             refine pR 53 91 ba62 (a' := ?_) rfl rfl (any_of HT_.out (by kernel_rfl)) (fun _ _ _ h => h) (Or.inr ⟨by rfl, rfl⟩) ?_ ?_
             rotate_left; · simp only [Act.put, sq1, sq2, sq3, i64_w, i32_w]; rfl
             refine pL 54 92 ba63 (v := ?_) (a' := ?_) rfl rfl (any_of HT_.out (by kernel_rfl)) (fun _ _ _ h => h) (Or.inl ⟨by rfl, ?_⟩) ?_ ?_
             rotate_left; · intro w'; go_simp; with_reducible rfl
             rotate_left; · simp only [Act.put, sq1, sq2, sq3, i64_w, i32_w]; rfl
             refine pL 55 93 ba64 (v := ?_) (a' := ?_) rfl rfl (any_of HT_.out (by kernel_rfl)) (fun _ _ _ h => h) (Or.inl ⟨by rfl, ?_⟩) ?_ ?_
             rotate_left; · intro w'; go_simp; with_reducible rfl
             rotate_left; · simp only [Act.put, sq1, sq2, sq3, i64_w, i32_w]; rfl
             refine pR 56 94 ba65 (a' := ?_) rfl rfl (any_of HT_.out (by kernel_rfl)) (fun _ _ _ h => h) (Or.inr ⟨by rfl, rfl⟩) ?_ ?_
             rotate_left; · simp only [Act.put, sq1, sq2, sq3, i64_w, i32_w]; rfl
             refine pR 57 95 ba66 (a' := ?_) rfl rfl (any_of HT_.out (by kernel_rfl)) (fun _ _ _ h => h) (Or.inr ⟨by rfl, rfl⟩) ?_ ?_
             rotate_left; · simp only [Act.put, sq1, sq2, sq3, i64_w, i32_w]; rfl
             refine pR 58 96 ba67 (a' := ?_) rfl rfl (any_of HT_.out (by kernel_rfl)) (fun _ _ _ h => h) (Or.inr ⟨by rfl, rfl⟩) ?_ ?_
             rotate_left; · simp only [Act.put, sq1, sq2, sq3, i64_w, i32_w]; rfl
             refine pR 59 97 ba68 (a' := ?_) rfl rfl (any_of HT_.out (by kernel_rfl)) (fun _ _ _ h => h) (Or.inr ⟨by rfl, rfl⟩) ?_ ?_
             rotate_left; · simp only [Act.put, sq1, sq2, sq3, i64_w, i32_w]; rfl
             refine pR 60 98 ba69 (a' := ?_) rfl rfl (any_of HT_.out (by kernel_rfl)) (fun _ _ _ h => h) (Or.inr ⟨by rfl, rfl⟩) ?_ ?_
             rotate_left; · simp only [Act.put, sq1, sq2, sq3, i64_w, i32_w]; rfl
             refine pR 61 99 ba70 (a' := ?_) rfl rfl (any_of HT_.out (by kernel_rfl)) (fun _ _ _ h => h) (Or.inr ⟨by rfl, rfl⟩) ?_ ?_
             rotate_left; · simp only [Act.put, sq1, sq2, sq3, i64_w, i32_w]; rfl
             refine pR 62 100 ba71 (a' := ?_) rfl rfl (any_of HT_.out (by kernel_rfl)) (fun _ _ _ h => h) (Or.inr ⟨by rfl, rfl⟩) ?_ ?_
             rotate_left; · simp only [Act.put, sq1, sq2, sq3, i64_w, i32_w]; rfl
             refine pR 63 101 ba72 (a' := ?_) rfl rfl (any_of HT_.out (by kernel_rfl)) (fun _ _ _ h => h) (Or.inr ⟨by rfl, rfl⟩) ?_ ?_
             rotate_left; · simp only [Act.put, sq1, sq2, sq3, i64_w, i32_w]; rfl
             refine pR 64 102 ba73 (a' := ?_) rfl rfl (any_of HT_.out (by kernel_rfl)) (fun _ _ _ h => h) (Or.inr ⟨by rfl, rfl⟩) ?_ ?_
             rotate_left; · simp only [Act.put, sq1, sq2, sq3, i64_w, i32_w]; rfl
             refine pR 65 103 ba74 (a' := ?_) rfl rfl (any_of HT_.out (by kernel_rfl)) (fun _ _ _ h => h) (Or.inr ⟨by rfl, rfl⟩) ?_ ?_
             rotate_left; · simp only [Act.put, sq1, sq2, sq3, i64_w, i32_w]; rfl
             refine pR 66 104 ba75 (a' := ?_) rfl rfl (any_of HT_.out (by kernel_rfl)) (fun _ _ _ h => h) (Or.inr ⟨by rfl, rfl⟩) ?_ ?_
             rotate_left; · simp only [Act.put, sq1, sq2, sq3, i64_w, i32_w]; rfl
             refine pL 67 105 ba76 (v := ?_) (a' := ?_) rfl rfl (any_of HT_.out (by kernel_rfl)) (fun _ _ _ h => h) (Or.inl ⟨by rfl, ?_⟩) ?_ ?_
             rotate_left; · intro w'; go_simp; with_reducible rfl
             rotate_left; · simp only [Act.put, sq1, sq2, sq3, i64_w, i32_w]; rfl
             refine done_ (done_of HT_.out (by kernel_rfl)) ?_
             try go_wp2
             go_meet
             case rel => exact ⟨_, (true), (by first | rfl | (simp; done) | (simp [*]; done)), H', ⟨by have := HK1.out; first | omega | exact Nat.le_refl _⟩, ⟨by (with_reducible repeat (first | apply Kd.R_alloc | apply Kd.R_drewN | apply Kd.R_drew)); exact HO_7.out⟩, ⟨by (with_reducible repeat (first | refine blk_drewN ?_ _ | refine blk_drew ?_ | refine blk_alloc ?_ _)); exact BK274.out⟩, ⟨by repeat (first | (with_reducible first | exact HB.out | apply below_alloc | apply pw_below_drewN | apply below_drew1 | refine below_set ?_ GE274.out) | exact HB.out)⟩⟩
           ·replace c27 := Bool.eq_false_iff.mpr c27
            subst c27
            have H1 : (spatelaw4_PaneTimes.j1 k1 t277 a2 t278 x9_1 t284 true a0_0 a0_1 a0_2) = some r := by rw [if_neg (show ¬ (false = true) by decide)] at H; exact H
            clear H
            have H := H1
            clear H1
            have H' := Aside0.mk H
            clear H
            try go_wp2
            have n0_ := Aside0.mk (Kd.R_drew HO_7.out)
            have n1_ := Aside0.mk (blk_drew BK274.out)
            have n2_ := Aside0.mk (below_drew1 HB.out)
            clear HO_7
            clear BK274
            clear HB
            have HO_7 := n0_
            have BK274 := n1_
            have HB := n2_
            clear n0_ n1_ n2_
            have p285 : 0 ≤ (x9_1 : Int) := of_decide_eq_true (by first | (with_reducible assumption) | assumption)
            have q285 : x9_1 < (t278.length : Int) := of_decide_eq_true (by first | (with_reducible assumption) | assumption)
            obtain ⟨ad285, e285, hx285_0⟩ := Kd.at_int (Kd.R_reads' HO_7.out).2.2 x9_1 p285 q285
            obtain rfl : ad283 = ad285 := (by injection e285)
            replace p285 := eq_true p285
            replace q285 := eq_true q285
            have p286 : 0 ≤ (x9_1 : Int) := of_decide_eq_true (by first | (with_reducible assumption) | assumption)
            have q286 : x9_1 < (t278.length : Int) := of_decide_eq_true (by first | (with_reducible assumption) | assumption)
            obtain ⟨ad286, e286, hx286_0⟩ := Kd.at_int (Kd.R_reads' HO_7.out).2.2 x9_1 p286 q286
            obtain rfl : ad283 = ad286 := (by injection e286)
            replace p286 := eq_true p286
            replace q286 := eq_true q286
            have p287 : 0 ≤ (x9_1 : Int) := of_decide_eq_true (by first | (with_reducible assumption) | assumption)
            have q287 : x9_1 < (t278.length : Int) := of_decide_eq_true (by first | (with_reducible assumption) | assumption)
            obtain ⟨ad287, e287, hx287_0⟩ := Kd.at_int (Kd.R_reads' HO_7.out).2.2 x9_1 p287 q287
            obtain rfl : ad283 = ad287 := (by injection e287)
            replace p287 := eq_true p287
            replace q287 := eq_true q287
            have p288 : 0 ≤ (x9_1 : Int) := of_decide_eq_true (by first | (with_reducible assumption) | assumption)
            have q288 : x9_1 < (t278.length : Int) := of_decide_eq_true (by first | (with_reducible assumption) | assumption)
            obtain ⟨ad288, e288, hx288_0⟩ := Kd.at_int (Kd.R_reads' HO_7.out).2.2 x9_1 p288 q288
            obtain rfl : ad283 = ad288 := (by injection e288)
            replace p288 := eq_true p288
            replace q288 := eq_true q288
            refine start_ (n := 68) (S := fun w' => w'.cell? ⟨gb274, 0, none⟩ = some (.int .i64 a0_0) ∧ w'.cell? ⟨gb274, 1, none⟩ = some (.int .i64 a0_1) ∧ w'.cell? ⟨gb274, 2, none⟩ = some (.int .i64 a0_2) ∧ w'.cell? (ad283.add (x9_1).toNat) = some (.int .i64 (rd t278 x9_1)) ∧ w'.cell? (ad283.add (x9_1).toNat) = some (.int .i64 (rd t278 x9_1)) ∧ w'.cell? (ad283.add (x9_1).toNat) = some (.int .i64 (rd t278 x9_1)) ∧ w'.cell? (ad283.add (x9_1).toNat) = some (.int .i64 (rd t278 x9_1))) (ds := []) ba8 (by kernel_rfl) rfl rfl ⟨(blk_cell BK274.out 0).trans rfl, (blk_cell BK274.out 1).trans rfl, (blk_cell BK274.out 2).trans rfl, hx285_0, hx286_0, hx287_0, hx288_0⟩ (fun hHeld => ?_); refine with_tabW spatelaw4_PaneTimes.tab11 spatelaw4_PaneTimes.bits11 (fun HT_ HW_ => ?_)
            generalize w20.drew = w45 at HO_7 BK274 HB hx285_0 hx286_0 hx287_0 hx288_0 hHeld ⊢
            refine pL 0 38 ba9 (v := ?_) (a' := ?_) rfl rfl (any_of HT_.out (by kernel_rfl)) (fun _ _ _ h => h) (Or.inl ⟨by rfl, ?_⟩) ?_ ?_
            rotate_left; · intro w'; go_simp; with_reducible rfl
            rotate_left; · simp only [Act.put, sq1, sq2, sq3, i64_w, i32_w]; rfl
            refine pL 1 39 ba10 (v := ?_) (a' := ?_) rfl rfl (any_of HT_.out (by kernel_rfl)) (fun _ _ _ h => h) (Or.inl ⟨by rfl, ?_⟩) ?_ ?_
            rotate_left; · intro w'; go_simp; with_reducible rfl
            rotate_left; · simp only [Act.put, sq1, sq2, sq3, i64_w, i32_w]; rfl
            refine pL 2 40 ba11 (v := ?_) (a' := ?_) rfl rfl (any_of HT_.out (by kernel_rfl)) (fun _ _ _ h => h) (Or.inl ⟨by rfl, ?_⟩) ?_ ?_
            rotate_left; · intro w'; go_simp; with_reducible rfl
            rotate_left; · simp only [Act.put, sq1, sq2, sq3, i64_w, i32_w]; rfl
            refine pL 4 42 ba12 (v := ?_) (a' := ?_) rfl rfl (any_of HT_.out (by kernel_rfl)) (fun _ _ _ h => h) (Or.inl ⟨by rfl, ?_⟩) ?_ ?_
            rotate_left; · intro w'; go_simp; with_reducible rfl
            rotate_left; · simp only [Act.put, sq1, sq2, sq3, i64_w, i32_w]; rfl
            refine take_ (i := 3) (N := some 41) (v := ?_) (a' := ?_) ba13 rfl rfl (take_ofW HT_.out HW_.out (by kernel_rfl)) (fun _ _ _ h => h) (Or.inl ⟨by rfl, ?_⟩) hHeld ?_ ?_
            rotate_left
            ·rintro w' ⟨s0, s1, s2, s3, s4, s5, s6⟩
             go_simp
             with_reducible rfl
            rotate_left; · simp only [Act.put, sq1, sq2, sq3, i64_w, i32_w]; rfl
            refine pL 5 43 ba14 (v := ?_) (a' := ?_) rfl rfl (any_of HT_.out (by kernel_rfl)) (fun _ _ _ h => h) (Or.inl ⟨by rfl, ?_⟩) ?_ ?_
            rotate_left; · intro w'; go_simp; with_reducible rfl
            rotate_left; · simp only [Act.put, sq1, sq2, sq3, i64_w, i32_w]; rfl
            refine pL 6 44 ba15 (v := ?_) (a' := ?_) rfl rfl (any_of HT_.out (by kernel_rfl)) (fun _ _ _ h => h) (Or.inl ⟨by rfl, ?_⟩) ?_ ?_
            rotate_left; · intro w'; go_simp; with_reducible rfl
            rotate_left; · simp only [Act.put, sq1, sq2, sq3, i64_w, i32_w]; rfl
            refine pL 7 45 ba16 (v := ?_) (a' := ?_) rfl rfl (any_of HT_.out (by kernel_rfl)) (fun _ _ _ h => h) (Or.inl ⟨by rfl, ?_⟩) ?_ ?_
            rotate_left; · intro w'; go_simp; with_reducible rfl
            rotate_left; · simp only [Act.put, sq1, sq2, sq3, i64_w, i32_w]; rfl
            refine pL 8 46 ba17 (v := ?_) (a' := ?_) rfl rfl (any_of HT_.out (by kernel_rfl)) (fun _ _ _ h => h) (Or.inl ⟨by rfl, ?_⟩) ?_ ?_
            rotate_left; · intro w'; go_simp; with_reducible rfl
            rotate_left; · simp only [Act.put, sq1, sq2, sq3, i64_w, i32_w]; rfl
            refine pL 9 47 ba18 (v := ?_) (a' := ?_) rfl rfl (any_of HT_.out (by kernel_rfl)) (fun _ _ _ h => h) (Or.inl ⟨by rfl, ?_⟩) ?_ ?_
            rotate_left; · intro w'; go_simp; with_reducible rfl
            rotate_left; · simp only [Act.put, sq1, sq2, sq3, i64_w, i32_w]; rfl
            refine pL 10 48 ba19 (v := ?_) (a' := ?_) rfl rfl (any_of HT_.out (by kernel_rfl)) (fun _ _ _ h => h) (Or.inl ⟨by rfl, ?_⟩) ?_ ?_
            rotate_left; · intro w'; go_simp; with_reducible rfl
            rotate_left; · simp only [Act.put, sq1, sq2, sq3, i64_w, i32_w]; rfl
            refine pL 11 49 ba20 (v := ?_) (a' := ?_) rfl rfl (any_of HT_.out (by kernel_rfl)) (fun _ _ _ h => h) (Or.inl ⟨by rfl, ?_⟩) ?_ ?_
            rotate_left; · intro w'; go_simp; with_reducible rfl
            rotate_left; · simp only [Act.put, sq1, sq2, sq3, i64_w, i32_w]; rfl
            refine pL 12 50 ba21 (v := ?_) (a' := ?_) rfl rfl (any_of HT_.out (by kernel_rfl)) (fun _ _ _ h => h) (Or.inl ⟨by rfl, ?_⟩) ?_ ?_
            rotate_left; · intro w'; go_simp; with_reducible rfl
            rotate_left; · simp only [Act.put, sq1, sq2, sq3, i64_w, i32_w]; rfl
            refine pL 13 51 ba22 (v := ?_) (a' := ?_) rfl rfl (any_of HT_.out (by kernel_rfl)) (fun _ _ _ h => h) (Or.inl ⟨by rfl, ?_⟩) ?_ ?_
            rotate_left; · intro w'; go_simp; with_reducible rfl
            rotate_left; · simp only [Act.put, sq1, sq2, sq3, i64_w, i32_w]; rfl
            refine pL 14 52 ba23 (v := ?_) (a' := ?_) rfl rfl (any_of HT_.out (by kernel_rfl)) (fun _ _ _ h => h) (Or.inl ⟨by rfl, ?_⟩) ?_ ?_
            rotate_left; · intro w'; go_simp; with_reducible rfl
            rotate_left; · simp only [Act.put, sq1, sq2, sq3, i64_w, i32_w]; rfl
            refine pL 15 53 ba24 (v := ?_) (a' := ?_) rfl rfl (any_of HT_.out (by kernel_rfl)) (fun _ _ _ h => h) (Or.inl ⟨by rfl, ?_⟩) ?_ ?_
            rotate_left; · intro w'; go_simp; with_reducible rfl
            rotate_left; · simp only [Act.put, sq1, sq2, sq3, i64_w, i32_w]; rfl
            refine pL 18 56 ba77 (v := ?_) (a' := ?_) rfl rfl (any_of HT_.out (by kernel_rfl)) (fun _ _ _ h => h) (Or.inl ⟨by rfl, ?_⟩) ?_ ?_
            rotate_left; · intro w'; go_simp; with_reducible rfl
            rotate_left; · simp only [Act.put, sq1, sq2, sq3, i64_w, i32_w]; rfl
            refine take_ (i := 16) (N := some 54) (v := ?_) (a' := ?_) ba78 rfl rfl (take_ofW HT_.out HW_.out (by kernel_rfl)) (fun _ _ _ h => h) (Or.inl ⟨by rfl, ?_⟩) hHeld ?_ ?_
            rotate_left
            ·rintro w' ⟨s0, s1, s2, s3, s4, s5, s6⟩
             go_simp
             with_reducible rfl
            rotate_left; · simp only [Act.put, sq1, sq2, sq3, i64_w, i32_w]; rfl
            refine pL 17 55 ba27 (v := ?_) (a' := ?_) rfl rfl (any_of HT_.out (by kernel_rfl)) (fun _ _ _ h => h) (Or.inl ⟨by rfl, ?_⟩) ?_ ?_
            rotate_left; · intro w'; go_simp; with_reducible rfl
            rotate_left; · simp only [Act.put, sq1, sq2, sq3, i64_w, i32_w]; rfl
            refine take_ (i := 19) (N := some 57) (v := ?_) (a' := ?_) ba28 rfl rfl (take_ofW HT_.out HW_.out (by kernel_rfl)) (fun _ _ _ h => h) (Or.inl ⟨by rfl, ?_⟩) hHeld ?_ ?_
            rotate_left
            ·rintro w' ⟨s0, s1, s2, s3, s4, s5, s6⟩
             go_simp
             with_reducible rfl
            rotate_left; · simp only [Act.put, sq1, sq2, sq3, i64_w, i32_w]; rfl
            refine pL 20 58 ba29 (v := ?_) (a' := ?_) rfl rfl (any_of HT_.out (by kernel_rfl)) (fun _ _ _ h => h) (Or.inl ⟨by rfl, ?_⟩) ?_ ?_
            rotate_left; · intro w'; go_simp; with_reducible rfl
            rotate_left; · simp only [Act.put, sq1, sq2, sq3, i64_w, i32_w]; rfl
            refine pL 21 59 ba30 (v := ?_) (a' := ?_) rfl rfl (any_of HT_.out (by kernel_rfl)) (fun _ _ _ h => h) (Or.inl ⟨by rfl, ?_⟩) ?_ ?_
            rotate_left; · intro w'; go_simp; with_reducible rfl
            rotate_left; · simp only [Act.put, sq1, sq2, sq3, i64_w, i32_w]; rfl
            refine pL 22 60 ba31 (v := ?_) (a' := ?_) rfl rfl (any_of HT_.out (by kernel_rfl)) (fun _ _ _ h => h) (Or.inl ⟨by rfl, ?_⟩) ?_ ?_
            rotate_left; · intro w'; go_simp; with_reducible rfl
            rotate_left; · simp only [Act.put, sq1, sq2, sq3, i64_w, i32_w]; rfl
            refine pL 24 62 ba79 (v := ?_) (a' := ?_) rfl rfl (any_of HT_.out (by kernel_rfl)) (fun _ _ _ h => h) (Or.inl ⟨by rfl, ?_⟩) ?_ ?_
            rotate_left; · intro w'; go_simp; with_reducible rfl
            rotate_left; · simp only [Act.put, sq1, sq2, sq3, i64_w, i32_w]; rfl
            refine pL 25 63 ba80 (v := ?_) (a' := ?_) rfl rfl (any_of HT_.out (by kernel_rfl)) (fun _ _ _ h => h) (Or.inl ⟨by rfl, ?_⟩) ?_ ?_
            rotate_left; · intro w'; go_simp; with_reducible rfl
            rotate_left; · simp only [Act.put, sq1, sq2, sq3, i64_w, i32_w]; rfl
            refine pL 26 64 ba81 (v := ?_) (a' := ?_) rfl rfl (any_of HT_.out (by kernel_rfl)) (fun _ _ _ h => h) (Or.inl ⟨by rfl, ?_⟩) ?_ ?_
            rotate_left; · intro w'; go_simp; with_reducible rfl
            rotate_left; · simp only [Act.put, sq1, sq2, sq3, i64_w, i32_w]; rfl
            refine pL 28 66 ba82 (v := ?_) (a' := ?_) rfl rfl (any_of HT_.out (by kernel_rfl)) (fun _ _ _ h => h) (Or.inl ⟨by rfl, ?_⟩) ?_ ?_
            rotate_left; · intro w'; go_simp; with_reducible rfl
            rotate_left; · simp only [Act.put, sq1, sq2, sq3, i64_w, i32_w]; rfl
            refine pL 29 67 ba83 (v := ?_) (a' := ?_) rfl rfl (any_of HT_.out (by kernel_rfl)) (fun _ _ _ h => h) (Or.inl ⟨by rfl, ?_⟩) ?_ ?_
            rotate_left; · intro w'; go_simp; with_reducible rfl
            rotate_left; · simp only [Act.put, sq1, sq2, sq3, i64_w, i32_w]; rfl
            refine pL 30 68 ba84 (v := ?_) (a' := ?_) rfl rfl (any_of HT_.out (by kernel_rfl)) (fun _ _ _ h => h) (Or.inl ⟨by rfl, ?_⟩) ?_ ?_
            rotate_left; · intro w'; go_simp; with_reducible rfl
            rotate_left; · simp only [Act.put, sq1, sq2, sq3, i64_w, i32_w]; rfl
            refine take_ (i := 23) (N := some 61) (v := ?_) (a' := ?_) ba85 rfl rfl (take_ofW HT_.out HW_.out (by kernel_rfl)) (fun _ _ _ h => h) (Or.inl ⟨by rfl, ?_⟩) hHeld ?_ ?_
            rotate_left
            ·rintro w' ⟨s0, s1, s2, s3, s4, s5, s6⟩
             go_simp
             with_reducible rfl
            rotate_left; · simp only [Act.put, sq1, sq2, sq3, i64_w, i32_w]; rfl
            refine take_ (i := 27) (N := some 65) (v := ?_) (a' := ?_) ba39 rfl rfl (take_ofW HT_.out HW_.out (by kernel_rfl)) (fun _ _ _ h => h) (Or.inl ⟨by rfl, ?_⟩) hHeld ?_ ?_
            rotate_left
            ·rintro w' ⟨s0, s1, s2, s3, s4, s5, s6⟩
             go_simp
             with_reducible rfl
            rotate_left; · simp only [Act.put, sq1, sq2, sq3, i64_w, i32_w]; rfl
            refine take_ (i := 31) (N := some 69) (v := ?_) (a' := ?_) ba40 rfl rfl (take_ofW HT_.out HW_.out (by kernel_rfl)) (fun _ _ _ h => h) (Or.inl ⟨by rfl, ?_⟩) hHeld ?_ ?_
            rotate_left
            ·rintro w' ⟨s0, s1, s2, s3, s4, s5, s6⟩
             go_simp
             with_reducible rfl
            rotate_left; · simp only [Act.put, sq1, sq2, sq3, i64_w, i32_w]; rfl
            refine one_ (i := 32) (N := some 70) ba41 rfl rfl (one_of HT_.out (by kernel_rfl)) (by decide) (fun K hK => ?_)
            refine goes_ Try.func22 (by kernel_rfl) rfl #[.agg #[.int .i64 a0_0, .int .i64 a0_1, .int .i64 a0_2], .int .i64 (rd t278 x9_1), .int .i64 (rd t278 x9_1)] (by rfl) rfl rfl (by (try simp only [List.map_toArray, List.map_cons, List.map_nil]); first | done | rfl | (simp only [List.length_drop, List.length_take]; rfl)) ?_
            with_reducible refine (spatelaw4_has.calls k1 a0_0 a0_1 a0_2 (rd t278 x9_1) (rd t278 x9_1) false _ A26.out).mono ?_
            rintro e w46 ⟨rfl, hb⟩
            have HS3_ := (hb.cell (World.block_lt_of_cell? _ _ (hHeld.2.2.2.1))).trans (hHeld.2.2.2.1)
            have HS4_ := (hb.cell (World.block_lt_of_cell? _ _ (hHeld.2.2.2.2.1))).trans (hHeld.2.2.2.2.1)
            have HS5_ := (hb.cell (World.block_lt_of_cell? _ _ (hHeld.2.2.2.2.2.1))).trans (hHeld.2.2.2.2.2.1)
            have HS6_ := (hb.cell (World.block_lt_of_cell? _ _ (hHeld.2.2.2.2.2.2))).trans (hHeld.2.2.2.2.2.2)
            refine ⟨_, rfl, ?_⟩
            have n0_ := Aside0.mk (Kd.R_below (by (with_reducible repeat (first | apply Kd.R_alloc | apply Kd.R_drewN | apply Kd.R_drew)); exact HO_7.out) hb)
            have n1_ := Aside0.mk (blk_below (g := gb274) (o := .cells #[.int .i64 a0_0, .int .i64 a0_1, .int .i64 a0_2] 24 (0, 0)) (by (with_reducible repeat (first | refine blk_drewN ?_ _ | refine blk_drew ?_ | refine blk_alloc ?_ _)); exact BK274.out) hb)
            have n2_ := Aside0.mk (below_step (by repeat (first | (with_reducible first | exact HB.out | apply below_alloc | apply pw_below_drewN | apply below_drew1 | refine below_set ?_ GE274.out) | exact HB.out)) hb)
            clear HO_7
            clear BK274
            clear HB
            have HO_7 := n0_
            have BK274 := n1_
            have HB := n2_
            clear n0_ n1_ n2_
            (try clear hb)
            (try clear hb2)
            (try clear hk)
            (try clear hi)
            refine hK.out _ _ ⟨(blk_cell BK274.out 0).trans rfl, (blk_cell BK274.out 1).trans rfl, (blk_cell BK274.out 2).trans rfl, HS3_, HS4_, HS5_, HS6_⟩ (fun hHeld => ?_)
            clear hK K
            refine norm_ (a' := ?_) ?_ ?_
            rotate_left
            ·show Act.put _ (some 70) _ = _
             simp only [Act.put, sq1, sq2, sq3, i64_w, i32_w]
             rfl
            refine pL 33 71 ba42 (v := ?_) (a' := ?_) rfl rfl (any_of HT_.out (by kernel_rfl)) (fun _ _ _ h => h) (Or.inl ⟨by rfl, ?_⟩) ?_ ?_
            rotate_left; · intro w'; go_simp; with_reducible rfl
            rotate_left; · simp only [Act.put, sq1, sq2, sq3, i64_w, i32_w]; rfl
            refine pL 34 72 ba43 (v := ?_) (a' := ?_) rfl rfl (any_of HT_.out (by kernel_rfl)) (fun _ _ _ h => h) (Or.inl ⟨by rfl, ?_⟩) ?_ ?_
            rotate_left; · intro w'; go_simp; with_reducible rfl
            rotate_left; · simp only [Act.put, sq1, sq2, sq3, i64_w, i32_w]; rfl
            refine pL 35 73 ba44 (v := ?_) (a' := ?_) rfl rfl (any_of HT_.out (by kernel_rfl)) (fun _ _ _ h => h) (Or.inl ⟨by rfl, ?_⟩) ?_ ?_
            rotate_left; · intro w'; go_simp; with_reducible rfl
            rotate_left; · simp only [Act.put, sq1, sq2, sq3, i64_w, i32_w]; rfl
            refine pR 36 74 ba45 (a' := ?_) rfl rfl (any_of HT_.out (by kernel_rfl)) (fun _ _ _ h => h) (Or.inr ⟨by rfl, rfl⟩) ?_ ?_
            rotate_left; · simp only [Act.put, sq1, sq2, sq3, i64_w, i32_w]; rfl
            refine pR 37 75 ba46 (a' := ?_) rfl rfl (any_of HT_.out (by kernel_rfl)) (fun _ _ _ h => h) (Or.inr ⟨by rfl, rfl⟩) ?_ ?_
            rotate_left; · simp only [Act.put, sq1, sq2, sq3, i64_w, i32_w]; rfl
            refine pR 38 76 ba47 (a' := ?_) rfl rfl (any_of HT_.out (by kernel_rfl)) (fun _ _ _ h => h) (Or.inr ⟨by rfl, rfl⟩) ?_ ?_
            rotate_left; · simp only [Act.put, sq1, sq2, sq3, i64_w, i32_w]; rfl
            refine pR 39 77 ba48 (a' := ?_) rfl rfl (any_of HT_.out (by kernel_rfl)) (fun _ _ _ h => h) (Or.inr ⟨by rfl, rfl⟩) ?_ ?_
            rotate_left; · simp only [Act.put, sq1, sq2, sq3, i64_w, i32_w]; rfl
            refine pR 40 78 ba49 (a' := ?_) rfl rfl (any_of HT_.out (by kernel_rfl)) (fun _ _ _ h => h) (Or.inr ⟨by rfl, rfl⟩) ?_ ?_
            rotate_left; · simp only [Act.put, sq1, sq2, sq3, i64_w, i32_w]; rfl
            refine pR 41 79 ba50 (a' := ?_) rfl rfl (any_of HT_.out (by kernel_rfl)) (fun _ _ _ h => h) (Or.inr ⟨by rfl, rfl⟩) ?_ ?_
            rotate_left; · simp only [Act.put, sq1, sq2, sq3, i64_w, i32_w]; rfl
            refine pR 42 80 ba51 (a' := ?_) rfl rfl (any_of HT_.out (by kernel_rfl)) (fun _ _ _ h => h) (Or.inr ⟨by rfl, rfl⟩) ?_ ?_
            rotate_left; · simp only [Act.put, sq1, sq2, sq3, i64_w, i32_w]; rfl
            refine pR 43 81 ba52 (a' := ?_) rfl rfl (any_of HT_.out (by kernel_rfl)) (fun _ _ _ h => h) (Or.inr ⟨by rfl, rfl⟩) ?_ ?_
            rotate_left; · simp only [Act.put, sq1, sq2, sq3, i64_w, i32_w]; rfl
            refine pR 44 82 ba53 (a' := ?_) rfl rfl (any_of HT_.out (by kernel_rfl)) (fun _ _ _ h => h) (Or.inr ⟨by rfl, rfl⟩) ?_ ?_
            rotate_left; · simp only [Act.put, sq1, sq2, sq3, i64_w, i32_w]; rfl
            refine pL 45 83 ba54 (v := ?_) (a' := ?_) rfl rfl (any_of HT_.out (by kernel_rfl)) (fun _ _ _ h => h) (Or.inl ⟨by rfl, ?_⟩) ?_ ?_
            rotate_left; · intro w'; go_simp; with_reducible rfl
            rotate_left; · simp only [Act.put, sq1, sq2, sq3, i64_w, i32_w]; rfl
            refine pL 46 84 ba55 (v := ?_) (a' := ?_) rfl rfl (any_of HT_.out (by kernel_rfl)) (fun _ _ _ h => h) (Or.inl ⟨by rfl, ?_⟩) ?_ ?_
            rotate_left; · intro w'; go_simp; with_reducible rfl
            rotate_left; · simp only [Act.put, sq1, sq2, sq3, i64_w, i32_w]; rfl
            refine pR 47 85 ba56 (a' := ?_) rfl rfl (any_of HT_.out (by kernel_rfl)) (fun _ _ _ h => h) (Or.inr ⟨by rfl, rfl⟩) ?_ ?_
            rotate_left; · simp only [Act.put, sq1, sq2, sq3, i64_w, i32_w]; rfl
            refine pR 48 86 ba57 (a' := ?_) rfl rfl (any_of HT_.out (by kernel_rfl)) (fun _ _ _ h => h) (Or.inr ⟨by rfl, rfl⟩) ?_ ?_
            rotate_left; · simp only [Act.put, sq1, sq2, sq3, i64_w, i32_w]; rfl
            refine pR 49 87 ba58 (a' := ?_) rfl rfl (any_of HT_.out (by kernel_rfl)) (fun _ _ _ h => h) (Or.inr ⟨by rfl, rfl⟩) ?_ ?_
            rotate_left; · simp only [Act.put, sq1, sq2, sq3, i64_w, i32_w]; rfl
            refine pR 50 88 ba59 (a' := ?_) rfl rfl (any_of HT_.out (by kernel_rfl)) (fun _ _ _ h => h) (Or.inr ⟨by rfl, rfl⟩) ?_ ?_
            rotate_left; · simp only [Act.put, sq1, sq2, sq3, i64_w, i32_w]; rfl
            refine pR 51 89 ba60 (a' := ?_) rfl rfl (any_of HT_.out (by kernel_rfl)) (fun _ _ _ h => h) (Or.inr ⟨by rfl, rfl⟩) ?_ ?_
            rotate_left; · simp only [Act.put, sq1, sq2, sq3, i64_w, i32_w]; rfl
            refine pR 52 90 ba61 (a' := ?_) rfl rfl (any_of HT_.out (by kernel_rfl)) (fun _ _ _ h => h) (Or.inr ⟨by rfl, rfl⟩) ?_ ?_
            rotate_left; · simp only [Act.put, sq1, sq2, sq3, i64_w, i32_w]; rfl
            refine pR 53 91 ba62 (a' := ?_) rfl rfl (any_of HT_.out (by kernel_rfl)) (fun _ _ _ h => h) (Or.inr ⟨by rfl, rfl⟩) ?_ ?_
            rotate_left; · simp only [Act.put, sq1, sq2, sq3, i64_w, i32_w]; rfl
            refine pL 54 92 ba63 (v := ?_) (a' := ?_) rfl rfl (any_of HT_.out (by kernel_rfl)) (fun _ _ _ h => h) (Or.inl ⟨by rfl, ?_⟩) ?_ ?_
            rotate_left; · intro w'; go_simp; with_reducible rfl
            rotate_left; · simp only [Act.put, sq1, sq2, sq3, i64_w, i32_w]; rfl
            refine pL 55 93 ba64 (v := ?_) (a' := ?_) rfl rfl (any_of HT_.out (by kernel_rfl)) (fun _ _ _ h => h) (Or.inl ⟨by rfl, ?_⟩) ?_ ?_
            rotate_left; · intro w'; go_simp; with_reducible rfl
            rotate_left; · simp only [Act.put, sq1, sq2, sq3, i64_w, i32_w]; rfl
            refine pR 56 94 ba65 (a' := ?_) rfl rfl (any_of HT_.out (by kernel_rfl)) (fun _ _ _ h => h) (Or.inr ⟨by rfl, rfl⟩) ?_ ?_
            rotate_left; · simp only [Act.put, sq1, sq2, sq3, i64_w, i32_w]; rfl
            refine pR 57 95 ba66 (a' := ?_) rfl rfl (any_of HT_.out (by kernel_rfl)) (fun _ _ _ h => h) (Or.inr ⟨by rfl, rfl⟩) ?_ ?_
            rotate_left; · simp only [Act.put, sq1, sq2, sq3, i64_w, i32_w]; rfl
            refine pR 58 96 ba67 (a' := ?_) rfl rfl (any_of HT_.out (by kernel_rfl)) (fun _ _ _ h => h) (Or.inr ⟨by rfl, rfl⟩) ?_ ?_
            rotate_left; · simp only [Act.put, sq1, sq2, sq3, i64_w, i32_w]; rfl
            refine pR 59 97 ba68 (a' := ?_) rfl rfl (any_of HT_.out (by kernel_rfl)) (fun _ _ _ h => h) (Or.inr ⟨by rfl, rfl⟩) ?_ ?_
            rotate_left; · simp only [Act.put, sq1, sq2, sq3, i64_w, i32_w]; rfl
            refine pR 60 98 ba69 (a' := ?_) rfl rfl (any_of HT_.out (by kernel_rfl)) (fun _ _ _ h => h) (Or.inr ⟨by rfl, rfl⟩) ?_ ?_
            rotate_left; · simp only [Act.put, sq1, sq2, sq3, i64_w, i32_w]; rfl
            refine pR 61 99 ba70 (a' := ?_) rfl rfl (any_of HT_.out (by kernel_rfl)) (fun _ _ _ h => h) (Or.inr ⟨by rfl, rfl⟩) ?_ ?_
            rotate_left; · simp only [Act.put, sq1, sq2, sq3, i64_w, i32_w]; rfl
            refine pR 62 100 ba71 (a' := ?_) rfl rfl (any_of HT_.out (by kernel_rfl)) (fun _ _ _ h => h) (Or.inr ⟨by rfl, rfl⟩) ?_ ?_
            rotate_left; · simp only [Act.put, sq1, sq2, sq3, i64_w, i32_w]; rfl
            refine pR 63 101 ba72 (a' := ?_) rfl rfl (any_of HT_.out (by kernel_rfl)) (fun _ _ _ h => h) (Or.inr ⟨by rfl, rfl⟩) ?_ ?_
            rotate_left; · simp only [Act.put, sq1, sq2, sq3, i64_w, i32_w]; rfl
            refine pR 64 102 ba73 (a' := ?_) rfl rfl (any_of HT_.out (by kernel_rfl)) (fun _ _ _ h => h) (Or.inr ⟨by rfl, rfl⟩) ?_ ?_
            rotate_left; · simp only [Act.put, sq1, sq2, sq3, i64_w, i32_w]; rfl
            refine pR 65 103 ba74 (a' := ?_) rfl rfl (any_of HT_.out (by kernel_rfl)) (fun _ _ _ h => h) (Or.inr ⟨by rfl, rfl⟩) ?_ ?_
            rotate_left; · simp only [Act.put, sq1, sq2, sq3, i64_w, i32_w]; rfl
            refine pR 66 104 ba75 (a' := ?_) rfl rfl (any_of HT_.out (by kernel_rfl)) (fun _ _ _ h => h) (Or.inr ⟨by rfl, rfl⟩) ?_ ?_
            rotate_left; · simp only [Act.put, sq1, sq2, sq3, i64_w, i32_w]; rfl
            refine pL 67 105 ba76 (v := ?_) (a' := ?_) rfl rfl (any_of HT_.out (by kernel_rfl)) (fun _ _ _ h => h) (Or.inl ⟨by rfl, ?_⟩) ?_ ?_
            rotate_left; · intro w'; go_simp; with_reducible rfl
            rotate_left; · simp only [Act.put, sq1, sq2, sq3, i64_w, i32_w]; rfl
            refine done_ (done_of HT_.out (by kernel_rfl)) ?_
            try go_wp2
            go_meet
            case rel => exact ⟨_, (true), (by first | rfl | (simp; done) | (simp [*]; done)), H', ⟨by have := HK1.out; first | omega | exact Nat.le_refl _⟩, ⟨by (with_reducible repeat (first | apply Kd.R_alloc | apply Kd.R_drewN | apply Kd.R_drew)); exact HO_7.out⟩, ⟨by (with_reducible repeat (first | refine blk_drewN ?_ _ | refine blk_drew ?_ | refine blk_alloc ?_ _)); exact BK274.out⟩, ⟨by repeat (first | (with_reducible first | exact HB.out | apply below_alloc | apply pw_below_drewN | apply below_drew1 | refine below_set ?_ GE274.out) | exact HB.out)⟩⟩
          ·rw [if_neg c25] at H
           have c25b0 : ((wrap64 (t284 - (rd t278 x9_1))) == a0_0) = false := beq_eq_false_iff_ne.mpr c25
           have c25b1 : ((wrap64 (t284 - (rd t278 x9_1))) != a0_0) = true := bne_iff_ne.mpr c25
           have H' := Aside0.mk H
           clear H
           try go_wp2
           have n0_ := Aside0.mk (Kd.R_drew HO_7.out)
           have n1_ := Aside0.mk (blk_drew BK274.out)
           have n2_ := Aside0.mk (below_drew1 HB.out)
           clear HO_7
           clear BK274
           clear HB
           have HO_7 := n0_
           have BK274 := n1_
           have HB := n2_
           clear n0_ n1_ n2_
           have p285 : 0 ≤ (x9_1 : Int) := of_decide_eq_true (by first | (with_reducible assumption) | assumption)
           have q285 : x9_1 < (t278.length : Int) := of_decide_eq_true (by first | (with_reducible assumption) | assumption)
           obtain ⟨ad285, e285, hx285_0⟩ := Kd.at_int (Kd.R_reads' HO_7.out).2.2 x9_1 p285 q285
           obtain rfl : ad283 = ad285 := (by injection e285)
           replace p285 := eq_true p285
           replace q285 := eq_true q285
           have p286 : 0 ≤ (x9_1 : Int) := of_decide_eq_true (by first | (with_reducible assumption) | assumption)
           have q286 : x9_1 < (t278.length : Int) := of_decide_eq_true (by first | (with_reducible assumption) | assumption)
           obtain ⟨ad286, e286, hx286_0⟩ := Kd.at_int (Kd.R_reads' HO_7.out).2.2 x9_1 p286 q286
           obtain rfl : ad283 = ad286 := (by injection e286)
           replace p286 := eq_true p286
           replace q286 := eq_true q286
           refine start_ (n := 68) (S := fun w' => w'.cell? ⟨gb274, 0, none⟩ = some (.int .i64 a0_0) ∧ w'.cell? ⟨gb274, 1, none⟩ = some (.int .i64 a0_1) ∧ w'.cell? ⟨gb274, 2, none⟩ = some (.int .i64 a0_2) ∧ w'.cell? (ad283.add (x9_1).toNat) = some (.int .i64 (rd t278 x9_1)) ∧ w'.cell? (ad283.add (x9_1).toNat) = some (.int .i64 (rd t278 x9_1))) (ds := []) ba8 (by kernel_rfl) rfl rfl ⟨(blk_cell BK274.out 0).trans rfl, (blk_cell BK274.out 1).trans rfl, (blk_cell BK274.out 2).trans rfl, hx285_0, hx286_0⟩ (fun hHeld => ?_); refine with_tabW spatelaw4_PaneTimes.tab11 spatelaw4_PaneTimes.bits11 (fun HT_ HW_ => ?_)
           generalize w20.drew = w47 at HO_7 BK274 HB hx285_0 hx286_0 hHeld ⊢
           refine pL 0 38 ba9 (v := ?_) (a' := ?_) rfl rfl (any_of HT_.out (by kernel_rfl)) (fun _ _ _ h => h) (Or.inl ⟨by rfl, ?_⟩) ?_ ?_
           rotate_left; · intro w'; go_simp; with_reducible rfl
           rotate_left; · simp only [Act.put, sq1, sq2, sq3, i64_w, i32_w]; rfl
           refine pL 1 39 ba10 (v := ?_) (a' := ?_) rfl rfl (any_of HT_.out (by kernel_rfl)) (fun _ _ _ h => h) (Or.inl ⟨by rfl, ?_⟩) ?_ ?_
           rotate_left; · intro w'; go_simp; with_reducible rfl
           rotate_left; · simp only [Act.put, sq1, sq2, sq3, i64_w, i32_w]; rfl
           refine pL 2 40 ba11 (v := ?_) (a' := ?_) rfl rfl (any_of HT_.out (by kernel_rfl)) (fun _ _ _ h => h) (Or.inl ⟨by rfl, ?_⟩) ?_ ?_
           rotate_left; · intro w'; go_simp; with_reducible rfl
           rotate_left; · simp only [Act.put, sq1, sq2, sq3, i64_w, i32_w]; rfl
           refine pL 4 42 ba12 (v := ?_) (a' := ?_) rfl rfl (any_of HT_.out (by kernel_rfl)) (fun _ _ _ h => h) (Or.inl ⟨by rfl, ?_⟩) ?_ ?_
           rotate_left; · intro w'; go_simp; with_reducible rfl
           rotate_left; · simp only [Act.put, sq1, sq2, sq3, i64_w, i32_w]; rfl
           refine take_ (i := 3) (N := some 41) (v := ?_) (a' := ?_) ba13 rfl rfl (take_ofW HT_.out HW_.out (by kernel_rfl)) (fun _ _ _ h => h) (Or.inl ⟨by rfl, ?_⟩) hHeld ?_ ?_
           rotate_left
           ·rintro w' ⟨s0, s1, s2, s3, s4⟩
            go_simp
            with_reducible rfl
           rotate_left; · simp only [Act.put, sq1, sq2, sq3, i64_w, i32_w]; rfl
           refine pL 5 43 ba14 (v := ?_) (a' := ?_) rfl rfl (any_of HT_.out (by kernel_rfl)) (fun _ _ _ h => h) (Or.inl ⟨by rfl, ?_⟩) ?_ ?_
           rotate_left; · intro w'; go_simp; with_reducible rfl
           rotate_left; · simp only [Act.put, sq1, sq2, sq3, i64_w, i32_w]; rfl
           refine pL 6 44 ba15 (v := ?_) (a' := ?_) rfl rfl (any_of HT_.out (by kernel_rfl)) (fun _ _ _ h => h) (Or.inl ⟨by rfl, ?_⟩) ?_ ?_
           rotate_left; · intro w'; go_simp; with_reducible rfl
           rotate_left; · simp only [Act.put, sq1, sq2, sq3, i64_w, i32_w]; rfl
           refine pL 7 45 ba16 (v := ?_) (a' := ?_) rfl rfl (any_of HT_.out (by kernel_rfl)) (fun _ _ _ h => h) (Or.inl ⟨by rfl, ?_⟩) ?_ ?_
           rotate_left; · intro w'; go_simp; with_reducible rfl
           rotate_left; · simp only [Act.put, sq1, sq2, sq3, i64_w, i32_w]; rfl
           refine pL 8 46 ba17 (v := ?_) (a' := ?_) rfl rfl (any_of HT_.out (by kernel_rfl)) (fun _ _ _ h => h) (Or.inl ⟨by rfl, ?_⟩) ?_ ?_
           rotate_left; · intro w'; go_simp; with_reducible rfl
           rotate_left; · simp only [Act.put, sq1, sq2, sq3, i64_w, i32_w]; rfl
           refine pL 9 47 ba18 (v := ?_) (a' := ?_) rfl rfl (any_of HT_.out (by kernel_rfl)) (fun _ _ _ h => h) (Or.inl ⟨by rfl, ?_⟩) ?_ ?_
           rotate_left; · intro w'; go_simp; with_reducible rfl
           rotate_left; · simp only [Act.put, sq1, sq2, sq3, i64_w, i32_w]; rfl
           refine pL 10 48 ba19 (v := ?_) (a' := ?_) rfl rfl (any_of HT_.out (by kernel_rfl)) (fun _ _ _ h => h) (Or.inl ⟨by rfl, ?_⟩) ?_ ?_
           rotate_left; · intro w'; go_simp; with_reducible rfl
           rotate_left; · simp only [Act.put, sq1, sq2, sq3, i64_w, i32_w]; rfl
           refine pL 11 49 ba20 (v := ?_) (a' := ?_) rfl rfl (any_of HT_.out (by kernel_rfl)) (fun _ _ _ h => h) (Or.inl ⟨by rfl, ?_⟩) ?_ ?_
           rotate_left; · intro w'; go_simp; with_reducible rfl
           rotate_left; · simp only [Act.put, sq1, sq2, sq3, i64_w, i32_w]; rfl
           refine pL 12 50 ba21 (v := ?_) (a' := ?_) rfl rfl (any_of HT_.out (by kernel_rfl)) (fun _ _ _ h => h) (Or.inl ⟨by rfl, ?_⟩) ?_ ?_
           rotate_left; · intro w'; go_simp; with_reducible rfl
           rotate_left; · simp only [Act.put, sq1, sq2, sq3, i64_w, i32_w]; rfl
           refine pL 13 51 ba22 (v := ?_) (a' := ?_) rfl rfl (any_of HT_.out (by kernel_rfl)) (fun _ _ _ h => h) (Or.inl ⟨by rfl, ?_⟩) ?_ ?_
           rotate_left; · intro w'; go_simp; with_reducible rfl
           rotate_left; · simp only [Act.put, sq1, sq2, sq3, i64_w, i32_w]; rfl
           refine pL 14 52 ba23 (v := ?_) (a' := ?_) rfl rfl (any_of HT_.out (by kernel_rfl)) (fun _ _ _ h => h) (Or.inl ⟨by rfl, ?_⟩) ?_ ?_
           rotate_left; · intro w'; go_simp; with_reducible rfl
           rotate_left; · simp only [Act.put, sq1, sq2, sq3, i64_w, i32_w]; rfl
           refine pL 15 53 ba24 (v := ?_) (a' := ?_) rfl rfl (any_of HT_.out (by kernel_rfl)) (fun _ _ _ h => h) (Or.inl ⟨by rfl, ?_⟩) ?_ ?_
           rotate_left; · intro w'; go_simp; with_reducible rfl
           rotate_left; · simp only [Act.put, sq1, sq2, sq3, i64_w, i32_w]; rfl
           refine pL 18 56 ba77 (v := ?_) (a' := ?_) rfl rfl (any_of HT_.out (by kernel_rfl)) (fun _ _ _ h => h) (Or.inl ⟨by rfl, ?_⟩) ?_ ?_
           rotate_left; · intro w'; go_simp; with_reducible rfl
           rotate_left; · simp only [Act.put, sq1, sq2, sq3, i64_w, i32_w]; rfl
           refine take_ (i := 16) (N := some 54) (v := ?_) (a' := ?_) ba78 rfl rfl (take_ofW HT_.out HW_.out (by kernel_rfl)) (fun _ _ _ h => h) (Or.inl ⟨by rfl, ?_⟩) hHeld ?_ ?_
           rotate_left
           ·rintro w' ⟨s0, s1, s2, s3, s4⟩
            go_simp
            with_reducible rfl
           rotate_left; · simp only [Act.put, sq1, sq2, sq3, i64_w, i32_w]; rfl
           refine pL 17 55 ba27 (v := ?_) (a' := ?_) rfl rfl (any_of HT_.out (by kernel_rfl)) (fun _ _ _ h => h) (Or.inl ⟨by rfl, ?_⟩) ?_ ?_
           rotate_left; · intro w'; go_simp; with_reducible rfl
           rotate_left; · simp only [Act.put, sq1, sq2, sq3, i64_w, i32_w]; rfl
           refine take_ (i := 19) (N := some 57) (v := ?_) (a' := ?_) ba28 rfl rfl (take_ofW HT_.out HW_.out (by kernel_rfl)) (fun _ _ _ h => h) (Or.inl ⟨by rfl, ?_⟩) hHeld ?_ ?_
           rotate_left
           ·rintro w' ⟨s0, s1, s2, s3, s4⟩
            go_simp
            with_reducible rfl
           rotate_left; · simp only [Act.put, sq1, sq2, sq3, i64_w, i32_w]; rfl
           refine pL 20 58 ba29 (v := ?_) (a' := ?_) rfl rfl (any_of HT_.out (by kernel_rfl)) (fun _ _ _ h => h) (Or.inl ⟨by rfl, ?_⟩) ?_ ?_
           rotate_left; · intro w'; go_simp; with_reducible rfl
           rotate_left; · simp only [Act.put, sq1, sq2, sq3, i64_w, i32_w]; rfl
           refine pL 21 59 ba30 (v := ?_) (a' := ?_) rfl rfl (any_of HT_.out (by kernel_rfl)) (fun _ _ _ h => h) (Or.inl ⟨by rfl, ?_⟩) ?_ ?_
           rotate_left; · intro w'; go_simp; with_reducible rfl
           rotate_left; · simp only [Act.put, sq1, sq2, sq3, i64_w, i32_w]; rfl
           refine pL 22 60 ba31 (v := ?_) (a' := ?_) rfl rfl (any_of HT_.out (by kernel_rfl)) (fun _ _ _ h => h) (Or.inl ⟨by rfl, ?_⟩) ?_ ?_
           rotate_left; · intro w'; go_simp; with_reducible rfl
           rotate_left; · simp only [Act.put, sq1, sq2, sq3, i64_w, i32_w]; rfl
           refine pR 23 61 ba32 (a' := ?_) rfl rfl (any_of HT_.out (by kernel_rfl)) (fun _ _ _ h => h) (Or.inr ⟨by rfl, rfl⟩) ?_ ?_
           rotate_left; · simp only [Act.put, sq1, sq2, sq3, i64_w, i32_w]; rfl
           refine pR 24 62 ba33 (a' := ?_) rfl rfl (any_of HT_.out (by kernel_rfl)) (fun _ _ _ h => h) (Or.inr ⟨by rfl, rfl⟩) ?_ ?_
           rotate_left; · simp only [Act.put, sq1, sq2, sq3, i64_w, i32_w]; rfl
           refine pR 25 63 ba34 (a' := ?_) rfl rfl (any_of HT_.out (by kernel_rfl)) (fun _ _ _ h => h) (Or.inr ⟨by rfl, rfl⟩) ?_ ?_
           rotate_left; · simp only [Act.put, sq1, sq2, sq3, i64_w, i32_w]; rfl
           refine pR 26 64 ba35 (a' := ?_) rfl rfl (any_of HT_.out (by kernel_rfl)) (fun _ _ _ h => h) (Or.inr ⟨by rfl, rfl⟩) ?_ ?_
           rotate_left; · simp only [Act.put, sq1, sq2, sq3, i64_w, i32_w]; rfl
           refine pR 27 65 ba36 (a' := ?_) rfl rfl (any_of HT_.out (by kernel_rfl)) (fun _ _ _ h => h) (Or.inr ⟨by rfl, rfl⟩) ?_ ?_
           rotate_left; · simp only [Act.put, sq1, sq2, sq3, i64_w, i32_w]; rfl
           refine pR 28 66 ba37 (a' := ?_) rfl rfl (any_of HT_.out (by kernel_rfl)) (fun _ _ _ h => h) (Or.inr ⟨by rfl, rfl⟩) ?_ ?_
           rotate_left; · simp only [Act.put, sq1, sq2, sq3, i64_w, i32_w]; rfl
           refine pR 29 67 ba38 (a' := ?_) rfl rfl (any_of HT_.out (by kernel_rfl)) (fun _ _ _ h => h) (Or.inr ⟨by rfl, rfl⟩) ?_ ?_
           rotate_left; · simp only [Act.put, sq1, sq2, sq3, i64_w, i32_w]; rfl
           refine pR 30 68 ba39 (a' := ?_) rfl rfl (any_of HT_.out (by kernel_rfl)) (fun _ _ _ h => h) (Or.inr ⟨by rfl, rfl⟩) ?_ ?_
           rotate_left; · simp only [Act.put, sq1, sq2, sq3, i64_w, i32_w]; rfl
           refine pR 31 69 ba40 (a' := ?_) rfl rfl (any_of HT_.out (by kernel_rfl)) (fun _ _ _ h => h) (Or.inr ⟨by rfl, rfl⟩) ?_ ?_
           rotate_left; · simp only [Act.put, sq1, sq2, sq3, i64_w, i32_w]; rfl
           refine pR 32 70 ba41 (a' := ?_) rfl rfl (any_of HT_.out (by kernel_rfl)) (fun _ _ _ h => h) (Or.inr ⟨by rfl, rfl⟩) ?_ ?_
           rotate_left; · simp only [Act.put, sq1, sq2, sq3, i64_w, i32_w]; rfl
           refine pR 33 71 ba42 (a' := ?_) rfl rfl (any_of HT_.out (by kernel_rfl)) (fun _ _ _ h => h) (Or.inr ⟨by rfl, rfl⟩) ?_ ?_
           rotate_left; · simp only [Act.put, sq1, sq2, sq3, i64_w, i32_w]; rfl
           refine pL 34 72 ba43 (v := ?_) (a' := ?_) rfl rfl (any_of HT_.out (by kernel_rfl)) (fun _ _ _ h => h) (Or.inl ⟨by rfl, ?_⟩) ?_ ?_
           rotate_left; · intro w'; go_simp; with_reducible rfl
           rotate_left; · simp only [Act.put, sq1, sq2, sq3, i64_w, i32_w]; rfl
           refine pL 35 73 ba44 (v := ?_) (a' := ?_) rfl rfl (any_of HT_.out (by kernel_rfl)) (fun _ _ _ h => h) (Or.inl ⟨by rfl, ?_⟩) ?_ ?_
           rotate_left; · intro w'; go_simp; with_reducible rfl
           rotate_left; · simp only [Act.put, sq1, sq2, sq3, i64_w, i32_w]; rfl
           refine pR 36 74 ba45 (a' := ?_) rfl rfl (any_of HT_.out (by kernel_rfl)) (fun _ _ _ h => h) (Or.inr ⟨by rfl, rfl⟩) ?_ ?_
           rotate_left; · simp only [Act.put, sq1, sq2, sq3, i64_w, i32_w]; rfl
           refine pR 37 75 ba46 (a' := ?_) rfl rfl (any_of HT_.out (by kernel_rfl)) (fun _ _ _ h => h) (Or.inr ⟨by rfl, rfl⟩) ?_ ?_
           rotate_left; · simp only [Act.put, sq1, sq2, sq3, i64_w, i32_w]; rfl
           refine pR 38 76 ba47 (a' := ?_) rfl rfl (any_of HT_.out (by kernel_rfl)) (fun _ _ _ h => h) (Or.inr ⟨by rfl, rfl⟩) ?_ ?_
           rotate_left; · simp only [Act.put, sq1, sq2, sq3, i64_w, i32_w]; rfl
           refine pR 39 77 ba48 (a' := ?_) rfl rfl (any_of HT_.out (by kernel_rfl)) (fun _ _ _ h => h) (Or.inr ⟨by rfl, rfl⟩) ?_ ?_
           rotate_left; · simp only [Act.put, sq1, sq2, sq3, i64_w, i32_w]; rfl
           refine pR 40 78 ba49 (a' := ?_) rfl rfl (any_of HT_.out (by kernel_rfl)) (fun _ _ _ h => h) (Or.inr ⟨by rfl, rfl⟩) ?_ ?_
           rotate_left; · simp only [Act.put, sq1, sq2, sq3, i64_w, i32_w]; rfl
           refine pR 41 79 ba50 (a' := ?_) rfl rfl (any_of HT_.out (by kernel_rfl)) (fun _ _ _ h => h) (Or.inr ⟨by rfl, rfl⟩) ?_ ?_
           rotate_left; · simp only [Act.put, sq1, sq2, sq3, i64_w, i32_w]; rfl
           refine pR 42 80 ba51 (a' := ?_) rfl rfl (any_of HT_.out (by kernel_rfl)) (fun _ _ _ h => h) (Or.inr ⟨by rfl, rfl⟩) ?_ ?_
           rotate_left; · simp only [Act.put, sq1, sq2, sq3, i64_w, i32_w]; rfl
           refine pR 43 81 ba52 (a' := ?_) rfl rfl (any_of HT_.out (by kernel_rfl)) (fun _ _ _ h => h) (Or.inr ⟨by rfl, rfl⟩) ?_ ?_
           rotate_left; · simp only [Act.put, sq1, sq2, sq3, i64_w, i32_w]; rfl
           refine pR 44 82 ba53 (a' := ?_) rfl rfl (any_of HT_.out (by kernel_rfl)) (fun _ _ _ h => h) (Or.inr ⟨by rfl, rfl⟩) ?_ ?_
           rotate_left; · simp only [Act.put, sq1, sq2, sq3, i64_w, i32_w]; rfl
           refine pL 45 83 ba54 (v := ?_) (a' := ?_) rfl rfl (any_of HT_.out (by kernel_rfl)) (fun _ _ _ h => h) (Or.inl ⟨by rfl, ?_⟩) ?_ ?_
           rotate_left; · intro w'; go_simp; with_reducible rfl
           rotate_left; · simp only [Act.put, sq1, sq2, sq3, i64_w, i32_w]; rfl
           refine pL 46 84 ba55 (v := ?_) (a' := ?_) rfl rfl (any_of HT_.out (by kernel_rfl)) (fun _ _ _ h => h) (Or.inl ⟨by rfl, ?_⟩) ?_ ?_
           rotate_left; · intro w'; go_simp; with_reducible rfl
           rotate_left; · simp only [Act.put, sq1, sq2, sq3, i64_w, i32_w]; rfl
           refine pR 47 85 ba56 (a' := ?_) rfl rfl (any_of HT_.out (by kernel_rfl)) (fun _ _ _ h => h) (Or.inr ⟨by rfl, rfl⟩) ?_ ?_
           rotate_left; · simp only [Act.put, sq1, sq2, sq3, i64_w, i32_w]; rfl
           refine pR 48 86 ba57 (a' := ?_) rfl rfl (any_of HT_.out (by kernel_rfl)) (fun _ _ _ h => h) (Or.inr ⟨by rfl, rfl⟩) ?_ ?_
           rotate_left; · simp only [Act.put, sq1, sq2, sq3, i64_w, i32_w]; rfl
           refine pR 49 87 ba58 (a' := ?_) rfl rfl (any_of HT_.out (by kernel_rfl)) (fun _ _ _ h => h) (Or.inr ⟨by rfl, rfl⟩) ?_ ?_
           rotate_left; · simp only [Act.put, sq1, sq2, sq3, i64_w, i32_w]; rfl
           refine pR 50 88 ba59 (a' := ?_) rfl rfl (any_of HT_.out (by kernel_rfl)) (fun _ _ _ h => h) (Or.inr ⟨by rfl, rfl⟩) ?_ ?_
           rotate_left; · simp only [Act.put, sq1, sq2, sq3, i64_w, i32_w]; rfl
           refine pR 51 89 ba60 (a' := ?_) rfl rfl (any_of HT_.out (by kernel_rfl)) (fun _ _ _ h => h) (Or.inr ⟨by rfl, rfl⟩) ?_ ?_
           rotate_left; · simp only [Act.put, sq1, sq2, sq3, i64_w, i32_w]; rfl
           refine pR 52 90 ba61 (a' := ?_) rfl rfl (any_of HT_.out (by kernel_rfl)) (fun _ _ _ h => h) (Or.inr ⟨by rfl, rfl⟩) ?_ ?_
           rotate_left; · simp only [Act.put, sq1, sq2, sq3, i64_w, i32_w]; rfl
           refine pR 53 91 ba62 (a' := ?_) rfl rfl (any_of HT_.out (by kernel_rfl)) (fun _ _ _ h => h) (Or.inr ⟨by rfl, rfl⟩) ?_ ?_
           rotate_left; · simp only [Act.put, sq1, sq2, sq3, i64_w, i32_w]; rfl
           refine pL 54 92 ba63 (v := ?_) (a' := ?_) rfl rfl (any_of HT_.out (by kernel_rfl)) (fun _ _ _ h => h) (Or.inl ⟨by rfl, ?_⟩) ?_ ?_
           rotate_left; · intro w'; go_simp; with_reducible rfl
           rotate_left; · simp only [Act.put, sq1, sq2, sq3, i64_w, i32_w]; rfl
           refine pL 55 93 ba64 (v := ?_) (a' := ?_) rfl rfl (any_of HT_.out (by kernel_rfl)) (fun _ _ _ h => h) (Or.inl ⟨by rfl, ?_⟩) ?_ ?_
           rotate_left; · intro w'; go_simp; with_reducible rfl
           rotate_left; · simp only [Act.put, sq1, sq2, sq3, i64_w, i32_w]; rfl
           refine pR 56 94 ba65 (a' := ?_) rfl rfl (any_of HT_.out (by kernel_rfl)) (fun _ _ _ h => h) (Or.inr ⟨by rfl, rfl⟩) ?_ ?_
           rotate_left; · simp only [Act.put, sq1, sq2, sq3, i64_w, i32_w]; rfl
           refine pR 57 95 ba66 (a' := ?_) rfl rfl (any_of HT_.out (by kernel_rfl)) (fun _ _ _ h => h) (Or.inr ⟨by rfl, rfl⟩) ?_ ?_
           rotate_left; · simp only [Act.put, sq1, sq2, sq3, i64_w, i32_w]; rfl
           refine pR 58 96 ba67 (a' := ?_) rfl rfl (any_of HT_.out (by kernel_rfl)) (fun _ _ _ h => h) (Or.inr ⟨by rfl, rfl⟩) ?_ ?_
           rotate_left; · simp only [Act.put, sq1, sq2, sq3, i64_w, i32_w]; rfl
           refine pR 59 97 ba68 (a' := ?_) rfl rfl (any_of HT_.out (by kernel_rfl)) (fun _ _ _ h => h) (Or.inr ⟨by rfl, rfl⟩) ?_ ?_
           rotate_left; · simp only [Act.put, sq1, sq2, sq3, i64_w, i32_w]; rfl
           refine pR 60 98 ba69 (a' := ?_) rfl rfl (any_of HT_.out (by kernel_rfl)) (fun _ _ _ h => h) (Or.inr ⟨by rfl, rfl⟩) ?_ ?_
           rotate_left; · simp only [Act.put, sq1, sq2, sq3, i64_w, i32_w]; rfl
           refine pR 61 99 ba70 (a' := ?_) rfl rfl (any_of HT_.out (by kernel_rfl)) (fun _ _ _ h => h) (Or.inr ⟨by rfl, rfl⟩) ?_ ?_
           rotate_left; · simp only [Act.put, sq1, sq2, sq3, i64_w, i32_w]; rfl
           refine pR 62 100 ba71 (a' := ?_) rfl rfl (any_of HT_.out (by kernel_rfl)) (fun _ _ _ h => h) (Or.inr ⟨by rfl, rfl⟩) ?_ ?_
           rotate_left; · simp only [Act.put, sq1, sq2, sq3, i64_w, i32_w]; rfl
           refine pR 63 101 ba72 (a' := ?_) rfl rfl (any_of HT_.out (by kernel_rfl)) (fun _ _ _ h => h) (Or.inr ⟨by rfl, rfl⟩) ?_ ?_
           rotate_left; · simp only [Act.put, sq1, sq2, sq3, i64_w, i32_w]; rfl
           refine pR 64 102 ba73 (a' := ?_) rfl rfl (any_of HT_.out (by kernel_rfl)) (fun _ _ _ h => h) (Or.inr ⟨by rfl, rfl⟩) ?_ ?_
           rotate_left; · simp only [Act.put, sq1, sq2, sq3, i64_w, i32_w]; rfl
           refine pR 65 103 ba74 (a' := ?_) rfl rfl (any_of HT_.out (by kernel_rfl)) (fun _ _ _ h => h) (Or.inr ⟨by rfl, rfl⟩) ?_ ?_
           rotate_left; · simp only [Act.put, sq1, sq2, sq3, i64_w, i32_w]; rfl
           refine pR 66 104 ba75 (a' := ?_) rfl rfl (any_of HT_.out (by kernel_rfl)) (fun _ _ _ h => h) (Or.inr ⟨by rfl, rfl⟩) ?_ ?_
           rotate_left; · simp only [Act.put, sq1, sq2, sq3, i64_w, i32_w]; rfl
           refine pL 67 105 ba76 (v := ?_) (a' := ?_) rfl rfl (any_of HT_.out (by kernel_rfl)) (fun _ _ _ h => h) (Or.inl ⟨by rfl, ?_⟩) ?_ ?_
           rotate_left; · intro w'; go_simp; with_reducible rfl
           rotate_left; · simp only [Act.put, sq1, sq2, sq3, i64_w, i32_w]; rfl
           refine done_ (done_of HT_.out (by kernel_rfl)) ?_
           try go_wp2
           go_meet
           case rel => exact ⟨_, (true), (by first | rfl | (simp; done) | (simp [*]; done)), H', ⟨by have := HK1.out; first | omega | exact Nat.le_refl _⟩, ⟨by (with_reducible repeat (first | apply Kd.R_alloc | apply Kd.R_drewN | apply Kd.R_drew)); exact HO_7.out⟩, ⟨by (with_reducible repeat (first | refine blk_drewN ?_ _ | refine blk_drew ?_ | refine blk_alloc ?_ _)); exact BK274.out⟩, ⟨by repeat (first | (with_reducible first | exact HB.out | apply below_alloc | apply pw_below_drewN | apply below_drew1 | refine below_set ?_ GE274.out) | exact HB.out)⟩⟩
       case rest =>
        clear HC17
        try clear c2
        try clear p2
        try clear q2
        try clear hx2
        try clear p6
        try clear c25
        try clear c25b0
        try clear c25b1
        try clear p28
        try clear q28
        try clear hx28
        try clear hx285_0
        try clear hx286_0
        try clear p285
        try clear p286
        try clear q285
        try clear q286
        obtain ⟨kq, x105_16, rfl, HA, HJ16, HO_7, BK274, HB⟩ := hcut
        cases kq with
        | zero => exact absurd HA.out (by simp [spatelaw4_PaneTimes.j1])
        | succ kj16 =>
         have H := HA.out
         clear HA
         simp only [spatelaw4_PaneTimes.j1] at H
         by_cases c48 : x105_16 = true
         ·subst c48
          have H1 : (some false) = some r := by rw [if_pos rfl] at H; exact H
          clear H
          have H := H1
          clear H1
          obtain rfl := Option.some.inj H
          go_wp2
          go_ret
          exact ⟨by first | rfl | (simp [errW_none, errW_some] <;> rfl) | (simp [*, errW_none, errW_some] <;> rfl), by repeat (first | (with_reducible first | exact HB.out | apply below_alloc | apply pw_below_drewN | apply below_drew1 | refine below_set ?_ GE274.out) | exact HB.out)⟩
         ·replace c48 := Bool.eq_false_iff.mpr c48
          subst c48
          have H1 : (if 0 ≤ x9_1 then (if x9_1 < (t278.length : Int) then (if (wrap64 (2 * a0_0)) = 0 then (none) else ((spatelaw4_has.f kj16 a0_0 a0_1 a0_2 (wrap64 ((rd t278 x9_1) + (Int.tmod a2 (wrap64 (2 * a0_0))))) (rd t278 x9_1)).bind fun t299 => (if (wrap64 ((rd t278 x9_1) + (Int.tmod a2 (wrap64 (2 * a0_0))))) ≥ (rd t278 x9_1) then (if (t299 != (decide ((wrap64 ((rd t278 x9_1) + (Int.tmod a2 (wrap64 (2 * a0_0))))) < t284))) = true then (some false) else (spatelaw4_PaneTimes.l0 kj16 t277 a2 t278 (wrap64 (x9_1 + 1)) a0_0 a0_1 a0_2)) else (if (t299 != false) = true then (some false) else (spatelaw4_PaneTimes.l0 kj16 t277 a2 t278 (wrap64 (x9_1 + 1)) a0_0 a0_1 a0_2))))) else (none)) else (none)) = some r := by rw [if_neg (show ¬ (false = true) by decide)] at H; exact H
          clear H
          have H := H1
          clear H1
          by_cases c49 : 0 ≤ x9_1
          ·rw [if_pos c49] at H
           have c49b0 : decide (0 ≤ x9_1) = true := decide_eq_true c49
           clear c49
           by_cases c50 : x9_1 < (t278.length : Int)
           ·rw [if_pos c50] at H
            have c50b0 : decide (x9_1 < (t278.length : Int)) = true := decide_eq_true c50
            clear c50
            by_cases c51 : (wrap64 (2 * a0_0)) = 0
            ·rw [if_pos c51] at H
             exact absurd H (by simp)
            ·rw [if_neg c51] at H
             have c51b0 : ((wrap64 (2 * a0_0)) == 0) = false := beq_eq_false_iff_ne.mpr c51
             have c51b1 : ((wrap64 (2 * a0_0)) != 0) = true := bne_iff_ne.mpr c51
             replace H := Option.bind_eq_some_iff.mp H
             obtain ⟨t299, A520, H⟩ := H
             replace H : (if (wrap64 ((rd t278 x9_1) + (Int.tmod a2 (wrap64 (2 * a0_0))))) ≥ (rd t278 x9_1) then (if (t299 != (decide ((wrap64 ((rd t278 x9_1) + (Int.tmod a2 (wrap64 (2 * a0_0))))) < t284))) = true then (some false) else (spatelaw4_PaneTimes.l0 kj16 t277 a2 t278 (wrap64 (x9_1 + 1)) a0_0 a0_1 a0_2)) else (if (t299 != false) = true then (some false) else (spatelaw4_PaneTimes.l0 kj16 t277 a2 t278 (wrap64 (x9_1 + 1)) a0_0 a0_1 a0_2))) = some r := H
             have A52 := Aside0.mk A520
             clear A520
             by_cases c53 : (wrap64 ((rd t278 x9_1) + (Int.tmod a2 (wrap64 (2 * a0_0))))) ≥ (rd t278 x9_1)
             ·rw [if_pos c53] at H
              have c53b0 : decide ((rd t278 x9_1) ≤ (wrap64 ((rd t278 x9_1) + (Int.tmod a2 (wrap64 (2 * a0_0)))))) = true := decide_eq_true c53
              clear c53
              by_cases c54 : (t299 != (decide ((wrap64 ((rd t278 x9_1) + (Int.tmod a2 (wrap64 (2 * a0_0))))) < t284))) = true
              ·rw [if_pos c54] at H
               have c54b0 : (t299 != (decide ((wrap64 ((rd t278 x9_1) + (Int.tmod a2 (wrap64 (2 * a0_0))))) < t284))) = true := c54
               (try (have c54b1 : decide (t299 = (decide ((wrap64 ((rd t278 x9_1) + (Int.tmod a2 (wrap64 (2 * a0_0))))) < t284))) = false := by simpa using c54))
               (try (have c54b2 : (t299 == (decide ((wrap64 ((rd t278 x9_1) + (Int.tmod a2 (wrap64 (2 * a0_0))))) < t284))) = false := by simpa using c54))
               (try (have c54b3 : ¬ (t299 = (decide ((wrap64 ((rd t278 x9_1) + (Int.tmod a2 (wrap64 (2 * a0_0))))) < t284))) := by simpa using c54))
               clear c54
               obtain rfl := Option.some.inj H
               try go_wp2
               have n0_ := Aside0.mk (Kd.R_drew HO_7.out)
               have n1_ := Aside0.mk (blk_drew BK274.out)
               have n2_ := Aside0.mk (below_drew1 HB.out)
               clear HO_7
               clear BK274
               clear HB
               have HO_7 := n0_
               have BK274 := n1_
               have HB := n2_
               clear n0_ n1_ n2_
               have p297 : 0 ≤ (x9_1 : Int) := of_decide_eq_true (by first | (with_reducible assumption) | assumption)
               have q297 : x9_1 < (t278.length : Int) := of_decide_eq_true (by first | (with_reducible assumption) | assumption)
               obtain ⟨ad297, e297, hx297_0⟩ := Kd.at_int (Kd.R_reads' HO_7.out).2.2 x9_1 p297 q297
               obtain rfl : ad283 = ad297 := (by injection e297)
               replace p297 := eq_true p297
               replace q297 := eq_true q297
               refine start_ (n := 11) (S := fun w' => w'.cell? ⟨gb274, 0, none⟩ = some (.int .i64 a0_0) ∧ w'.cell? ⟨gb274, 1, none⟩ = some (.int .i64 a0_1) ∧ w'.cell? ⟨gb274, 2, none⟩ = some (.int .i64 a0_2) ∧ w'.cell? (ad283.add (x9_1).toNat) = some (.int .i64 (rd t278 x9_1))) (ds := []) ba103 (by kernel_rfl) rfl rfl ⟨(blk_cell BK274.out 0).trans rfl, (blk_cell BK274.out 1).trans rfl, (blk_cell BK274.out 2).trans rfl, hx297_0⟩ (fun hHeld => ?_); refine with_tabW spatelaw4_PaneTimes.tab13 spatelaw4_PaneTimes.bits13 (fun HT_ HW_ => ?_)
               generalize wc.drew = w55 at HO_7 BK274 HB hx297_0 hHeld ⊢
               refine pL 0 106 ba104 (v := ?_) (a' := ?_) rfl rfl (any_of HT_.out (by kernel_rfl)) (fun _ _ _ h => h) (Or.inl ⟨by rfl, ?_⟩) ?_ ?_
               rotate_left; · intro w'; go_simp; with_reducible rfl
               rotate_left; · simp only [Act.put, sq1, sq2, sq3, i64_w, i32_w]; rfl
               refine pL 1 107 ba105 (v := ?_) (a' := ?_) rfl rfl (any_of HT_.out (by kernel_rfl)) (fun _ _ _ h => h) (Or.inl ⟨by rfl, ?_⟩) ?_ ?_
               rotate_left; · intro w'; go_simp; with_reducible rfl
               rotate_left; · simp only [Act.put, sq1, sq2, sq3, i64_w, i32_w]; rfl
               refine pL 2 108 ba106 (v := ?_) (a' := ?_) rfl rfl (any_of HT_.out (by kernel_rfl)) (fun _ _ _ h => h) (Or.inl ⟨by rfl, ?_⟩) ?_ ?_
               rotate_left; · intro w'; go_simp; with_reducible rfl
               rotate_left; · simp only [Act.put, sq1, sq2, sq3, i64_w, i32_w]; rfl
               refine pL 4 110 ba107 (v := ?_) (a' := ?_) rfl rfl (any_of HT_.out (by kernel_rfl)) (fun _ _ _ h => h) (Or.inl ⟨by rfl, ?_⟩) ?_ ?_
               rotate_left; · intro w'; go_simp; with_reducible rfl
               rotate_left; · simp only [Act.put, sq1, sq2, sq3, i64_w, i32_w]; rfl
               refine pL 5 111 ba108 (v := ?_) (a' := ?_) rfl rfl (any_of HT_.out (by kernel_rfl)) (fun _ _ _ h => h) (Or.inl ⟨by rfl, ?_⟩) ?_ ?_
               rotate_left; · intro w'; go_simp; with_reducible rfl
               rotate_left; · simp only [Act.put, sq1, sq2, sq3, i64_w, i32_w]; rfl
               refine take_ (i := 3) (N := some 109) (v := ?_) (a' := ?_) ba109 rfl rfl (take_ofW HT_.out HW_.out (by kernel_rfl)) (fun _ _ _ h => h) (Or.inl ⟨by rfl, ?_⟩) hHeld ?_ ?_
               rotate_left
               ·rintro w' ⟨s0, s1, s2, s3⟩
                go_simp
                with_reducible rfl
               rotate_left; · simp only [Act.put, sq1, sq2, sq3, i64_w, i32_w]; rfl
               refine take_ (i := 6) (N := some 112) (v := ?_) (a' := ?_) ba110 rfl rfl (take_ofW HT_.out HW_.out (by kernel_rfl)) (fun _ _ _ h => h) (Or.inl ⟨by rfl, ?_⟩) hHeld ?_ ?_
               rotate_left
               ·rintro w' ⟨s0, s1, s2, s3⟩
                go_simp
                with_reducible rfl
               rotate_left; · simp only [Act.put, sq1, sq2, sq3, i64_w, i32_w]; rfl
               refine pL 7 113 ba111 (v := ?_) (a' := ?_) rfl rfl (any_of HT_.out (by kernel_rfl)) (fun _ _ _ h => h) (Or.inl ⟨by rfl, ?_⟩) ?_ ?_
               rotate_left; · intro w'; go_simp; with_reducible rfl
               rotate_left; · simp only [Act.put, sq1, sq2, sq3, i64_w, i32_w]; rfl
               refine pL 8 114 ba112 (v := ?_) (a' := ?_) rfl rfl (any_of HT_.out (by kernel_rfl)) (fun _ _ _ h => h) (Or.inl ⟨by rfl, ?_⟩) ?_ ?_
               rotate_left; · intro w'; go_simp; with_reducible rfl
               rotate_left; · simp only [Act.put, sq1, sq2, sq3, i64_w, i32_w]; rfl
               refine pL 9 115 ba113 (v := ?_) (a' := ?_) rfl rfl (any_of HT_.out (by kernel_rfl)) (fun _ _ _ h => h) (Or.inl ⟨by rfl, ?_⟩) ?_ ?_
               rotate_left; · intro w'; go_simp; with_reducible rfl
               rotate_left; · simp only [Act.put, sq1, sq2, sq3, i64_w, i32_w]; rfl
               refine pL 10 11 ba114 (v := ?_) (a' := ?_) rfl rfl (any_of HT_.out (by kernel_rfl)) (fun _ _ _ h => h) (Or.inl ⟨by rfl, ?_⟩) ?_ ?_
               rotate_left; · intro w'; go_simp; with_reducible rfl
               rotate_left; · simp only [Act.put, sq1, sq2, sq3, i64_w, i32_w]; rfl
               refine done_ (done_of HT_.out (by kernel_rfl)) ?_
               try go_wp2
               have n0_ := Aside0.mk (Kd.R_drew HO_7.out)
               have n1_ := Aside0.mk (blk_drew BK274.out)
               have n2_ := Aside0.mk (below_drew1 HB.out)
               clear HO_7
               clear BK274
               clear HB
               have HO_7 := n0_
               have BK274 := n1_
               have HB := n2_
               clear n0_ n1_ n2_
               have p298 : 0 ≤ (x9_1 : Int) := of_decide_eq_true (by first | (with_reducible assumption) | assumption)
               have q298 : x9_1 < (t278.length : Int) := of_decide_eq_true (by first | (with_reducible assumption) | assumption)
               obtain ⟨ad298, e298, hx298_0⟩ := Kd.at_int (Kd.R_reads' HO_7.out).2.2 x9_1 p298 q298
               obtain rfl : ad283 = ad298 := (by injection e298)
               replace p298 := eq_true p298
               replace q298 := eq_true q298
               have p300 : 0 ≤ (x9_1 : Int) := of_decide_eq_true (by first | (with_reducible assumption) | assumption)
               have q300 : x9_1 < (t278.length : Int) := of_decide_eq_true (by first | (with_reducible assumption) | assumption)
               obtain ⟨ad300, e300, hx300_0⟩ := Kd.at_int (Kd.R_reads' HO_7.out).2.2 x9_1 p300 q300
               obtain rfl : ad283 = ad300 := (by injection e300)
               replace p300 := eq_true p300
               replace q300 := eq_true q300
               refine start_ (n := 19) (S := fun w' => w'.cell? ⟨gb274, 0, none⟩ = some (.int .i64 a0_0) ∧ w'.cell? ⟨gb274, 1, none⟩ = some (.int .i64 a0_1) ∧ w'.cell? ⟨gb274, 2, none⟩ = some (.int .i64 a0_2) ∧ w'.cell? (ad283.add (x9_1).toNat) = some (.int .i64 (rd t278 x9_1)) ∧ w'.cell? (ad283.add (x9_1).toNat) = some (.int .i64 (rd t278 x9_1))) (ds := []) ba115 (by kernel_rfl) rfl rfl ⟨(blk_cell BK274.out 0).trans rfl, (blk_cell BK274.out 1).trans rfl, (blk_cell BK274.out 2).trans rfl, hx298_0, hx300_0⟩ (fun hHeld => ?_); refine with_tabW spatelaw4_PaneTimes.tab14 spatelaw4_PaneTimes.bits14 (fun HT_ HW_ => ?_)
               generalize w55.drew = w56 at HO_7 BK274 HB hx298_0 hx300_0 hHeld ⊢
               refine pL 1 117 ba116 (v := ?_) (a' := ?_) rfl rfl (any_of HT_.out (by kernel_rfl)) (fun _ _ _ h => h) (Or.inl ⟨by rfl, ?_⟩) ?_ ?_
               rotate_left; · intro w'; go_simp; with_reducible rfl
               rotate_left; · simp only [Act.put, sq1, sq2, sq3, i64_w, i32_w]; rfl
               refine pL 2 118 ba117 (v := ?_) (a' := ?_) rfl rfl (any_of HT_.out (by kernel_rfl)) (fun _ _ _ h => h) (Or.inl ⟨by rfl, ?_⟩) ?_ ?_
               rotate_left; · intro w'; go_simp; with_reducible rfl
               rotate_left; · simp only [Act.put, sq1, sq2, sq3, i64_w, i32_w]; rfl
               refine pL 3 119 ba118 (v := ?_) (a' := ?_) rfl rfl (any_of HT_.out (by kernel_rfl)) (fun _ _ _ h => h) (Or.inl ⟨by rfl, ?_⟩) ?_ ?_
               rotate_left; · intro w'; go_simp; with_reducible rfl
               rotate_left; · simp only [Act.put, sq1, sq2, sq3, i64_w, i32_w]; rfl
               refine pL 4 120 ba119 (v := ?_) (a' := ?_) rfl rfl (any_of HT_.out (by kernel_rfl)) (fun _ _ _ h => h) (Or.inl ⟨by rfl, ?_⟩) ?_ ?_
               rotate_left; · intro w'; go_simp; with_reducible rfl
               rotate_left; · simp only [Act.put, sq1, sq2, sq3, i64_w, i32_w]; rfl
               refine pL 7 123 ba120 (v := ?_) (a' := ?_) rfl rfl (any_of HT_.out (by kernel_rfl)) (fun _ _ _ h => h) (Or.inl ⟨by rfl, ?_⟩) ?_ ?_
               rotate_left; · intro w'; go_simp; with_reducible rfl
               rotate_left; · simp only [Act.put, sq1, sq2, sq3, i64_w, i32_w]; rfl
               refine pL 8 124 ba121 (v := ?_) (a' := ?_) rfl rfl (any_of HT_.out (by kernel_rfl)) (fun _ _ _ h => h) (Or.inl ⟨by rfl, ?_⟩) ?_ ?_
               rotate_left; · intro w'; go_simp; with_reducible rfl
               rotate_left; · simp only [Act.put, sq1, sq2, sq3, i64_w, i32_w]; rfl
               refine pL 9 125 ba122 (v := ?_) (a' := ?_) rfl rfl (any_of HT_.out (by kernel_rfl)) (fun _ _ _ h => h) (Or.inl ⟨by rfl, ?_⟩) ?_ ?_
               rotate_left; · intro w'; go_simp; with_reducible rfl
               rotate_left; · simp only [Act.put, sq1, sq2, sq3, i64_w, i32_w]; rfl
               refine pL 10 126 ba123 (v := ?_) (a' := ?_) rfl rfl (any_of HT_.out (by kernel_rfl)) (fun _ _ _ h => h) (Or.inl ⟨by rfl, ?_⟩) ?_ ?_
               rotate_left; · intro w'; go_simp; with_reducible rfl
               rotate_left; · simp only [Act.put, sq1, sq2, sq3, i64_w, i32_w]; rfl
               refine take_ (i := 0) (N := some 116) (v := ?_) (a' := ?_) ba124 rfl rfl (take_ofW HT_.out HW_.out (by kernel_rfl)) (fun _ _ _ h => h) (Or.inl ⟨by rfl, ?_⟩) hHeld ?_ ?_
               rotate_left
               ·rintro w' ⟨s0, s1, s2, s3, s4⟩
                go_simp
                with_reducible rfl
               rotate_left; · simp only [Act.put, sq1, sq2, sq3, i64_w, i32_w]; rfl
               refine take_ (i := 5) (N := some 121) (v := ?_) (a' := ?_) ba125 rfl rfl (take_ofW HT_.out HW_.out (by kernel_rfl)) (fun _ _ _ h => h) (Or.inl ⟨by rfl, ?_⟩) hHeld ?_ ?_
               rotate_left
               ·rintro w' ⟨s0, s1, s2, s3, s4⟩
                go_simp
                with_reducible rfl
               rotate_left; · simp only [Act.put, sq1, sq2, sq3, i64_w, i32_w]; rfl
               refine take_ (i := 11) (N := some 127) (v := ?_) (a' := ?_) ba126 rfl rfl (take_ofW HT_.out HW_.out (by kernel_rfl)) (fun _ _ _ h => h) (Or.inl ⟨by rfl, ?_⟩) hHeld ?_ ?_
               rotate_left
               ·rintro w' ⟨s0, s1, s2, s3, s4⟩
                go_simp
                with_reducible rfl
               rotate_left; · simp only [Act.put, sq1, sq2, sq3, i64_w, i32_w]; rfl
               refine pL 12 128 ba127 (v := ?_) (a' := ?_) rfl rfl (any_of HT_.out (by kernel_rfl)) (fun _ _ _ h => h) (Or.inl ⟨by rfl, ?_⟩) ?_ ?_
               rotate_left; · intro w'; go_simp; with_reducible rfl
               rotate_left; · simp only [Act.put, sq1, sq2, sq3, i64_w, i32_w]; rfl
               refine one_ (i := 6) (N := some 122) ba128 rfl rfl (one_of HT_.out (by kernel_rfl)) (by decide) (fun K hK => ?_)
               refine goes_ Try.func22 (by kernel_rfl) rfl #[.agg #[.int .i64 a0_0, .int .i64 a0_1, .int .i64 a0_2], .int .i64 (wrap64 ((rd t278 x9_1) + (Int.tmod a2 (wrap64 (2 * a0_0))))), .int .i64 (rd t278 x9_1)] (by rfl) rfl rfl (by (try simp only [List.map_toArray, List.map_cons, List.map_nil]); first | done | rfl | (simp only [List.length_drop, List.length_take]; rfl)) ?_
               with_reducible refine (spatelaw4_has.calls kj16 a0_0 a0_1 a0_2 (wrap64 ((rd t278 x9_1) + (Int.tmod a2 (wrap64 (2 * a0_0))))) (rd t278 x9_1) t299 _ A52.out).mono ?_
               rintro e w57 ⟨rfl, hb⟩
               have HS3_ := (hb.cell (World.block_lt_of_cell? _ _ (hHeld.2.2.2.1))).trans (hHeld.2.2.2.1)
               have HS4_ := (hb.cell (World.block_lt_of_cell? _ _ (hHeld.2.2.2.2))).trans (hHeld.2.2.2.2)
               refine ⟨_, rfl, ?_⟩
               have n0_ := Aside0.mk (Kd.R_below (by (with_reducible repeat (first | apply Kd.R_alloc | apply Kd.R_drewN | apply Kd.R_drew)); exact HO_7.out) hb)
               have n1_ := Aside0.mk (blk_below (g := gb274) (o := .cells #[.int .i64 a0_0, .int .i64 a0_1, .int .i64 a0_2] 24 (0, 0)) (by (with_reducible repeat (first | refine blk_drewN ?_ _ | refine blk_drew ?_ | refine blk_alloc ?_ _)); exact BK274.out) hb)
               have n2_ := Aside0.mk (below_step (by repeat (first | (with_reducible first | exact HB.out | apply below_alloc | apply pw_below_drewN | apply below_drew1 | refine below_set ?_ GE274.out) | exact HB.out)) hb)
               clear HO_7
               clear BK274
               clear HB
               have HO_7 := n0_
               have BK274 := n1_
               have HB := n2_
               clear n0_ n1_ n2_
               (try clear hb)
               (try clear hb2)
               (try clear hk)
               (try clear hi)
               refine hK.out _ _ ⟨(blk_cell BK274.out 0).trans rfl, (blk_cell BK274.out 1).trans rfl, (blk_cell BK274.out 2).trans rfl, HS3_, HS4_⟩ (fun hHeld => ?_)
               clear hK K
               refine norm_ (a' := ?_) ?_ ?_
               rotate_left
               ·show Act.put _ (some 122) _ = _
                simp only [Act.put, sq1, sq2, sq3, i64_w, i32_w]
                rfl
               refine pL 13 129 ba129 (v := ?_) (a' := ?_) rfl rfl (any_of HT_.out (by kernel_rfl)) (fun _ _ _ h => h) (Or.inl ⟨by rfl, ?_⟩) ?_ ?_
               rotate_left; · intro w'; go_simp; with_reducible rfl
               rotate_left; · simp only [Act.put, sq1, sq2, sq3, i64_w, i32_w]; rfl
               refine pL 14 130 ba130 (v := ?_) (a' := ?_) rfl rfl (any_of HT_.out (by kernel_rfl)) (fun _ _ _ h => h) (Or.inl ⟨by rfl, ?_⟩) ?_ ?_
               rotate_left; · intro w'; go_simp; with_reducible rfl
               rotate_left; · simp only [Act.put, sq1, sq2, sq3, i64_w, i32_w]; rfl
               refine pL 15 131 ba131 (v := ?_) (a' := ?_) rfl rfl (any_of HT_.out (by kernel_rfl)) (fun _ _ _ h => h) (Or.inl ⟨by rfl, ?_⟩) ?_ ?_
               rotate_left; · intro w'; go_simp; with_reducible rfl
               rotate_left; · simp only [Act.put, sq1, sq2, sq3, i64_w, i32_w]; rfl
               refine pL 16 132 ba132 (v := ?_) (a' := ?_) rfl rfl (any_of HT_.out (by kernel_rfl)) (fun _ _ _ h => h) (Or.inl ⟨by rfl, ?_⟩) ?_ ?_
               rotate_left; · intro w'; go_simp; with_reducible rfl
               rotate_left; · simp only [Act.put, sq1, sq2, sq3, i64_w, i32_w]; rfl
               refine pL 17 133 ba133 (v := ?_) (a' := ?_) rfl rfl (any_of HT_.out (by kernel_rfl)) (fun _ _ _ h => h) (Or.inl ⟨by rfl, ?_⟩) ?_ ?_
               rotate_left; · intro w'; go_simp; with_reducible rfl
               rotate_left; · simp only [Act.put, sq1, sq2, sq3, i64_w, i32_w]; rfl
               refine pL 18 134 ba134 (v := ?_) (a' := ?_) rfl rfl (any_of HT_.out (by kernel_rfl)) (fun _ _ _ h => h) (Or.inl ⟨by rfl, ?_⟩) ?_ ?_
               rotate_left; · intro w'; go_simp; with_reducible rfl
               rotate_left; · simp only [Act.put, sq1, sq2, sq3, i64_w, i32_w]; rfl
               refine done_ (done_of HT_.out (by kernel_rfl)) ?_
               try go_wp2
               go_ret
               exact ⟨by first | rfl | (simp [errW_none, errW_some] <;> rfl) | (simp [*, errW_none, errW_some] <;> rfl), by repeat (first | (with_reducible first | exact HB.out | apply below_alloc | apply pw_below_drewN | apply below_drew1 | refine below_set ?_ GE274.out) | exact HB.out)⟩
              ·rw [if_neg c54] at H
               have c54b0 : (t299 != (decide ((wrap64 ((rd t278 x9_1) + (Int.tmod a2 (wrap64 (2 * a0_0))))) < t284))) = false := by simpa using c54
               (try (have c54b1 : decide (t299 = (decide ((wrap64 ((rd t278 x9_1) + (Int.tmod a2 (wrap64 (2 * a0_0))))) < t284))) = true := by simpa using c54))
               (try (have c54b2 : (t299 == (decide ((wrap64 ((rd t278 x9_1) + (Int.tmod a2 (wrap64 (2 * a0_0))))) < t284))) = true := by simpa using c54))
               clear c54
               have H' := Aside0.mk H
               clear H
               try go_wp2
               have n0_ := Aside0.mk (Kd.R_drew HO_7.out)
               have n1_ := Aside0.mk (blk_drew BK274.out)
               have n2_ := Aside0.mk (below_drew1 HB.out)
               clear HO_7
               clear BK274
               clear HB
               have HO_7 := n0_
               have BK274 := n1_
               have HB := n2_
               clear n0_ n1_ n2_
               have p297 : 0 ≤ (x9_1 : Int) := of_decide_eq_true (by first | (with_reducible assumption) | assumption)
               have q297 : x9_1 < (t278.length : Int) := of_decide_eq_true (by first | (with_reducible assumption) | assumption)
               obtain ⟨ad297, e297, hx297_0⟩ := Kd.at_int (Kd.R_reads' HO_7.out).2.2 x9_1 p297 q297
               obtain rfl : ad283 = ad297 := (by injection e297)
               replace p297 := eq_true p297
               replace q297 := eq_true q297
               refine start_ (n := 11) (S := fun w' => w'.cell? ⟨gb274, 0, none⟩ = some (.int .i64 a0_0) ∧ w'.cell? ⟨gb274, 1, none⟩ = some (.int .i64 a0_1) ∧ w'.cell? ⟨gb274, 2, none⟩ = some (.int .i64 a0_2) ∧ w'.cell? (ad283.add (x9_1).toNat) = some (.int .i64 (rd t278 x9_1))) (ds := []) ba103 (by kernel_rfl) rfl rfl ⟨(blk_cell BK274.out 0).trans rfl, (blk_cell BK274.out 1).trans rfl, (blk_cell BK274.out 2).trans rfl, hx297_0⟩ (fun hHeld => ?_); refine with_tabW spatelaw4_PaneTimes.tab13 spatelaw4_PaneTimes.bits13 (fun HT_ HW_ => ?_)
               generalize wc.drew = w58 at HO_7 BK274 HB hx297_0 hHeld ⊢
               refine pL 0 106 ba104 (v := ?_) (a' := ?_) rfl rfl (any_of HT_.out (by kernel_rfl)) (fun _ _ _ h => h) (Or.inl ⟨by rfl, ?_⟩) ?_ ?_
               rotate_left; · intro w'; go_simp; with_reducible rfl
               rotate_left; · simp only [Act.put, sq1, sq2, sq3, i64_w, i32_w]; rfl
               refine pL 1 107 ba105 (v := ?_) (a' := ?_) rfl rfl (any_of HT_.out (by kernel_rfl)) (fun _ _ _ h => h) (Or.inl ⟨by rfl, ?_⟩) ?_ ?_
               rotate_left; · intro w'; go_simp; with_reducible rfl
               rotate_left; · simp only [Act.put, sq1, sq2, sq3, i64_w, i32_w]; rfl
               refine pL 2 108 ba106 (v := ?_) (a' := ?_) rfl rfl (any_of HT_.out (by kernel_rfl)) (fun _ _ _ h => h) (Or.inl ⟨by rfl, ?_⟩) ?_ ?_
               rotate_left; · intro w'; go_simp; with_reducible rfl
               rotate_left; · simp only [Act.put, sq1, sq2, sq3, i64_w, i32_w]; rfl
               refine pL 4 110 ba107 (v := ?_) (a' := ?_) rfl rfl (any_of HT_.out (by kernel_rfl)) (fun _ _ _ h => h) (Or.inl ⟨by rfl, ?_⟩) ?_ ?_
               rotate_left; · intro w'; go_simp; with_reducible rfl
               rotate_left; · simp only [Act.put, sq1, sq2, sq3, i64_w, i32_w]; rfl
               refine pL 5 111 ba108 (v := ?_) (a' := ?_) rfl rfl (any_of HT_.out (by kernel_rfl)) (fun _ _ _ h => h) (Or.inl ⟨by rfl, ?_⟩) ?_ ?_
               rotate_left; · intro w'; go_simp; with_reducible rfl
               rotate_left; · simp only [Act.put, sq1, sq2, sq3, i64_w, i32_w]; rfl
               refine take_ (i := 3) (N := some 109) (v := ?_) (a' := ?_) ba109 rfl rfl (take_ofW HT_.out HW_.out (by kernel_rfl)) (fun _ _ _ h => h) (Or.inl ⟨by rfl, ?_⟩) hHeld ?_ ?_
               rotate_left
               ·rintro w' ⟨s0, s1, s2, s3⟩
                go_simp
                with_reducible rfl
               rotate_left; · simp only [Act.put, sq1, sq2, sq3, i64_w, i32_w]; rfl
               refine take_ (i := 6) (N := some 112) (v := ?_) (a' := ?_) ba110 rfl rfl (take_ofW HT_.out HW_.out (by kernel_rfl)) (fun _ _ _ h => h) (Or.inl ⟨by rfl, ?_⟩) hHeld ?_ ?_
               rotate_left
               ·rintro w' ⟨s0, s1, s2, s3⟩
                go_simp
                with_reducible rfl
               rotate_left; · simp only [Act.put, sq1, sq2, sq3, i64_w, i32_w]; rfl
               refine pL 7 113 ba111 (v := ?_) (a' := ?_) rfl rfl (any_of HT_.out (by kernel_rfl)) (fun _ _ _ h => h) (Or.inl ⟨by rfl, ?_⟩) ?_ ?_
               rotate_left; · intro w'; go_simp; with_reducible rfl
               rotate_left; · simp only [Act.put, sq1, sq2, sq3, i64_w, i32_w]; rfl
               refine pL 8 114 ba112 (v := ?_) (a' := ?_) rfl rfl (any_of HT_.out (by kernel_rfl)) (fun _ _ _ h => h) (Or.inl ⟨by rfl, ?_⟩) ?_ ?_
               rotate_left; · intro w'; go_simp; with_reducible rfl
               rotate_left; · simp only [Act.put, sq1, sq2, sq3, i64_w, i32_w]; rfl
               refine pL 9 115 ba113 (v := ?_) (a' := ?_) rfl rfl (any_of HT_.out (by kernel_rfl)) (fun _ _ _ h => h) (Or.inl ⟨by rfl, ?_⟩) ?_ ?_
               rotate_left; · intro w'; go_simp; with_reducible rfl
               rotate_left; · simp only [Act.put, sq1, sq2, sq3, i64_w, i32_w]; rfl
               refine pL 10 11 ba114 (v := ?_) (a' := ?_) rfl rfl (any_of HT_.out (by kernel_rfl)) (fun _ _ _ h => h) (Or.inl ⟨by rfl, ?_⟩) ?_ ?_
               rotate_left; · intro w'; go_simp; with_reducible rfl
               rotate_left; · simp only [Act.put, sq1, sq2, sq3, i64_w, i32_w]; rfl
               refine done_ (done_of HT_.out (by kernel_rfl)) ?_
               try go_wp2
               have n0_ := Aside0.mk (Kd.R_drew HO_7.out)
               have n1_ := Aside0.mk (blk_drew BK274.out)
               have n2_ := Aside0.mk (below_drew1 HB.out)
               clear HO_7
               clear BK274
               clear HB
               have HO_7 := n0_
               have BK274 := n1_
               have HB := n2_
               clear n0_ n1_ n2_
               have p298 : 0 ≤ (x9_1 : Int) := of_decide_eq_true (by first | (with_reducible assumption) | assumption)
               have q298 : x9_1 < (t278.length : Int) := of_decide_eq_true (by first | (with_reducible assumption) | assumption)
               obtain ⟨ad298, e298, hx298_0⟩ := Kd.at_int (Kd.R_reads' HO_7.out).2.2 x9_1 p298 q298
               obtain rfl : ad283 = ad298 := (by injection e298)
               replace p298 := eq_true p298
               replace q298 := eq_true q298
               have p300 : 0 ≤ (x9_1 : Int) := of_decide_eq_true (by first | (with_reducible assumption) | assumption)
               have q300 : x9_1 < (t278.length : Int) := of_decide_eq_true (by first | (with_reducible assumption) | assumption)
               obtain ⟨ad300, e300, hx300_0⟩ := Kd.at_int (Kd.R_reads' HO_7.out).2.2 x9_1 p300 q300
               obtain rfl : ad283 = ad300 := (by injection e300)
               replace p300 := eq_true p300
               replace q300 := eq_true q300
               refine start_ (n := 19) (S := fun w' => w'.cell? ⟨gb274, 0, none⟩ = some (.int .i64 a0_0) ∧ w'.cell? ⟨gb274, 1, none⟩ = some (.int .i64 a0_1) ∧ w'.cell? ⟨gb274, 2, none⟩ = some (.int .i64 a0_2) ∧ w'.cell? (ad283.add (x9_1).toNat) = some (.int .i64 (rd t278 x9_1)) ∧ w'.cell? (ad283.add (x9_1).toNat) = some (.int .i64 (rd t278 x9_1))) (ds := []) ba115 (by kernel_rfl) rfl rfl ⟨(blk_cell BK274.out 0).trans rfl, (blk_cell BK274.out 1).trans rfl, (blk_cell BK274.out 2).trans rfl, hx298_0, hx300_0⟩ (fun hHeld => ?_); refine with_tabW spatelaw4_PaneTimes.tab14 spatelaw4_PaneTimes.bits14 (fun HT_ HW_ => ?_)
               generalize w58.drew = w59 at HO_7 BK274 HB hx298_0 hx300_0 hHeld ⊢
               refine pL 1 117 ba116 (v := ?_) (a' := ?_) rfl rfl (any_of HT_.out (by kernel_rfl)) (fun _ _ _ h => h) (Or.inl ⟨by rfl, ?_⟩) ?_ ?_
               rotate_left; · intro w'; go_simp; with_reducible rfl
               rotate_left; · simp only [Act.put, sq1, sq2, sq3, i64_w, i32_w]; rfl
               refine pL 2 118 ba117 (v := ?_) (a' := ?_) rfl rfl (any_of HT_.out (by kernel_rfl)) (fun _ _ _ h => h) (Or.inl ⟨by rfl, ?_⟩) ?_ ?_
               rotate_left; · intro w'; go_simp; with_reducible rfl
               rotate_left; · simp only [Act.put, sq1, sq2, sq3, i64_w, i32_w]; rfl
               refine pL 3 119 ba118 (v := ?_) (a' := ?_) rfl rfl (any_of HT_.out (by kernel_rfl)) (fun _ _ _ h => h) (Or.inl ⟨by rfl, ?_⟩) ?_ ?_
               rotate_left; · intro w'; go_simp; with_reducible rfl
               rotate_left; · simp only [Act.put, sq1, sq2, sq3, i64_w, i32_w]; rfl
               refine pL 4 120 ba119 (v := ?_) (a' := ?_) rfl rfl (any_of HT_.out (by kernel_rfl)) (fun _ _ _ h => h) (Or.inl ⟨by rfl, ?_⟩) ?_ ?_
               rotate_left; · intro w'; go_simp; with_reducible rfl
               rotate_left; · simp only [Act.put, sq1, sq2, sq3, i64_w, i32_w]; rfl
               refine pL 7 123 ba120 (v := ?_) (a' := ?_) rfl rfl (any_of HT_.out (by kernel_rfl)) (fun _ _ _ h => h) (Or.inl ⟨by rfl, ?_⟩) ?_ ?_
               rotate_left; · intro w'; go_simp; with_reducible rfl
               rotate_left; · simp only [Act.put, sq1, sq2, sq3, i64_w, i32_w]; rfl
               refine pL 8 124 ba121 (v := ?_) (a' := ?_) rfl rfl (any_of HT_.out (by kernel_rfl)) (fun _ _ _ h => h) (Or.inl ⟨by rfl, ?_⟩) ?_ ?_
               rotate_left; · intro w'; go_simp; with_reducible rfl
               rotate_left; · simp only [Act.put, sq1, sq2, sq3, i64_w, i32_w]; rfl
               refine pL 9 125 ba122 (v := ?_) (a' := ?_) rfl rfl (any_of HT_.out (by kernel_rfl)) (fun _ _ _ h => h) (Or.inl ⟨by rfl, ?_⟩) ?_ ?_
               rotate_left; · intro w'; go_simp; with_reducible rfl
               rotate_left; · simp only [Act.put, sq1, sq2, sq3, i64_w, i32_w]; rfl
               refine pL 10 126 ba123 (v := ?_) (a' := ?_) rfl rfl (any_of HT_.out (by kernel_rfl)) (fun _ _ _ h => h) (Or.inl ⟨by rfl, ?_⟩) ?_ ?_
               rotate_left; · intro w'; go_simp; with_reducible rfl
               rotate_left; · simp only [Act.put, sq1, sq2, sq3, i64_w, i32_w]; rfl
               refine take_ (i := 0) (N := some 116) (v := ?_) (a' := ?_) ba124 rfl rfl (take_ofW HT_.out HW_.out (by kernel_rfl)) (fun _ _ _ h => h) (Or.inl ⟨by rfl, ?_⟩) hHeld ?_ ?_
               rotate_left
               ·rintro w' ⟨s0, s1, s2, s3, s4⟩
                go_simp
                with_reducible rfl
               rotate_left; · simp only [Act.put, sq1, sq2, sq3, i64_w, i32_w]; rfl
               refine take_ (i := 5) (N := some 121) (v := ?_) (a' := ?_) ba125 rfl rfl (take_ofW HT_.out HW_.out (by kernel_rfl)) (fun _ _ _ h => h) (Or.inl ⟨by rfl, ?_⟩) hHeld ?_ ?_
               rotate_left
               ·rintro w' ⟨s0, s1, s2, s3, s4⟩
                go_simp
                with_reducible rfl
               rotate_left; · simp only [Act.put, sq1, sq2, sq3, i64_w, i32_w]; rfl
               refine take_ (i := 11) (N := some 127) (v := ?_) (a' := ?_) ba126 rfl rfl (take_ofW HT_.out HW_.out (by kernel_rfl)) (fun _ _ _ h => h) (Or.inl ⟨by rfl, ?_⟩) hHeld ?_ ?_
               rotate_left
               ·rintro w' ⟨s0, s1, s2, s3, s4⟩
                go_simp
                with_reducible rfl
               rotate_left; · simp only [Act.put, sq1, sq2, sq3, i64_w, i32_w]; rfl
               refine pL 12 128 ba127 (v := ?_) (a' := ?_) rfl rfl (any_of HT_.out (by kernel_rfl)) (fun _ _ _ h => h) (Or.inl ⟨by rfl, ?_⟩) ?_ ?_
               rotate_left; · intro w'; go_simp; with_reducible rfl
               rotate_left; · simp only [Act.put, sq1, sq2, sq3, i64_w, i32_w]; rfl
               refine one_ (i := 6) (N := some 122) ba128 rfl rfl (one_of HT_.out (by kernel_rfl)) (by decide) (fun K hK => ?_)
               refine goes_ Try.func22 (by kernel_rfl) rfl #[.agg #[.int .i64 a0_0, .int .i64 a0_1, .int .i64 a0_2], .int .i64 (wrap64 ((rd t278 x9_1) + (Int.tmod a2 (wrap64 (2 * a0_0))))), .int .i64 (rd t278 x9_1)] (by rfl) rfl rfl (by (try simp only [List.map_toArray, List.map_cons, List.map_nil]); first | done | rfl | (simp only [List.length_drop, List.length_take]; rfl)) ?_
               with_reducible refine (spatelaw4_has.calls kj16 a0_0 a0_1 a0_2 (wrap64 ((rd t278 x9_1) + (Int.tmod a2 (wrap64 (2 * a0_0))))) (rd t278 x9_1) t299 _ A52.out).mono ?_
               rintro e w60 ⟨rfl, hb⟩
               have HS3_ := (hb.cell (World.block_lt_of_cell? _ _ (hHeld.2.2.2.1))).trans (hHeld.2.2.2.1)
               have HS4_ := (hb.cell (World.block_lt_of_cell? _ _ (hHeld.2.2.2.2))).trans (hHeld.2.2.2.2)
               refine ⟨_, rfl, ?_⟩
               have n0_ := Aside0.mk (Kd.R_below (by (with_reducible repeat (first | apply Kd.R_alloc | apply Kd.R_drewN | apply Kd.R_drew)); exact HO_7.out) hb)
               have n1_ := Aside0.mk (blk_below (g := gb274) (o := .cells #[.int .i64 a0_0, .int .i64 a0_1, .int .i64 a0_2] 24 (0, 0)) (by (with_reducible repeat (first | refine blk_drewN ?_ _ | refine blk_drew ?_ | refine blk_alloc ?_ _)); exact BK274.out) hb)
               have n2_ := Aside0.mk (below_step (by repeat (first | (with_reducible first | exact HB.out | apply below_alloc | apply pw_below_drewN | apply below_drew1 | refine below_set ?_ GE274.out) | exact HB.out)) hb)
               clear HO_7
               clear BK274
               clear HB
               have HO_7 := n0_
               have BK274 := n1_
               have HB := n2_
               clear n0_ n1_ n2_
               (try clear hb)
               (try clear hb2)
               (try clear hk)
               (try clear hi)
               refine hK.out _ _ ⟨(blk_cell BK274.out 0).trans rfl, (blk_cell BK274.out 1).trans rfl, (blk_cell BK274.out 2).trans rfl, HS3_, HS4_⟩ (fun hHeld => ?_)
               clear hK K
               refine norm_ (a' := ?_) ?_ ?_
               rotate_left
               ·show Act.put _ (some 122) _ = _
                simp only [Act.put, sq1, sq2, sq3, i64_w, i32_w]
                rfl
               refine pL 13 129 ba129 (v := ?_) (a' := ?_) rfl rfl (any_of HT_.out (by kernel_rfl)) (fun _ _ _ h => h) (Or.inl ⟨by rfl, ?_⟩) ?_ ?_
               rotate_left; · intro w'; go_simp; with_reducible rfl
               rotate_left; · simp only [Act.put, sq1, sq2, sq3, i64_w, i32_w]; rfl
               refine pL 14 130 ba130 (v := ?_) (a' := ?_) rfl rfl (any_of HT_.out (by kernel_rfl)) (fun _ _ _ h => h) (Or.inl ⟨by rfl, ?_⟩) ?_ ?_
               rotate_left; · intro w'; go_simp; with_reducible rfl
               rotate_left; · simp only [Act.put, sq1, sq2, sq3, i64_w, i32_w]; rfl
               refine pL 15 131 ba131 (v := ?_) (a' := ?_) rfl rfl (any_of HT_.out (by kernel_rfl)) (fun _ _ _ h => h) (Or.inl ⟨by rfl, ?_⟩) ?_ ?_
               rotate_left; · intro w'; go_simp; with_reducible rfl
               rotate_left; · simp only [Act.put, sq1, sq2, sq3, i64_w, i32_w]; rfl
               refine pL 16 132 ba132 (v := ?_) (a' := ?_) rfl rfl (any_of HT_.out (by kernel_rfl)) (fun _ _ _ h => h) (Or.inl ⟨by rfl, ?_⟩) ?_ ?_
               rotate_left; · intro w'; go_simp; with_reducible rfl
               rotate_left; · simp only [Act.put, sq1, sq2, sq3, i64_w, i32_w]; rfl
               refine pL 17 133 ba133 (v := ?_) (a' := ?_) rfl rfl (any_of HT_.out (by kernel_rfl)) (fun _ _ _ h => h) (Or.inl ⟨by rfl, ?_⟩) ?_ ?_
               rotate_left; · intro w'; go_simp; with_reducible rfl
               rotate_left; · simp only [Act.put, sq1, sq2, sq3, i64_w, i32_w]; rfl
               refine pL 18 134 ba134 (v := ?_) (a' := ?_) rfl rfl (any_of HT_.out (by kernel_rfl)) (fun _ _ _ h => h) (Or.inl ⟨by rfl, ?_⟩) ?_ ?_
               rotate_left; · intro w'; go_simp; with_reducible rfl
               rotate_left; · simp only [Act.put, sq1, sq2, sq3, i64_w, i32_w]; rfl
               refine done_ (done_of HT_.out (by kernel_rfl)) ?_
               try go_wp2
               go_roundg kj16
               case measure => have := HK1.out; have := HJ16.out; omega
               case rel => exact ⟨(wrap64 (x9_1 + 1)), (by first | rfl | (simp; done) | (simp [*]; done)), H', ⟨by have := HK1.out; have := HJ16.out; omega⟩, ⟨by (with_reducible repeat (first | apply Kd.R_alloc | apply Kd.R_drewN | apply Kd.R_drew)); exact HO_7.out⟩, ⟨by (with_reducible repeat (first | refine blk_drewN ?_ _ | refine blk_drew ?_ | refine blk_alloc ?_ _)); exact BK274.out⟩, ⟨by repeat (first | (with_reducible first | exact HB.out | apply below_alloc | apply pw_below_drewN | apply below_drew1 | refine below_set ?_ GE274.out) | exact HB.out)⟩⟩
             ·rw [if_neg c53] at H
              have c53b0 : decide ((rd t278 x9_1) ≤ (wrap64 ((rd t278 x9_1) + (Int.tmod a2 (wrap64 (2 * a0_0)))))) = false := decide_eq_false c53
              clear c53
              by_cases c61 : (t299 != false) = true
              ·rw [if_pos c61] at H
               have c61b0 : (t299 != false) = true := c61
               (try (have c61b1 : decide (t299 = false) = false := by simpa using c61))
               (try (have c61b2 : (t299 == false) = false := by simpa using c61))
               (try (have c61b3 : ¬ (t299 = false) := by simpa using c61))
               clear c61
               obtain rfl := Option.some.inj H
               try go_wp2
               have n0_ := Aside0.mk (Kd.R_drew HO_7.out)
               have n1_ := Aside0.mk (blk_drew BK274.out)
               have n2_ := Aside0.mk (below_drew1 HB.out)
               clear HO_7
               clear BK274
               clear HB
               have HO_7 := n0_
               have BK274 := n1_
               have HB := n2_
               clear n0_ n1_ n2_
               have p297 : 0 ≤ (x9_1 : Int) := of_decide_eq_true (by first | (with_reducible assumption) | assumption)
               have q297 : x9_1 < (t278.length : Int) := of_decide_eq_true (by first | (with_reducible assumption) | assumption)
               obtain ⟨ad297, e297, hx297_0⟩ := Kd.at_int (Kd.R_reads' HO_7.out).2.2 x9_1 p297 q297
               obtain rfl : ad283 = ad297 := (by injection e297)
               replace p297 := eq_true p297
               replace q297 := eq_true q297
               refine start_ (n := 11) (S := fun w' => w'.cell? ⟨gb274, 0, none⟩ = some (.int .i64 a0_0) ∧ w'.cell? ⟨gb274, 1, none⟩ = some (.int .i64 a0_1) ∧ w'.cell? ⟨gb274, 2, none⟩ = some (.int .i64 a0_2) ∧ w'.cell? (ad283.add (x9_1).toNat) = some (.int .i64 (rd t278 x9_1))) (ds := []) ba103 (by kernel_rfl) rfl rfl ⟨(blk_cell BK274.out 0).trans rfl, (blk_cell BK274.out 1).trans rfl, (blk_cell BK274.out 2).trans rfl, hx297_0⟩ (fun hHeld => ?_); refine with_tabW spatelaw4_PaneTimes.tab13 spatelaw4_PaneTimes.bits13 (fun HT_ HW_ => ?_)
               generalize wc.drew = w62 at HO_7 BK274 HB hx297_0 hHeld ⊢
               refine pL 0 106 ba104 (v := ?_) (a' := ?_) rfl rfl (any_of HT_.out (by kernel_rfl)) (fun _ _ _ h => h) (Or.inl ⟨by rfl, ?_⟩) ?_ ?_
               rotate_left; · intro w'; go_simp; with_reducible rfl
               rotate_left; · simp only [Act.put, sq1, sq2, sq3, i64_w, i32_w]; rfl
               refine pL 1 107 ba105 (v := ?_) (a' := ?_) rfl rfl (any_of HT_.out (by kernel_rfl)) (fun _ _ _ h => h) (Or.inl ⟨by rfl, ?_⟩) ?_ ?_
               rotate_left; · intro w'; go_simp; with_reducible rfl
               rotate_left; · simp only [Act.put, sq1, sq2, sq3, i64_w, i32_w]; rfl
               refine pL 2 108 ba106 (v := ?_) (a' := ?_) rfl rfl (any_of HT_.out (by kernel_rfl)) (fun _ _ _ h => h) (Or.inl ⟨by rfl, ?_⟩) ?_ ?_
               rotate_left; · intro w'; go_simp; with_reducible rfl
               rotate_left; · simp only [Act.put, sq1, sq2, sq3, i64_w, i32_w]; rfl
               refine pL 4 110 ba107 (v := ?_) (a' := ?_) rfl rfl (any_of HT_.out (by kernel_rfl)) (fun _ _ _ h => h) (Or.inl ⟨by rfl, ?_⟩) ?_ ?_
               rotate_left; · intro w'; go_simp; with_reducible rfl
               rotate_left; · simp only [Act.put, sq1, sq2, sq3, i64_w, i32_w]; rfl
               refine pL 5 111 ba108 (v := ?_) (a' := ?_) rfl rfl (any_of HT_.out (by kernel_rfl)) (fun _ _ _ h => h) (Or.inl ⟨by rfl, ?_⟩) ?_ ?_
               rotate_left; · intro w'; go_simp; with_reducible rfl
               rotate_left; · simp only [Act.put, sq1, sq2, sq3, i64_w, i32_w]; rfl
               refine take_ (i := 3) (N := some 109) (v := ?_) (a' := ?_) ba109 rfl rfl (take_ofW HT_.out HW_.out (by kernel_rfl)) (fun _ _ _ h => h) (Or.inl ⟨by rfl, ?_⟩) hHeld ?_ ?_
               rotate_left
               ·rintro w' ⟨s0, s1, s2, s3⟩
                go_simp
                with_reducible rfl
               rotate_left; · simp only [Act.put, sq1, sq2, sq3, i64_w, i32_w]; rfl
               refine take_ (i := 6) (N := some 112) (v := ?_) (a' := ?_) ba110 rfl rfl (take_ofW HT_.out HW_.out (by kernel_rfl)) (fun _ _ _ h => h) (Or.inl ⟨by rfl, ?_⟩) hHeld ?_ ?_
               rotate_left
               ·rintro w' ⟨s0, s1, s2, s3⟩
                go_simp
                with_reducible rfl
               rotate_left; · simp only [Act.put, sq1, sq2, sq3, i64_w, i32_w]; rfl
               refine pL 7 113 ba111 (v := ?_) (a' := ?_) rfl rfl (any_of HT_.out (by kernel_rfl)) (fun _ _ _ h => h) (Or.inl ⟨by rfl, ?_⟩) ?_ ?_
               rotate_left; · intro w'; go_simp; with_reducible rfl
               rotate_left; · simp only [Act.put, sq1, sq2, sq3, i64_w, i32_w]; rfl
               refine pL 8 114 ba112 (v := ?_) (a' := ?_) rfl rfl (any_of HT_.out (by kernel_rfl)) (fun _ _ _ h => h) (Or.inl ⟨by rfl, ?_⟩) ?_ ?_
               rotate_left; · intro w'; go_simp; with_reducible rfl
               rotate_left; · simp only [Act.put, sq1, sq2, sq3, i64_w, i32_w]; rfl
               refine pL 9 115 ba113 (v := ?_) (a' := ?_) rfl rfl (any_of HT_.out (by kernel_rfl)) (fun _ _ _ h => h) (Or.inl ⟨by rfl, ?_⟩) ?_ ?_
               rotate_left; · intro w'; go_simp; with_reducible rfl
               rotate_left; · simp only [Act.put, sq1, sq2, sq3, i64_w, i32_w]; rfl
               refine pL 10 11 ba114 (v := ?_) (a' := ?_) rfl rfl (any_of HT_.out (by kernel_rfl)) (fun _ _ _ h => h) (Or.inl ⟨by rfl, ?_⟩) ?_ ?_
               rotate_left; · intro w'; go_simp; with_reducible rfl
               rotate_left; · simp only [Act.put, sq1, sq2, sq3, i64_w, i32_w]; rfl
               refine done_ (done_of HT_.out (by kernel_rfl)) ?_
               try go_wp2
               have n0_ := Aside0.mk (Kd.R_drew HO_7.out)
               have n1_ := Aside0.mk (blk_drew BK274.out)
               have n2_ := Aside0.mk (below_drew1 HB.out)
               clear HO_7
               clear BK274
               clear HB
               have HO_7 := n0_
               have BK274 := n1_
               have HB := n2_
               clear n0_ n1_ n2_
               have p298 : 0 ≤ (x9_1 : Int) := of_decide_eq_true (by first | (with_reducible assumption) | assumption)
               have q298 : x9_1 < (t278.length : Int) := of_decide_eq_true (by first | (with_reducible assumption) | assumption)
               obtain ⟨ad298, e298, hx298_0⟩ := Kd.at_int (Kd.R_reads' HO_7.out).2.2 x9_1 p298 q298
               obtain rfl : ad283 = ad298 := (by injection e298)
               replace p298 := eq_true p298
               replace q298 := eq_true q298
               have p300 : 0 ≤ (x9_1 : Int) := of_decide_eq_true (by first | (with_reducible assumption) | assumption)
               have q300 : x9_1 < (t278.length : Int) := of_decide_eq_true (by first | (with_reducible assumption) | assumption)
               obtain ⟨ad300, e300, hx300_0⟩ := Kd.at_int (Kd.R_reads' HO_7.out).2.2 x9_1 p300 q300
               obtain rfl : ad283 = ad300 := (by injection e300)
               replace p300 := eq_true p300
               replace q300 := eq_true q300
               refine start_ (n := 19) (S := fun w' => w'.cell? ⟨gb274, 0, none⟩ = some (.int .i64 a0_0) ∧ w'.cell? ⟨gb274, 1, none⟩ = some (.int .i64 a0_1) ∧ w'.cell? ⟨gb274, 2, none⟩ = some (.int .i64 a0_2) ∧ w'.cell? (ad283.add (x9_1).toNat) = some (.int .i64 (rd t278 x9_1)) ∧ w'.cell? (ad283.add (x9_1).toNat) = some (.int .i64 (rd t278 x9_1))) (ds := []) ba115 (by kernel_rfl) rfl rfl ⟨(blk_cell BK274.out 0).trans rfl, (blk_cell BK274.out 1).trans rfl, (blk_cell BK274.out 2).trans rfl, hx298_0, hx300_0⟩ (fun hHeld => ?_); refine with_tabW spatelaw4_PaneTimes.tab14 spatelaw4_PaneTimes.bits14 (fun HT_ HW_ => ?_)
               generalize w62.drew = w63 at HO_7 BK274 HB hx298_0 hx300_0 hHeld ⊢
               refine pL 1 117 ba116 (v := ?_) (a' := ?_) rfl rfl (any_of HT_.out (by kernel_rfl)) (fun _ _ _ h => h) (Or.inl ⟨by rfl, ?_⟩) ?_ ?_
               rotate_left; · intro w'; go_simp; with_reducible rfl
               rotate_left; · simp only [Act.put, sq1, sq2, sq3, i64_w, i32_w]; rfl
               refine pL 2 118 ba117 (v := ?_) (a' := ?_) rfl rfl (any_of HT_.out (by kernel_rfl)) (fun _ _ _ h => h) (Or.inl ⟨by rfl, ?_⟩) ?_ ?_
               rotate_left; · intro w'; go_simp; with_reducible rfl
               rotate_left; · simp only [Act.put, sq1, sq2, sq3, i64_w, i32_w]; rfl
               refine pL 3 119 ba118 (v := ?_) (a' := ?_) rfl rfl (any_of HT_.out (by kernel_rfl)) (fun _ _ _ h => h) (Or.inl ⟨by rfl, ?_⟩) ?_ ?_
               rotate_left; · intro w'; go_simp; with_reducible rfl
               rotate_left; · simp only [Act.put, sq1, sq2, sq3, i64_w, i32_w]; rfl
               refine pL 4 120 ba119 (v := ?_) (a' := ?_) rfl rfl (any_of HT_.out (by kernel_rfl)) (fun _ _ _ h => h) (Or.inl ⟨by rfl, ?_⟩) ?_ ?_
               rotate_left; · intro w'; go_simp; with_reducible rfl
               rotate_left; · simp only [Act.put, sq1, sq2, sq3, i64_w, i32_w]; rfl
               refine pL 7 123 ba120 (v := ?_) (a' := ?_) rfl rfl (any_of HT_.out (by kernel_rfl)) (fun _ _ _ h => h) (Or.inl ⟨by rfl, ?_⟩) ?_ ?_
               rotate_left; · intro w'; go_simp; with_reducible rfl
               rotate_left; · simp only [Act.put, sq1, sq2, sq3, i64_w, i32_w]; rfl
               refine pL 8 124 ba121 (v := ?_) (a' := ?_) rfl rfl (any_of HT_.out (by kernel_rfl)) (fun _ _ _ h => h) (Or.inl ⟨by rfl, ?_⟩) ?_ ?_
               rotate_left; · intro w'; go_simp; with_reducible rfl
               rotate_left; · simp only [Act.put, sq1, sq2, sq3, i64_w, i32_w]; rfl
               refine pL 9 125 ba122 (v := ?_) (a' := ?_) rfl rfl (any_of HT_.out (by kernel_rfl)) (fun _ _ _ h => h) (Or.inl ⟨by rfl, ?_⟩) ?_ ?_
               rotate_left; · intro w'; go_simp; with_reducible rfl
               rotate_left; · simp only [Act.put, sq1, sq2, sq3, i64_w, i32_w]; rfl
               refine pL 10 126 ba123 (v := ?_) (a' := ?_) rfl rfl (any_of HT_.out (by kernel_rfl)) (fun _ _ _ h => h) (Or.inl ⟨by rfl, ?_⟩) ?_ ?_
               rotate_left; · intro w'; go_simp; with_reducible rfl
               rotate_left; · simp only [Act.put, sq1, sq2, sq3, i64_w, i32_w]; rfl
               refine take_ (i := 0) (N := some 116) (v := ?_) (a' := ?_) ba124 rfl rfl (take_ofW HT_.out HW_.out (by kernel_rfl)) (fun _ _ _ h => h) (Or.inl ⟨by rfl, ?_⟩) hHeld ?_ ?_
               rotate_left
               ·rintro w' ⟨s0, s1, s2, s3, s4⟩
                go_simp
                with_reducible rfl
               rotate_left; · simp only [Act.put, sq1, sq2, sq3, i64_w, i32_w]; rfl
               refine take_ (i := 5) (N := some 121) (v := ?_) (a' := ?_) ba125 rfl rfl (take_ofW HT_.out HW_.out (by kernel_rfl)) (fun _ _ _ h => h) (Or.inl ⟨by rfl, ?_⟩) hHeld ?_ ?_
               rotate_left
               ·rintro w' ⟨s0, s1, s2, s3, s4⟩
                go_simp
                with_reducible rfl
               rotate_left; · simp only [Act.put, sq1, sq2, sq3, i64_w, i32_w]; rfl
               refine take_ (i := 11) (N := some 127) (v := ?_) (a' := ?_) ba126 rfl rfl (take_ofW HT_.out HW_.out (by kernel_rfl)) (fun _ _ _ h => h) (Or.inl ⟨by rfl, ?_⟩) hHeld ?_ ?_
               rotate_left
               ·rintro w' ⟨s0, s1, s2, s3, s4⟩
                go_simp
                with_reducible rfl
               rotate_left; · simp only [Act.put, sq1, sq2, sq3, i64_w, i32_w]; rfl
               refine pL 12 128 ba127 (v := ?_) (a' := ?_) rfl rfl (any_of HT_.out (by kernel_rfl)) (fun _ _ _ h => h) (Or.inl ⟨by rfl, ?_⟩) ?_ ?_
               rotate_left; · intro w'; go_simp; with_reducible rfl
               rotate_left; · simp only [Act.put, sq1, sq2, sq3, i64_w, i32_w]; rfl
               refine one_ (i := 6) (N := some 122) ba128 rfl rfl (one_of HT_.out (by kernel_rfl)) (by decide) (fun K hK => ?_)
               refine goes_ Try.func22 (by kernel_rfl) rfl #[.agg #[.int .i64 a0_0, .int .i64 a0_1, .int .i64 a0_2], .int .i64 (wrap64 ((rd t278 x9_1) + (Int.tmod a2 (wrap64 (2 * a0_0))))), .int .i64 (rd t278 x9_1)] (by rfl) rfl rfl (by (try simp only [List.map_toArray, List.map_cons, List.map_nil]); first | done | rfl | (simp only [List.length_drop, List.length_take]; rfl)) ?_
               with_reducible refine (spatelaw4_has.calls kj16 a0_0 a0_1 a0_2 (wrap64 ((rd t278 x9_1) + (Int.tmod a2 (wrap64 (2 * a0_0))))) (rd t278 x9_1) t299 _ A52.out).mono ?_
               rintro e w64 ⟨rfl, hb⟩
               have HS3_ := (hb.cell (World.block_lt_of_cell? _ _ (hHeld.2.2.2.1))).trans (hHeld.2.2.2.1)
               have HS4_ := (hb.cell (World.block_lt_of_cell? _ _ (hHeld.2.2.2.2))).trans (hHeld.2.2.2.2)
               refine ⟨_, rfl, ?_⟩
               have n0_ := Aside0.mk (Kd.R_below (by (with_reducible repeat (first | apply Kd.R_alloc | apply Kd.R_drewN | apply Kd.R_drew)); exact HO_7.out) hb)
               have n1_ := Aside0.mk (blk_below (g := gb274) (o := .cells #[.int .i64 a0_0, .int .i64 a0_1, .int .i64 a0_2] 24 (0, 0)) (by (with_reducible repeat (first | refine blk_drewN ?_ _ | refine blk_drew ?_ | refine blk_alloc ?_ _)); exact BK274.out) hb)
               have n2_ := Aside0.mk (below_step (by repeat (first | (with_reducible first | exact HB.out | apply below_alloc | apply pw_below_drewN | apply below_drew1 | refine below_set ?_ GE274.out) | exact HB.out)) hb)
               clear HO_7
               clear BK274
               clear HB
               have HO_7 := n0_
               have BK274 := n1_
               have HB := n2_
               clear n0_ n1_ n2_
               (try clear hb)
               (try clear hb2)
               (try clear hk)
               (try clear hi)
               refine hK.out _ _ ⟨(blk_cell BK274.out 0).trans rfl, (blk_cell BK274.out 1).trans rfl, (blk_cell BK274.out 2).trans rfl, HS3_, HS4_⟩ (fun hHeld => ?_)
               clear hK K
               refine norm_ (a' := ?_) ?_ ?_
               rotate_left
               ·show Act.put _ (some 122) _ = _
                simp only [Act.put, sq1, sq2, sq3, i64_w, i32_w]
                rfl
               refine pL 13 129 ba129 (v := ?_) (a' := ?_) rfl rfl (any_of HT_.out (by kernel_rfl)) (fun _ _ _ h => h) (Or.inl ⟨by rfl, ?_⟩) ?_ ?_
               rotate_left; · intro w'; go_simp; with_reducible rfl
               rotate_left; · simp only [Act.put, sq1, sq2, sq3, i64_w, i32_w]; rfl
               refine pR 14 130 ba130 (a' := ?_) rfl rfl (any_of HT_.out (by kernel_rfl)) (fun _ _ _ h => h) (Or.inr ⟨by rfl, rfl⟩) ?_ ?_
               rotate_left; · simp only [Act.put, sq1, sq2, sq3, i64_w, i32_w]; rfl
               refine pR 15 131 ba131 (a' := ?_) rfl rfl (any_of HT_.out (by kernel_rfl)) (fun _ _ _ h => h) (Or.inr ⟨by rfl, rfl⟩) ?_ ?_
               rotate_left; · simp only [Act.put, sq1, sq2, sq3, i64_w, i32_w]; rfl
               refine pR 16 132 ba132 (a' := ?_) rfl rfl (any_of HT_.out (by kernel_rfl)) (fun _ _ _ h => h) (Or.inr ⟨by rfl, rfl⟩) ?_ ?_
               rotate_left; · simp only [Act.put, sq1, sq2, sq3, i64_w, i32_w]; rfl
               refine pL 17 133 ba133 (v := ?_) (a' := ?_) rfl rfl (any_of HT_.out (by kernel_rfl)) (fun _ _ _ h => h) (Or.inl ⟨by rfl, ?_⟩) ?_ ?_
               rotate_left; · intro w'; go_simp; with_reducible rfl
               rotate_left; · simp only [Act.put, sq1, sq2, sq3, i64_w, i32_w]; rfl
               refine pL 18 134 ba134 (v := ?_) (a' := ?_) rfl rfl (any_of HT_.out (by kernel_rfl)) (fun _ _ _ h => h) (Or.inl ⟨by rfl, ?_⟩) ?_ ?_
               rotate_left; · intro w'; go_simp; with_reducible rfl
               rotate_left; · simp only [Act.put, sq1, sq2, sq3, i64_w, i32_w]; rfl
               refine done_ (done_of HT_.out (by kernel_rfl)) ?_
               try go_wp2
               go_ret
               exact ⟨by first | rfl | (simp [errW_none, errW_some] <;> rfl) | (simp [*, errW_none, errW_some] <;> rfl), by repeat (first | (with_reducible first | exact HB.out | apply below_alloc | apply pw_below_drewN | apply below_drew1 | refine below_set ?_ GE274.out) | exact HB.out)⟩
              ·rw [if_neg c61] at H
               have c61b0 : (t299 != false) = false := by simpa using c61
               (try (have c61b1 : decide (t299 = false) = true := by simpa using c61))
               (try (have c61b2 : (t299 == false) = true := by simpa using c61))
               clear c61
               have H' := Aside0.mk H
               clear H
               try go_wp2
               have n0_ := Aside0.mk (Kd.R_drew HO_7.out)
               have n1_ := Aside0.mk (blk_drew BK274.out)
               have n2_ := Aside0.mk (below_drew1 HB.out)
               clear HO_7
               clear BK274
               clear HB
               have HO_7 := n0_
               have BK274 := n1_
               have HB := n2_
               clear n0_ n1_ n2_
               have p297 : 0 ≤ (x9_1 : Int) := of_decide_eq_true (by first | (with_reducible assumption) | assumption)
               have q297 : x9_1 < (t278.length : Int) := of_decide_eq_true (by first | (with_reducible assumption) | assumption)
               obtain ⟨ad297, e297, hx297_0⟩ := Kd.at_int (Kd.R_reads' HO_7.out).2.2 x9_1 p297 q297
               obtain rfl : ad283 = ad297 := (by injection e297)
               replace p297 := eq_true p297
               replace q297 := eq_true q297
               refine start_ (n := 11) (S := fun w' => w'.cell? ⟨gb274, 0, none⟩ = some (.int .i64 a0_0) ∧ w'.cell? ⟨gb274, 1, none⟩ = some (.int .i64 a0_1) ∧ w'.cell? ⟨gb274, 2, none⟩ = some (.int .i64 a0_2) ∧ w'.cell? (ad283.add (x9_1).toNat) = some (.int .i64 (rd t278 x9_1))) (ds := []) ba103 (by kernel_rfl) rfl rfl ⟨(blk_cell BK274.out 0).trans rfl, (blk_cell BK274.out 1).trans rfl, (blk_cell BK274.out 2).trans rfl, hx297_0⟩ (fun hHeld => ?_); refine with_tabW spatelaw4_PaneTimes.tab13 spatelaw4_PaneTimes.bits13 (fun HT_ HW_ => ?_)
               generalize wc.drew = w65 at HO_7 BK274 HB hx297_0 hHeld ⊢
               refine pL 0 106 ba104 (v := ?_) (a' := ?_) rfl rfl (any_of HT_.out (by kernel_rfl)) (fun _ _ _ h => h) (Or.inl ⟨by rfl, ?_⟩) ?_ ?_
               rotate_left; · intro w'; go_simp; with_reducible rfl
               rotate_left; · simp only [Act.put, sq1, sq2, sq3, i64_w, i32_w]; rfl
               refine pL 1 107 ba105 (v := ?_) (a' := ?_) rfl rfl (any_of HT_.out (by kernel_rfl)) (fun _ _ _ h => h) (Or.inl ⟨by rfl, ?_⟩) ?_ ?_
               rotate_left; · intro w'; go_simp; with_reducible rfl
               rotate_left; · simp only [Act.put, sq1, sq2, sq3, i64_w, i32_w]; rfl
               refine pL 2 108 ba106 (v := ?_) (a' := ?_) rfl rfl (any_of HT_.out (by kernel_rfl)) (fun _ _ _ h => h) (Or.inl ⟨by rfl, ?_⟩) ?_ ?_
               rotate_left; · intro w'; go_simp; with_reducible rfl
               rotate_left; · simp only [Act.put, sq1, sq2, sq3, i64_w, i32_w]; rfl
               refine pL 4 110 ba107 (v := ?_) (a' := ?_) rfl rfl (any_of HT_.out (by kernel_rfl)) (fun _ _ _ h => h) (Or.inl ⟨by rfl, ?_⟩) ?_ ?_
               rotate_left; · intro w'; go_simp; with_reducible rfl
               rotate_left; · simp only [Act.put, sq1, sq2, sq3, i64_w, i32_w]; rfl
               refine pL 5 111 ba108 (v := ?_) (a' := ?_) rfl rfl (any_of HT_.out (by kernel_rfl)) (fun _ _ _ h => h) (Or.inl ⟨by rfl, ?_⟩) ?_ ?_
               rotate_left; · intro w'; go_simp; with_reducible rfl
               rotate_left; · simp only [Act.put, sq1, sq2, sq3, i64_w, i32_w]; rfl
               refine take_ (i := 3) (N := some 109) (v := ?_) (a' := ?_) ba109 rfl rfl (take_ofW HT_.out HW_.out (by kernel_rfl)) (fun _ _ _ h => h) (Or.inl ⟨by rfl, ?_⟩) hHeld ?_ ?_
               rotate_left
               ·rintro w' ⟨s0, s1, s2, s3⟩
                go_simp
                with_reducible rfl
               rotate_left; · simp only [Act.put, sq1, sq2, sq3, i64_w, i32_w]; rfl
               refine take_ (i := 6) (N := some 112) (v := ?_) (a' := ?_) ba110 rfl rfl (take_ofW HT_.out HW_.out (by kernel_rfl)) (fun _ _ _ h => h) (Or.inl ⟨by rfl, ?_⟩) hHeld ?_ ?_
               rotate_left
               ·rintro w' ⟨s0, s1, s2, s3⟩
                go_simp
                with_reducible rfl
               rotate_left; · simp only [Act.put, sq1, sq2, sq3, i64_w, i32_w]; rfl
               refine pL 7 113 ba111 (v := ?_) (a' := ?_) rfl rfl (any_of HT_.out (by kernel_rfl)) (fun _ _ _ h => h) (Or.inl ⟨by rfl, ?_⟩) ?_ ?_
               rotate_left; · intro w'; go_simp; with_reducible rfl
               rotate_left; · simp only [Act.put, sq1, sq2, sq3, i64_w, i32_w]; rfl
               refine pL 8 114 ba112 (v := ?_) (a' := ?_) rfl rfl (any_of HT_.out (by kernel_rfl)) (fun _ _ _ h => h) (Or.inl ⟨by rfl, ?_⟩) ?_ ?_
               rotate_left; · intro w'; go_simp; with_reducible rfl
               rotate_left; · simp only [Act.put, sq1, sq2, sq3, i64_w, i32_w]; rfl
               refine pL 9 115 ba113 (v := ?_) (a' := ?_) rfl rfl (any_of HT_.out (by kernel_rfl)) (fun _ _ _ h => h) (Or.inl ⟨by rfl, ?_⟩) ?_ ?_
               rotate_left; · intro w'; go_simp; with_reducible rfl
               rotate_left; · simp only [Act.put, sq1, sq2, sq3, i64_w, i32_w]; rfl
               refine pL 10 11 ba114 (v := ?_) (a' := ?_) rfl rfl (any_of HT_.out (by kernel_rfl)) (fun _ _ _ h => h) (Or.inl ⟨by rfl, ?_⟩) ?_ ?_
               rotate_left; · intro w'; go_simp; with_reducible rfl
               rotate_left; · simp only [Act.put, sq1, sq2, sq3, i64_w, i32_w]; rfl
               refine done_ (done_of HT_.out (by kernel_rfl)) ?_
               try go_wp2
               have n0_ := Aside0.mk (Kd.R_drew HO_7.out)
               have n1_ := Aside0.mk (blk_drew BK274.out)
               have n2_ := Aside0.mk (below_drew1 HB.out)
               clear HO_7
               clear BK274
               clear HB
               have HO_7 := n0_
               have BK274 := n1_
               have HB := n2_
               clear n0_ n1_ n2_
               have p298 : 0 ≤ (x9_1 : Int) := of_decide_eq_true (by first | (with_reducible assumption) | assumption)
               have q298 : x9_1 < (t278.length : Int) := of_decide_eq_true (by first | (with_reducible assumption) | assumption)
               obtain ⟨ad298, e298, hx298_0⟩ := Kd.at_int (Kd.R_reads' HO_7.out).2.2 x9_1 p298 q298
               obtain rfl : ad283 = ad298 := (by injection e298)
               replace p298 := eq_true p298
               replace q298 := eq_true q298
               have p300 : 0 ≤ (x9_1 : Int) := of_decide_eq_true (by first | (with_reducible assumption) | assumption)
               have q300 : x9_1 < (t278.length : Int) := of_decide_eq_true (by first | (with_reducible assumption) | assumption)
               obtain ⟨ad300, e300, hx300_0⟩ := Kd.at_int (Kd.R_reads' HO_7.out).2.2 x9_1 p300 q300
               obtain rfl : ad283 = ad300 := (by injection e300)
               replace p300 := eq_true p300
               replace q300 := eq_true q300
               refine start_ (n := 19) (S := fun w' => w'.cell? ⟨gb274, 0, none⟩ = some (.int .i64 a0_0) ∧ w'.cell? ⟨gb274, 1, none⟩ = some (.int .i64 a0_1) ∧ w'.cell? ⟨gb274, 2, none⟩ = some (.int .i64 a0_2) ∧ w'.cell? (ad283.add (x9_1).toNat) = some (.int .i64 (rd t278 x9_1)) ∧ w'.cell? (ad283.add (x9_1).toNat) = some (.int .i64 (rd t278 x9_1))) (ds := []) ba115 (by kernel_rfl) rfl rfl ⟨(blk_cell BK274.out 0).trans rfl, (blk_cell BK274.out 1).trans rfl, (blk_cell BK274.out 2).trans rfl, hx298_0, hx300_0⟩ (fun hHeld => ?_); refine with_tabW spatelaw4_PaneTimes.tab14 spatelaw4_PaneTimes.bits14 (fun HT_ HW_ => ?_)
               generalize w65.drew = w66 at HO_7 BK274 HB hx298_0 hx300_0 hHeld ⊢
               refine pL 1 117 ba116 (v := ?_) (a' := ?_) rfl rfl (any_of HT_.out (by kernel_rfl)) (fun _ _ _ h => h) (Or.inl ⟨by rfl, ?_⟩) ?_ ?_
               rotate_left; · intro w'; go_simp; with_reducible rfl
               rotate_left; · simp only [Act.put, sq1, sq2, sq3, i64_w, i32_w]; rfl
               refine pL 2 118 ba117 (v := ?_) (a' := ?_) rfl rfl (any_of HT_.out (by kernel_rfl)) (fun _ _ _ h => h) (Or.inl ⟨by rfl, ?_⟩) ?_ ?_
               rotate_left; · intro w'; go_simp; with_reducible rfl
               rotate_left; · simp only [Act.put, sq1, sq2, sq3, i64_w, i32_w]; rfl
               refine pL 3 119 ba118 (v := ?_) (a' := ?_) rfl rfl (any_of HT_.out (by kernel_rfl)) (fun _ _ _ h => h) (Or.inl ⟨by rfl, ?_⟩) ?_ ?_
               rotate_left; · intro w'; go_simp; with_reducible rfl
               rotate_left; · simp only [Act.put, sq1, sq2, sq3, i64_w, i32_w]; rfl
               refine pL 4 120 ba119 (v := ?_) (a' := ?_) rfl rfl (any_of HT_.out (by kernel_rfl)) (fun _ _ _ h => h) (Or.inl ⟨by rfl, ?_⟩) ?_ ?_
               rotate_left; · intro w'; go_simp; with_reducible rfl
               rotate_left; · simp only [Act.put, sq1, sq2, sq3, i64_w, i32_w]; rfl
               refine pL 7 123 ba120 (v := ?_) (a' := ?_) rfl rfl (any_of HT_.out (by kernel_rfl)) (fun _ _ _ h => h) (Or.inl ⟨by rfl, ?_⟩) ?_ ?_
               rotate_left; · intro w'; go_simp; with_reducible rfl
               rotate_left; · simp only [Act.put, sq1, sq2, sq3, i64_w, i32_w]; rfl
               refine pL 8 124 ba121 (v := ?_) (a' := ?_) rfl rfl (any_of HT_.out (by kernel_rfl)) (fun _ _ _ h => h) (Or.inl ⟨by rfl, ?_⟩) ?_ ?_
               rotate_left; · intro w'; go_simp; with_reducible rfl
               rotate_left; · simp only [Act.put, sq1, sq2, sq3, i64_w, i32_w]; rfl
               refine pL 9 125 ba122 (v := ?_) (a' := ?_) rfl rfl (any_of HT_.out (by kernel_rfl)) (fun _ _ _ h => h) (Or.inl ⟨by rfl, ?_⟩) ?_ ?_
               rotate_left; · intro w'; go_simp; with_reducible rfl
               rotate_left; · simp only [Act.put, sq1, sq2, sq3, i64_w, i32_w]; rfl
               refine pL 10 126 ba123 (v := ?_) (a' := ?_) rfl rfl (any_of HT_.out (by kernel_rfl)) (fun _ _ _ h => h) (Or.inl ⟨by rfl, ?_⟩) ?_ ?_
               rotate_left; · intro w'; go_simp; with_reducible rfl
               rotate_left; · simp only [Act.put, sq1, sq2, sq3, i64_w, i32_w]; rfl
               refine take_ (i := 0) (N := some 116) (v := ?_) (a' := ?_) ba124 rfl rfl (take_ofW HT_.out HW_.out (by kernel_rfl)) (fun _ _ _ h => h) (Or.inl ⟨by rfl, ?_⟩) hHeld ?_ ?_
               rotate_left
               ·rintro w' ⟨s0, s1, s2, s3, s4⟩
                go_simp
                with_reducible rfl
               rotate_left; · simp only [Act.put, sq1, sq2, sq3, i64_w, i32_w]; rfl
               refine take_ (i := 5) (N := some 121) (v := ?_) (a' := ?_) ba125 rfl rfl (take_ofW HT_.out HW_.out (by kernel_rfl)) (fun _ _ _ h => h) (Or.inl ⟨by rfl, ?_⟩) hHeld ?_ ?_
               rotate_left
               ·rintro w' ⟨s0, s1, s2, s3, s4⟩
                go_simp
                with_reducible rfl
               rotate_left; · simp only [Act.put, sq1, sq2, sq3, i64_w, i32_w]; rfl
               refine take_ (i := 11) (N := some 127) (v := ?_) (a' := ?_) ba126 rfl rfl (take_ofW HT_.out HW_.out (by kernel_rfl)) (fun _ _ _ h => h) (Or.inl ⟨by rfl, ?_⟩) hHeld ?_ ?_
               rotate_left
               ·rintro w' ⟨s0, s1, s2, s3, s4⟩
                go_simp
                with_reducible rfl
               rotate_left; · simp only [Act.put, sq1, sq2, sq3, i64_w, i32_w]; rfl
               refine pL 12 128 ba127 (v := ?_) (a' := ?_) rfl rfl (any_of HT_.out (by kernel_rfl)) (fun _ _ _ h => h) (Or.inl ⟨by rfl, ?_⟩) ?_ ?_
               rotate_left; · intro w'; go_simp; with_reducible rfl
               rotate_left; · simp only [Act.put, sq1, sq2, sq3, i64_w, i32_w]; rfl
               refine one_ (i := 6) (N := some 122) ba128 rfl rfl (one_of HT_.out (by kernel_rfl)) (by decide) (fun K hK => ?_)
               refine goes_ Try.func22 (by kernel_rfl) rfl #[.agg #[.int .i64 a0_0, .int .i64 a0_1, .int .i64 a0_2], .int .i64 (wrap64 ((rd t278 x9_1) + (Int.tmod a2 (wrap64 (2 * a0_0))))), .int .i64 (rd t278 x9_1)] (by rfl) rfl rfl (by (try simp only [List.map_toArray, List.map_cons, List.map_nil]); first | done | rfl | (simp only [List.length_drop, List.length_take]; rfl)) ?_
               with_reducible refine (spatelaw4_has.calls kj16 a0_0 a0_1 a0_2 (wrap64 ((rd t278 x9_1) + (Int.tmod a2 (wrap64 (2 * a0_0))))) (rd t278 x9_1) t299 _ A52.out).mono ?_
               rintro e w67 ⟨rfl, hb⟩
               have HS3_ := (hb.cell (World.block_lt_of_cell? _ _ (hHeld.2.2.2.1))).trans (hHeld.2.2.2.1)
               have HS4_ := (hb.cell (World.block_lt_of_cell? _ _ (hHeld.2.2.2.2))).trans (hHeld.2.2.2.2)
               refine ⟨_, rfl, ?_⟩
               have n0_ := Aside0.mk (Kd.R_below (by (with_reducible repeat (first | apply Kd.R_alloc | apply Kd.R_drewN | apply Kd.R_drew)); exact HO_7.out) hb)
               have n1_ := Aside0.mk (blk_below (g := gb274) (o := .cells #[.int .i64 a0_0, .int .i64 a0_1, .int .i64 a0_2] 24 (0, 0)) (by (with_reducible repeat (first | refine blk_drewN ?_ _ | refine blk_drew ?_ | refine blk_alloc ?_ _)); exact BK274.out) hb)
               have n2_ := Aside0.mk (below_step (by repeat (first | (with_reducible first | exact HB.out | apply below_alloc | apply pw_below_drewN | apply below_drew1 | refine below_set ?_ GE274.out) | exact HB.out)) hb)
               clear HO_7
               clear BK274
               clear HB
               have HO_7 := n0_
               have BK274 := n1_
               have HB := n2_
               clear n0_ n1_ n2_
               (try clear hb)
               (try clear hb2)
               (try clear hk)
               (try clear hi)
               refine hK.out _ _ ⟨(blk_cell BK274.out 0).trans rfl, (blk_cell BK274.out 1).trans rfl, (blk_cell BK274.out 2).trans rfl, HS3_, HS4_⟩ (fun hHeld => ?_)
               clear hK K
               refine norm_ (a' := ?_) ?_ ?_
               rotate_left
               ·show Act.put _ (some 122) _ = _
                simp only [Act.put, sq1, sq2, sq3, i64_w, i32_w]
                rfl
               refine pL 13 129 ba129 (v := ?_) (a' := ?_) rfl rfl (any_of HT_.out (by kernel_rfl)) (fun _ _ _ h => h) (Or.inl ⟨by rfl, ?_⟩) ?_ ?_
               rotate_left; · intro w'; go_simp; with_reducible rfl
               rotate_left; · simp only [Act.put, sq1, sq2, sq3, i64_w, i32_w]; rfl
               refine pR 14 130 ba130 (a' := ?_) rfl rfl (any_of HT_.out (by kernel_rfl)) (fun _ _ _ h => h) (Or.inr ⟨by rfl, rfl⟩) ?_ ?_
               rotate_left; · simp only [Act.put, sq1, sq2, sq3, i64_w, i32_w]; rfl
               refine pR 15 131 ba131 (a' := ?_) rfl rfl (any_of HT_.out (by kernel_rfl)) (fun _ _ _ h => h) (Or.inr ⟨by rfl, rfl⟩) ?_ ?_
               rotate_left; · simp only [Act.put, sq1, sq2, sq3, i64_w, i32_w]; rfl
               refine pR 16 132 ba132 (a' := ?_) rfl rfl (any_of HT_.out (by kernel_rfl)) (fun _ _ _ h => h) (Or.inr ⟨by rfl, rfl⟩) ?_ ?_
               rotate_left; · simp only [Act.put, sq1, sq2, sq3, i64_w, i32_w]; rfl
               refine pL 17 133 ba133 (v := ?_) (a' := ?_) rfl rfl (any_of HT_.out (by kernel_rfl)) (fun _ _ _ h => h) (Or.inl ⟨by rfl, ?_⟩) ?_ ?_
               rotate_left; · intro w'; go_simp; with_reducible rfl
               rotate_left; · simp only [Act.put, sq1, sq2, sq3, i64_w, i32_w]; rfl
               refine pL 18 134 ba134 (v := ?_) (a' := ?_) rfl rfl (any_of HT_.out (by kernel_rfl)) (fun _ _ _ h => h) (Or.inl ⟨by rfl, ?_⟩) ?_ ?_
               rotate_left; · intro w'; go_simp; with_reducible rfl
               rotate_left; · simp only [Act.put, sq1, sq2, sq3, i64_w, i32_w]; rfl
               refine done_ (done_of HT_.out (by kernel_rfl)) ?_
               try go_wp2
               go_roundg kj16
               case measure => have := HK1.out; have := HJ16.out; omega
               case rel => exact ⟨(wrap64 (x9_1 + 1)), (by first | rfl | (simp; done) | (simp [*]; done)), H', ⟨by have := HK1.out; have := HJ16.out; omega⟩, ⟨by (with_reducible repeat (first | apply Kd.R_alloc | apply Kd.R_drewN | apply Kd.R_drew)); exact HO_7.out⟩, ⟨by (with_reducible repeat (first | refine blk_drewN ?_ _ | refine blk_drew ?_ | refine blk_alloc ?_ _)); exact BK274.out⟩, ⟨by repeat (first | (with_reducible first | exact HB.out | apply below_alloc | apply pw_below_drewN | apply below_drew1 | refine below_set ?_ GE274.out) | exact HB.out)⟩⟩
           ·rw [if_neg c50] at H
            exact absurd H (by simp)
          ·rw [if_neg c49] at H
           exact absurd H (by simp)
      ·rw [if_neg c15] at H
       exact absurd H (by simp)
     ·rw [if_neg c14] at H
      have c14b0 : decide (x9_1 < (t278.length : Int)) = false := decide_eq_false c14
      clear c14
      replace H := Option.bind_eq_some_iff.mp H
      obtain ⟨t282, A680, H⟩ := H
      replace H : (some t282) = some r := H
      have A68 := Aside0.mk A680
      clear A680
      obtain rfl := Option.some.inj H
      obtain ⟨Ao69, co69, eo69⟩ := Kd.R_slice HO_7.out
      subst eo69
      go_wp2_with (first | ((with_reducible refine gate_callee (f := 13) rfl ?_); refine goesL_ (some 135) rfl rfl Try.func13 (by kernel_rfl) rfl #[] rfl (by (try simp only [List.map_toArray, List.map_cons, List.map_nil]); first | done | rfl | (simp only [List.length_drop, List.length_take]; rfl)) ?_; (with_reducible refine (spatelaw4_head.calls k1  t282 _ A68.out).mono ?_); rintro e w70 ⟨rfl, hb⟩; refine ⟨_, rfl, ?_⟩; have n0_ := Aside0.mk (Kd.R_below (by (with_reducible repeat (first | apply Kd.R_alloc | apply Kd.R_drewN | apply Kd.R_drew)); exact HO_7.out) hb); have n1_ := Aside0.mk (blk_below (g := gb274) (o := .cells #[.int .i64 a0_0, .int .i64 a0_1, .int .i64 a0_2] 24 (0, 0)) (by (with_reducible repeat (first | refine blk_drewN ?_ _ | refine blk_drew ?_ | refine blk_alloc ?_ _)); exact BK274.out) hb); have n2_ := Aside0.mk (below_step (by repeat (first | (with_reducible first | exact HB.out | apply below_alloc | apply pw_below_drewN | apply below_drew1 | refine below_set ?_ GE274.out) | exact HB.out)) hb); clear HO_7; clear BK274; clear HB; have HO_7 := n0_; have BK274 := n1_; have HB := n2_; clear n0_ n1_ n2_; (try clear hb); (try clear hb2); (try clear hk); (try clear hi)))
      go_ret
      exact ⟨by first | rfl | (simp [errW_none, errW_some] <;> rfl) | (simp [*, errW_none, errW_some] <;> rfl), by repeat (first | (with_reducible first | exact HB.out | apply below_alloc | apply pw_below_drewN | apply below_drew1 | refine below_set ?_ GE274.out) | exact HB.out)⟩
  ·rw [if_neg c8] at H
   have c8b0 : (t281 == 0) = false := beq_eq_false_iff_ne.mpr c8
   have c8b1 : (t281 != 0) = true := bne_iff_ne.mpr c8
   obtain rfl := Option.some.inj H
   go_enter Try.func7, Try.ntmps7
   go_wp2_with (first | ((with_reducible refine gate_dst (N := 3) rfl ?_); refine box_event ?hg (N := 3) ?hd (cs := #[.int .i64 a0_0, .int .i64 a0_1, .int .i64 a0_2]) (t := 24) ?hr ?_; (case hd => rfl); (case hg => rfl); (case hr => first | (go_simp; done) | (go_simp; rfl)); intro gb274 hg w71 hbox hb; have n0_ := Aside0.mk (below_step (by repeat (first | (with_reducible first | exact HB.out | apply below_alloc | apply pw_below_drewN | apply below_drew1) | exact HB.out)) hb); have n1_ := Aside0.mk (hbox); have n2_ := Aside0.mk ((by rw [hg]; exact (below_size (by repeat (first | (with_reducible first | exact HB.out | apply below_alloc | apply pw_below_drewN | apply below_drew1) | exact HB.out))) : w.heap.size ≤ gb274)); have n3_ := Aside0.mk ((by rw [hg]; exact (below_size (by repeat (first | (with_reducible first | exact HB.out | apply below_alloc | apply pw_below_drewN | apply below_drew1) | exact HB.out))) : w.heap.size ≤ gb274)); clear HB; have HB := n0_; have BK274 := n1_; have GW274 := n2_; have GE274 := n3_; clear n0_ n1_ n2_ n3_; clear hb hbox hg; have hcz72_0 : w71.cell? ⟨gb274, 0, none⟩ = some (.int .i64 a0_0) := (blk_cell BK274.out 0).trans rfl; have hcz72_1 : w71.cell? ⟨gb274, 1, none⟩ = some (.int .i64 a0_1) := (blk_cell BK274.out 1).trans rfl; have hcz72_2 : w71.cell? ⟨gb274, 2, none⟩ = some (.int .i64 a0_2) := (blk_cell BK274.out 2).trans rfl; have hfz72_0 := blk_frozen BK274.out 0; have hfz72_1 := blk_frozen BK274.out 1; have hfz72_2 := blk_frozen BK274.out 2) | ((with_reducible refine gate_callee (f := 19) rfl ?_); refine goesL_ (some 13) rfl rfl Try.func19 (by kernel_rfl) rfl #[.agg #[.int .i64 a0_0, .int .i64 a0_1, .int .i64 a0_2]] rfl (by (try simp only [List.map_toArray, List.map_cons, List.map_nil]); first | done | rfl | (simp only [List.length_drop, List.length_take]; rfl)) ?_; (with_reducible refine (spatelaw4_right.calls a0_0 a0_1 a0_2 true _ A4.out).mono ?_); rintro e w73 ⟨rfl, hb⟩; refine ⟨_, rfl, ?_⟩; have n0_ := Aside0.mk (blk_below (g := gb274) (o := .cells #[.int .i64 a0_0, .int .i64 a0_1, .int .i64 a0_2] 24 (0, 0)) (by (with_reducible repeat (first | refine blk_drewN ?_ _ | refine blk_drew ?_ | refine blk_alloc ?_ _)); exact BK274.out) hb); have n1_ := Aside0.mk (below_step (by repeat (first | (with_reducible first | exact HB.out | apply below_alloc | apply pw_below_drewN | apply below_drew1 | refine below_set ?_ GE274.out) | exact HB.out)) hb); clear BK274; clear HB; have BK274 := n0_; have HB := n1_; clear n0_ n1_; (try clear hb); (try clear hb2); (try clear hk); (try clear hi)) | ((with_reducible refine gate_callee (f := 20) rfl ?_); refine goesL_ (some 17) rfl rfl Try.func20 (by kernel_rfl) rfl #[.int .i64 a1] rfl (by (try simp only [List.map_toArray, List.map_cons, List.map_nil]); first | done | rfl | (simp only [List.length_drop, List.length_take]; rfl)) ?_; (with_reducible refine (spatelaw4_within.calls a1 t277 _ A6.out).mono ?_); rintro e w' ⟨rfl, ⟨nd, rfl⟩⟩; refine ⟨_, rfl, ?_⟩; have hcz74_0 : w73.cell? ⟨gb274, 0, none⟩ = some (.int .i64 a0_0) := (blk_cell BK274.out 0).trans rfl; have hcz74_1 : w73.cell? ⟨gb274, 1, none⟩ = some (.int .i64 a0_1) := (blk_cell BK274.out 1).trans rfl; have hcz74_2 : w73.cell? ⟨gb274, 2, none⟩ = some (.int .i64 a0_2) := (blk_cell BK274.out 2).trans rfl; have hfz74_0 := blk_frozen BK274.out 0; have hfz74_1 := blk_frozen BK274.out 1; have hfz74_2 := blk_frozen BK274.out 2) | ((with_reducible refine gate_callee (f := 16) rfl ?_); refine goesL_ (some 21) rfl rfl Try.func16 (by kernel_rfl) rfl #[.agg #[.int .i64 a0_0, .int .i64 a0_1, .int .i64 a0_2], .int .i64 t277] rfl (by (try simp only [List.map_toArray, List.map_cons, List.map_nil]); first | done | rfl | (simp only [List.length_drop, List.length_take]; rfl)) ?_; (with_reducible refine (pane_Starts.calls k a0_0 a0_1 a0_2 t277 t278 t281 _ A7.out).mono ?_); rintro e w75 ⟨v279, rfl, ho0, hb⟩; refine ⟨_, rfl, ?_⟩; have n0_ := Aside0.mk (Kd.R_lower ho0 (below_size (by repeat (first | (with_reducible first | exact HB.out | apply below_alloc | apply pw_below_drewN | apply below_drew1 | refine below_set ?_ GE274.out) | exact HB.out)))); have n1_ := Aside0.mk (blk_below (g := gb274) (o := .cells #[.int .i64 a0_0, .int .i64 a0_1, .int .i64 a0_2] 24 (0, 0)) (by (with_reducible repeat (first | refine blk_drewN ?_ _ | refine blk_drew ?_ | refine blk_alloc ?_ _)); exact BK274.out) hb); have n2_ := Aside0.mk (below_step (by repeat (first | (with_reducible first | exact HB.out | apply below_alloc | apply pw_below_drewN | apply below_drew1 | refine below_set ?_ GE274.out) | exact HB.out)) hb); clear BK274; clear HB; have HO280 := n0_; have BK274 := n1_; have HB := n2_; clear n0_ n1_ n2_; (try clear hb); (try clear hb2); (try clear hk); (try clear hi); (try clear ho0)))
   go_ret
   exact ⟨by first | rfl | (simp [errW_none, errW_some] <;> rfl) | (simp [*, errW_none, errW_some] <;> rfl), by repeat (first | (with_reducible first | exact HB.out | apply below_alloc | apply pw_below_drewN | apply below_drew1 | refine below_set ?_ GE274.out) | exact HB.out)⟩
 ·replace c5 := Bool.eq_false_iff.mpr c5
  subst c5
  have H1 : ((spatelaw4_head.f k).bind fun t276 => (some t276)) = some r := by rw [if_neg (show ¬ (false = true) by decide)] at H; exact H
  clear H
  have H := H1
  clear H1
  replace H := Option.bind_eq_some_iff.mp H
  obtain ⟨t276, A760, H⟩ := H
  replace H : (some t276) = some r := H
  have A76 := Aside0.mk A760
  clear A760
  obtain rfl := Option.some.inj H
  go_enter Try.func7, Try.ntmps7
  go_wp2_with (first | ((with_reducible refine gate_dst (N := 3) rfl ?_); refine box_event ?hg (N := 3) ?hd (cs := #[.int .i64 a0_0, .int .i64 a0_1, .int .i64 a0_2]) (t := 24) ?hr ?_; (case hd => rfl); (case hg => rfl); (case hr => first | (go_simp; done) | (go_simp; rfl)); intro gb274 hg w77 hbox hb; have n0_ := Aside0.mk (below_step (by repeat (first | (with_reducible first | exact HB.out | apply below_alloc | apply pw_below_drewN | apply below_drew1) | exact HB.out)) hb); have n1_ := Aside0.mk (hbox); have n2_ := Aside0.mk ((by rw [hg]; exact (below_size (by repeat (first | (with_reducible first | exact HB.out | apply below_alloc | apply pw_below_drewN | apply below_drew1) | exact HB.out))) : w.heap.size ≤ gb274)); have n3_ := Aside0.mk ((by rw [hg]; exact (below_size (by repeat (first | (with_reducible first | exact HB.out | apply below_alloc | apply pw_below_drewN | apply below_drew1) | exact HB.out))) : w.heap.size ≤ gb274)); clear HB; have HB := n0_; have BK274 := n1_; have GW274 := n2_; have GE274 := n3_; clear n0_ n1_ n2_ n3_; clear hb hbox hg; have hcz78_0 : w77.cell? ⟨gb274, 0, none⟩ = some (.int .i64 a0_0) := (blk_cell BK274.out 0).trans rfl; have hcz78_1 : w77.cell? ⟨gb274, 1, none⟩ = some (.int .i64 a0_1) := (blk_cell BK274.out 1).trans rfl; have hcz78_2 : w77.cell? ⟨gb274, 2, none⟩ = some (.int .i64 a0_2) := (blk_cell BK274.out 2).trans rfl; have hfz78_0 := blk_frozen BK274.out 0; have hfz78_1 := blk_frozen BK274.out 1; have hfz78_2 := blk_frozen BK274.out 2) | ((with_reducible refine gate_callee (f := 19) rfl ?_); refine goesL_ (some 13) rfl rfl Try.func19 (by kernel_rfl) rfl #[.agg #[.int .i64 a0_0, .int .i64 a0_1, .int .i64 a0_2]] rfl (by (try simp only [List.map_toArray, List.map_cons, List.map_nil]); first | done | rfl | (simp only [List.length_drop, List.length_take]; rfl)) ?_; (with_reducible refine (spatelaw4_right.calls a0_0 a0_1 a0_2 false _ A4.out).mono ?_); rintro e w79 ⟨rfl, hb⟩; refine ⟨_, rfl, ?_⟩; have n0_ := Aside0.mk (blk_below (g := gb274) (o := .cells #[.int .i64 a0_0, .int .i64 a0_1, .int .i64 a0_2] 24 (0, 0)) (by (with_reducible repeat (first | refine blk_drewN ?_ _ | refine blk_drew ?_ | refine blk_alloc ?_ _)); exact BK274.out) hb); have n1_ := Aside0.mk (below_step (by repeat (first | (with_reducible first | exact HB.out | apply below_alloc | apply pw_below_drewN | apply below_drew1 | refine below_set ?_ GE274.out) | exact HB.out)) hb); clear BK274; clear HB; have BK274 := n0_; have HB := n1_; clear n0_ n1_; (try clear hb); (try clear hb2); (try clear hk); (try clear hi)) | ((with_reducible refine gate_callee (f := 13) rfl ?_); refine goesL_ (some 15) rfl rfl Try.func13 (by kernel_rfl) rfl #[] rfl (by (try simp only [List.map_toArray, List.map_cons, List.map_nil]); first | done | rfl | (simp only [List.length_drop, List.length_take]; rfl)) ?_; (with_reducible refine (spatelaw4_head.calls k  t276 _ A76.out).mono ?_); rintro e w80 ⟨rfl, hb⟩; refine ⟨_, rfl, ?_⟩; have n0_ := Aside0.mk (blk_below (g := gb274) (o := .cells #[.int .i64 a0_0, .int .i64 a0_1, .int .i64 a0_2] 24 (0, 0)) (by (with_reducible repeat (first | refine blk_drewN ?_ _ | refine blk_drew ?_ | refine blk_alloc ?_ _)); exact BK274.out) hb); have n1_ := Aside0.mk (below_step (by repeat (first | (with_reducible first | exact HB.out | apply below_alloc | apply pw_below_drewN | apply below_drew1 | refine below_set ?_ GE274.out) | exact HB.out)) hb); clear BK274; clear HB; have BK274 := n0_; have HB := n1_; clear n0_ n1_; (try clear hb); (try clear hb2); (try clear hk); (try clear hi)))
  go_ret
  exact ⟨by first | rfl | (simp [errW_none, errW_some] <;> rfl) | (simp [*, errW_none, errW_some] <;> rfl), by repeat (first | (with_reducible first | exact HB.out | apply below_alloc | apply pw_below_drewN | apply below_drew1 | refine below_set ?_ GE274.out) | exact HB.out)⟩

end Go.Proofs.Ytnceikookipdnaa.PAll2
