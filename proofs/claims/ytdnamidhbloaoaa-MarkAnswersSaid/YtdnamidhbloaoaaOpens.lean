/-
  The call of the law MarkOpens.
-/
import Derived.Test.YtdnamidhbloaoaaOrder
import Derived.Test.YtdnamidhbloaoaaLend
set_option linter.unusedVariables false
namespace Go.Proofs.Ytdnamidhbloaoaa.Mark
open Go.RowKit Go.Proofs.Ytdnamidhbloaoaa.K
attribute [local go_sem ↓] Go.wp_at_zero Go.wp_at_succ

theorem lent_views {w : World} {B g nv c : Nat} {f : Nat → Nat → Int} (hown : w.ownsRow B 58 3 (.slice (some ⟨g, 0, none⟩) (nv + 1) c) (nv + 1) (lent f nv)) : Views w (some ⟨g, 0, none⟩) nv f := by
  have hcs := hown.cells (g := g) rfl
  refine ⟨fun hn => ⟨g, 0, rfl, ?_, fun i hi => ?_⟩⟩
  · exact (hown.lt g rfl).2
  · obtain ⟨v0, v1, v2⟩ := viewVs_at f nv i hi [.int .i64 (-77), .int .i64 0, .int .i64 0]
    have a0 := hcs _ _ v0
    have a1 := hcs _ _ v1
    have a2 := hcs _ _ v2
    rw [add_plain, Nat.zero_add] at a0 a1 a2
    rw [Nat.zero_add]
    exact ⟨a0, a1, a2⟩

set_option maxRecDepth 100000 in
set_option maxHeartbeats 1600000 in
theorem opens_good (w : World) (n : Nat) (hn1 : 1 ≤ n) (hn8 : n ≤ 8) (A : Option Addr) (nl cl : Nat) (f : Nat → Nat → Int) (hA : Flat w 2 A nl f) (hnl : nl ≤ 140737488351232)
    (V : Option Addr) (nv cv : Nat) (vf : Nat → Nat → Int) (hV : Views w V nv vf) (hcv : nv ≤ cv) (hnil : V = none → nv = 0 ∧ cv = 0) (h100 : nv ≤ 100)
    (T : Option Addr) (nt ct : Nat) (tf : Nat → Int) (hT : Flat1 w T nt tf) (hnt : nt ≤ 140737488351232) :
    Calls Try.prog 6 #[.int .i64 n, .slice A nl cl, .slice V nv cv, .slice T nt ct] w fun e w' => e = .returned (.bool true) ∧ Below w.heap.size w w' := by
  have hend : ∀ W, Below w.heap.size w W → Calls Try.prog 19 #[] W fun e w' => e = .returned (.bool true) ∧ Below w.heap.size w w' := fun W h => (head_any W).mono fun _ _ ⟨he, hb⟩ => ⟨he, Below.then_ h h.size hb⟩
  have Hend := Lib.hid hend
  clear hend
  go_enter Try.func6, Try.ntmps6
  go_wp2_with fail
  refine (new_good n _ hn1 hn8).mono ?_
  rintro e w1 ⟨g, b, rfl, hM, hb1, hg, hbb⟩
  go_wp2_with fail
  refine (rnew_good n _ hn1 hn8).mono ?_
  rintro e w2 ⟨g', b', cap, rfl, hR, hb2, hg', hbb'⟩
  have hB : Both w w2 g b g' b' cap n (List.replicate n (-4611686018427387904)) := by
    have l1 := hM.str.lt
    have l2 := hM.row.lt
    have s1 := hb1.size
    exact ⟨hM.only (Only.of_below (fs := []) hb2) (by simp) (by simp), hR, by simp, hg, hbb, by omega, by omega, by omega, by omega, by omega, Below.then_ hb1 hb1.size hb2⟩
  clear hM hR hb1 hb2 hg hbb hg' hbb'
  go_wp2_with fail
  go_loopw [13] (fun i wr => ∃ (k : Nat) (L : List Int), k ≤ nl ∧ i = .int .i64 k ∧ Both w wr g b g' b' cap n L) (fun i _ => nl - (intOf i).toNat)
  case atStart => exact ⟨0, _, Nat.zero_le _, rfl, hB⟩
  case round =>
    clear hB
    obtain ⟨k, L, hk, rfl, hB⟩ := hrel
    by_cases hlt : k < nl ∧ k < 50
    · obtain ⟨hlt, h300⟩ := hlt
      obtain ⟨ba, oa, rfl, hba, hca⟩ := hA.at_ (by omega)
      have e0 := hca k hlt 0 (by omega)
      have e1 := hca k hlt 1 (by omega)
      rw [Nat.add_zero] at e0
      rw [← Nat.add_assoc] at e1
      clear hca
      have d0 := (hB.bel.cell (p := ⟨ba, oa + k * 2, none⟩) hba).trans e0
      have d1 := (hB.bel.cell (p := ⟨ba, oa + k * 2 + 1, none⟩) hba).trans e1
      have i0 : (0 : Int) ≤ (k : Int) := by omega
      have i1 : (k : Int) < (nl : Int) := by omega
      have hL1 : 1 ≤ L.length := by have := hB.len; omega
      have hL2 : L.length ≤ 1000000 := by have := hB.len; omega
      go_wp2_with fail
      go_region_held3 (fun w' => w'.cell? ⟨ba, oa + k * 2, none⟩ = some (.int .i64 (f k 0)) ∧ w'.cell? ⟨ba, oa + k * 2 + 1, none⟩ = some (.int .i64 (f k 1))) (first | go_keep | exact keep2 hba hB.bel.size hB.b0 ‹Only [b] wr.drew _› d0 d1)
        ((go_at_call 13; refine (rise_any wr.drew g b L (f k 0) (f k 1) ⟨hB.m.str, hB.m.row⟩ hL1 hL2).mono ?_; rintro e w3 ⟨rfl, hM3, ho3⟩))
      have hR3 : RMarks w3 g' b' cap L := (RMarks.mk (w := wr.drew) hB.r.str hB.r.row).only ho3 (by simpa using fun e => hB.n1 e.symm) (by simpa using fun e => hB.n2 e.symm)
      have hbel3 : Below w.heap.size w w3 := Below.only_ (w := wr.drew) hB.bel.drew ho3 hB.bel.size (by simpa using hB.b0)
      have d0' := (hbel3.cell (p := ⟨ba, oa + k * 2, none⟩) hba).trans e0
      have d1' := (hbel3.cell (p := ⟨ba, oa + k * 2 + 1, none⟩) hba).trans e1
      clear d0 d1
      go_wp2_with fail
      go_region_held3 (fun w' => w'.cell? ⟨ba, oa + k * 2, none⟩ = some (.int .i64 (f k 0)) ∧ w'.cell? ⟨ba, oa + k * 2 + 1, none⟩ = some (.int .i64 (f k 1))) (first | go_keep | exact keep2 hba hbel3.size hB.b1 ‹Only [b'] w3.drew _› d0' d1')
        ((go_at_call 14; refine (rrise_any w3.drew g' b' cap L (f k 0) (f k 1) ⟨hR3.str, hR3.row⟩ hL1 hL2).mono ?_; rintro e w4 ⟨rfl, hR4, ho4⟩))
      have hM4 : Marks w4 g b (riseL L (f k 0) (f k 1)) := (Marks.mk (w := w3.drew) hM3.str hM3.row).only ho4 (by simpa using hB.n3) (by simpa using hB.n2)
      have hbel4 : Below w.heap.size w w4 := Below.only_ (w := w3.drew) hbel3.drew ho4 hbel3.size (by simpa using hB.b1)
      have hlen : (riseL L (f k 0) (f k 1)).length = n := by rw [riseL_length]; exact hB.len
      have hB4 : Both w w4 g b g' b' cap n (riseL L (f k 0) (f k 1)) := ⟨hM4, hR4, hlen, hB.g0, hB.b0, hB.g1, hB.b1, hB.n1, hB.n2, hB.n3, hbel4⟩
      clear hM4 hR4 hbel4 hbel3 hM3 hR3 ho3 ho4 hB d0' d1' hlen e0 e1
      generalize riseB L (f k 0) (f k 1) = rb
      generalize riseE L (f k 0) (f k 1) = re
      generalize riseL L (f k 0) (f k 1) = L' at hB4
      go_wp2
      go_roundw
      case rel => exact ⟨k + 1, L', by omega, by go_num, hB4⟩
      case measure => simp [intOf]; omega
    · have hL1 : 1 ≤ L.length := by have := hB.len; omega
      have hL2 : L.length ≤ 1000000 := by have := hB.len; omega
      have hcase : (nl : Int) ≤ (k : Int) ∨ ((k : Int) < (nl : Int) ∧ (50 : Int) ≤ (k : Int)) := by omega
      have hVo := hV.below (B := w.heap.size) hB.bel
      have hbel := hB.bel
      have hM := hB.m
      have hR := hB.r
      generalize wr = wo at *
      have hwo : w.heap.size ≤ wo.heap.size := hbel.size
      have hmain : ∀ (dummy : Unit), True := fun _ => trivial
      rcases hcase with hc1 | ⟨hc1, hc2⟩
      all_goals
        go_wp2_with fail
        go_loopw [14] (fun i wz => ∃ y : Nat, y ≤ nt ∧ i = .int .i64 y ∧ Below wo.heap.size wo wz) (fun i _ => nt - (intOf i).toNat)
        case atStart => exact ⟨0, Nat.zero_le _, rfl, Below.refl _ _⟩
        case round =>
          obtain ⟨y, hy, rfl, hbz⟩ := hrel
          by_cases hlt : y < nt ∧ y < 30
          · obtain ⟨hlt, h20⟩ := hlt
            obtain ⟨bt, ot, rfl, hbt, hct⟩ := hT.at_ (by omega)
            have et := hct y hlt
            clear hct
            have dt := (hbz.cell (p := ⟨bt, ot + y, none⟩) (show bt < _ by omega)).trans ((hbel.cell (p := ⟨bt, ot + y, none⟩) hbt).trans et)
            have j0 : (0 : Int) ≤ (y : Int) := by omega
            have j1 : (y : Int) < (nt : Int) := by omega
            have hVz := hVo.below (B := wo.heap.size) hbz
            go_wp2_with fail
            refine (lend_any _ V nv cv vf hVz hnil (by omega)).mono ?_
            rintro e w3 ⟨gl, rfl, hol, hb3⟩
            have hbz3 := Below.then_ hbz hbz.size hb3
            have dt3 := (hb3.cell (p := ⟨bt, ot + y, none⟩) (show bt < _ by have := hbz.size; omega)).trans dt
            have hM3 := hM.only (Only.of_below (fs := []) hbz3) (by simp) (by simp)
            have hVl := lent_views hol
            clear dt hb3 hbz hVz
            go_wp2_with fail
            refine (mopen_any _ g b L hM3 hL1 hL2 (tf y) (some ⟨gl, 0, none⟩) nv (nv + 3) vf hVl (by omega)).mono ?_
            rintro e w4 ⟨va, rfl, hoa, hb4⟩
            have hb4' := Below.then_ hbz3 hbz3.size hb4
            have dt4 := (hb4.cell (p := ⟨bt, ot + y, none⟩) (show bt < _ by have := hbz3.size; omega)).trans dt3
            have hR4 := hR.only (Only.of_below (fs := []) hb4') (by simp) (by simp)
            have hol4 := own_below hol hb4
            clear hb4 dt3 hM3 hVl hol
            obtain ⟨Aa, ca, rfl⟩ := own_slice hoa
            go_wp2_with fail
            refine (ropen_any _ g' b' cap L hR4 hL1 hL2 (tf y) V nv cv hcv vf (hVo.below (B := wo.heap.size) hb4') (by omega)).mono ?_
            rintro e w5 ⟨vb, rfl, hob, hb5⟩
            have hoa5 := own_below hoa hb5
            have hol5 := own_below hol4 hb5
            have hb5' := Below.then_ hb4' hb4'.size hb5
            have hlenC := Lib.hid (oC_le (f := vf) (t := tf y) (m := least L) (n := nv))
            clear hb5 hoa dt4 hR4 hb4' hol4
            obtain ⟨Ab, cb, rfl⟩ := own_slice hob
            generalize oL vf (tf y) (least L) nv = bl
            generalize oE vf (tf y) nv = be
            generalize oC vf (tf y) (least L) nv = lc at *
            go_wp2_with fail
            refine (same_any _ _ _ _ _ lc _ rfl (by have := hlenC.out; omega) hoa5 hob).mono ?_
            rintro e w6 ⟨rfl, hb6⟩
            have hb6' := Below.then_ hb5' hb5'.size hb6
            have hol6 := own_below hol5 hb6
            clear hb6 hb5' hoa5 hob hol5
            go_wp2_with fail
            refine (kept_any _ _ gl V nv cv vf (hVo.below (B := wo.heap.size) hb6') (by omega) hol6).mono ?_
            rintro e w7 ⟨rfl, hb7⟩
            have hb7' := Below.then_ hb6' hb6'.size hb7
            clear hb7 hb6' hol6
            go_wp2
            go_roundw
            case rel => exact ⟨y + 1, by omega, by go_num, hb7'⟩
            case measure => simp [intOf]; omega
          · have hbe := Below.then_ hbel hbel.size hbz
            by_cases h1 : y < nt
            · have h3 : ¬ y < 30 := fun h => hlt ⟨h1, h⟩
              have h4 : (30 : Int) ≤ (y : Int) := by omega
              go_wp2_with fail
              refine (Hend.out _ hbe).mono ?_
              rintro e w5 ⟨rfl, hb5⟩
              go_wp2
              go_ret
              exact ⟨rfl, hb5⟩
            · go_wp2_with fail
              refine (Hend.out _ hbe).mono ?_
              rintro e w5 ⟨rfl, hb5⟩
              go_wp2
              go_ret
              exact ⟨rfl, hb5⟩

set_option maxRecDepth 100000 in
theorem opens_bad (w : World) (n : Int) (hn : n < 1 ∨ 8 < n) (A : Option Addr) (nl cl : Nat) (hnl : nl ≤ 140737488351232) (V : Option Addr) (nv cv : Nat) (h100 : nv ≤ 100) (T : Option Addr) (nt ct : Nat) (hnt : nt ≤ 140737488351232) :
    Calls Try.prog 6 #[.int .i64 n, .slice A nl cl, .slice V nv cv, .slice T nt ct] w fun e w' => e = .returned (.bool true) ∧ Below w.heap.size w w' := by
  go_enter Try.func6, Try.ntmps6
  go_wp2_with fail
  refine (new_bad n _ hn).mono ?_
  rintro e w1 ⟨rfl, rfl⟩
  go_wp2_with fail
  refine (rnew_bad n _ hn).mono ?_
  rintro e w2 ⟨rfl, rfl⟩
  go_wp2_with fail
  by_cases h0 : 0 < nl
  all_goals
    by_cases h1 : 0 < nt
    all_goals
      have hd0 : decide ((0 : Int) < (nl : Int)) = decide (0 < nl) := by simp
      have hd1 : decide ((0 : Int) < (nt : Int)) = decide (0 < nt) := by simp
      simp only [h0, h1, decide_true, decide_false] at hd0 hd1
      refine wp_loop_rounds 1 ?_
      rw [rounds_succ]
      go_wp2_with fail
      refine wp_loop_rounds 1 ?_
      rw [rounds_succ]
      go_wp2_with fail
      refine (head_any _).mono ?_
      rintro e w5 ⟨rfl, hb5⟩
      go_wp2
      go_ret
      exact ⟨rfl, hb5⟩

theorem opens_walk (w : World) (s : Int) (ws : (Lit.int .i64 s).wf = true) (v1 : Value) (o1 : ∃ (A : Option Addr) (n c : Nat) (f : Nat → Nat → Int), v1 = .slice A n c ∧ n ≤ c ∧ Flat w 2 A n f ∧ n * 16 ≤ 140737488351232)
    (v2 : Value) (o2 : ∃ (A : Option Addr) (n c : Nat) (f : Nat → Nat → Int), v2 = .slice A n c ∧ n ≤ c ∧ Flat w 3 A n f ∧ n * 24 ≤ 140737488351232 ∧ (A = none → n = 0 ∧ c = 0))
    (v3 : Value) (o3 : ∃ (A : Option Addr) (n c : Nat) (f : Nat → Int), v3 = .slice A n c ∧ n ≤ c ∧ Flat1 w A n f ∧ n * 8 ≤ 140737488351232) :
    Calls Try.prog 6 #[.int .i64 s, v1, v2, v3] w fun e w' => e = .returned (.bool true) ∧ Below w.heap.size w w' := by
  obtain ⟨A, nl, cl, f, rfl, hc, hA, hnl⟩ := o1
  obtain ⟨V, nv, cv, vf, rfl, hcv, hVF, hnv, hnil⟩ := o2
  obtain ⟨T, nt, ct, tf, rfl, hct, hT, hnt⟩ := o3
  by_cases h100 : nv ≤ 100
  · by_cases h : 1 ≤ s ∧ s ≤ 8
    · obtain ⟨m, rfl⟩ := Int.eq_ofNat_of_zero_le (show 0 ≤ s by omega)
      exact opens_good w m (by omega) (by omega) A nl cl f hA (by omega) V nv cv vf (Views.of_flat hVF) hcv hnil h100 T nt ct tf hT (by omega)
    · exact opens_bad w s (by omega) A nl cl (by omega) V nv cv h100 T nt ct (by omega)
  · have h1 : 100 < nv := by omega
    go_enter Try.func6, Try.ntmps6
    go_wp2_with fail
    refine (head_any _).mono ?_
    rintro e w5 ⟨rfl, hb5⟩
    go_wp2
    go_ret
    exact ⟨rfl, hb5⟩
end Go.Proofs.Ytdnamidhbloaoaa.Mark
