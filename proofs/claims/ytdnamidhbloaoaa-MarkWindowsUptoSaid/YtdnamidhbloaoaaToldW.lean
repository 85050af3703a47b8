/-
  told: are these the open windows of a time?
-/
import Derived.Test.YtdnamidhbloaoaaAmong
set_option linter.unusedVariables false
set_option linter.unusedSimpArgs false
namespace Go.Proofs.Ytdnamidhbloaoaa.Mark
open Go.RowKit Go.Proofs.Ytdnamidhbloaoaa.K Go.Proofs.Ytdnamidhbloaoaa.Math2
attribute [local go_sem ↓] Go.wp_at_zero Go.wp_at_succ

theorem cellsOf_pre (f : Nat → Nat → Int) (t m : Int) (n k : Nat) (h : k ≤ n) : ∃ tl, cellsOf f t m n = cellsOf f t m k ++ tl := by
  induction n with
  | zero => obtain rfl : k = 0 := by omega
            exact ⟨[], by simp⟩
  | succ n ih =>
    by_cases hk : k = n + 1
    · subst hk; exact ⟨[], by simp⟩
    · obtain ⟨tl, e⟩ := ih (by omega)
      exact ⟨tl ++ (opens f t m n).map (fun a => (n, a)), by rw [cellsOf_succ, e, List.append_assoc]⟩
theorem cellsOf_get (f : Nat → Nat → Int) (t m : Int) (n k j : Nat) (h : k < n) (hj : j < (opens f t m k).length) :
    ∃ hl : (cellsOf f t m k).length + j < (cellsOf f t m n).length, (cellsOf f t m n)[(cellsOf f t m k).length + j] = (k, nth (opens f t m k) j) := by
  obtain ⟨tl, e⟩ := cellsOf_pre f t m n (k + 1) (by omega)
  rw [cellsOf_succ] at e
  have hl : (cellsOf f t m k).length + j < (cellsOf f t m n).length := by rw [e]; simp; omega
  refine ⟨hl, ?_⟩
  have h2 : (cellsOf f t m n)[(cellsOf f t m k).length + j]? = some (k, nth (opens f t m k) j) := by
    rw [e, List.append_assoc, List.getElem?_append_right (by omega), Nat.add_sub_cancel_left, List.getElem?_append_left (by simpa using hj), List.getElem?_map, List.getElem?_eq_getElem hj, nth_eq _ _ hj]
    rfl
  exact (List.getElem?_eq_some_iff.1 h2).2

set_option maxRecDepth 100000 in
set_option maxHeartbeats 3200000 in
theorem told_c (w : World) (B : Nat) (v : Value) (f : Nat → Nat → Int) (t m : Int) (V : Option Addr) (nv cv : Nat) (hV : Views w V nv f) (h4 : nv ≤ 4) (hgood : AllRight f nv) (ht : Tm t) (late : Bool)
    (hlate : late = (decide (winds f t nv > 0) && decide ((cellsOf f t m nv).length = 0))) (h0 : w.ownsRow B 63 3 v (cellsOf f t m nv).length (cellVs (cellsOf f t m nv))) :
    Calls Try.prog 28 #[v, .bool late, .int .i64 t, .slice V nv cv, .int .i64 m] w fun e w' => e = .returned (.bool true) ∧ Below w.heap.size w w' := by
  obtain ⟨A, ca, rfl⟩ := own_slice h0
  have hle := cellsOf_le hgood t m
  obtain ⟨n, hn⟩ : ∃ n, (cellsOf f t m nv).length = n := ⟨_, rfl⟩
  rw [hn] at h0 hlate hle ⊢
  have HG := Lib.hid hgood
  have HV := Lib.hid hV
  have HT := Lib.hid ht
  have Hn := Lib.hid hn
  have H0 := Lib.hid h0
  have HL := Lib.hid hlate
  have hn256 : n ≤ 256 := by omega
  clear hgood hV ht hn h0 hlate hle
  go_enter Try.func28, Try.ntmps28
  go_wp2_with fail
  go_loopw [11, 12, 13] (fun c s i wr => ∃ k : Nat, k ≤ nv ∧ c = .int .i64 (cellsOf f t m k).length ∧ s = .bool (decide (winds f t k > 0)) ∧ i = .int .i64 k ∧ Below w.heap.size w wr) (fun _ _ i _ => nv - (intOf i).toNat)
  case atStart => exact ⟨0, Nat.zero_le _, rfl, rfl, rfl, Below.refl _ _⟩
  case round =>
    obtain ⟨k, hk, rfl, rfl, rfl, hb⟩ := hrel
    by_cases hkn : k < nv
    · have hk1 : (k : Int) < (nv : Int) := by omega
      have hk0 : (0 : Int) ≤ (k : Int) := by omega
      obtain ⟨bv, ov, rfl, hbv, hcv⟩ := HV.out.at_ (by omega)
      obtain ⟨e0, e1, e2⟩ := hcv k hkn
      clear hcv
      have hR : Right (f k 0) (f k 1) (f k 2) := HG.out k hkn
      have hd : ∀ W, Below w.heap.size w W → W.cell? ⟨bv, ov + k * 3, none⟩ = some (.int .i64 (f k 0)) ∧ W.cell? ⟨bv, ov + k * 3 + 1, none⟩ = some (.int .i64 (f k 1)) ∧ W.cell? ⟨bv, ov + k * 3 + 2, none⟩ = some (.int .i64 (f k 2)) := fun W hW =>
        ⟨(hW.cell (p := ⟨bv, ov + k * 3, none⟩) hbv).trans e0, (hW.cell (p := ⟨bv, ov + k * 3 + 1, none⟩) hbv).trans e1, (hW.cell (p := ⟨bv, ov + k * 3 + 2, none⟩) hbv).trans e2⟩
      have HD := Lib.hid hd
      have HR := Lib.hid hR
      have HB := Lib.hid hb
      obtain ⟨d0, d1, d2⟩ := hd wr hb
      clear e0 e1 e2 hd hR hb
      have hlen1 : (starts (f k 0) (f k 1) t).length ≤ 1000 := by
        have := winds_le (f := f) (n := k + 1) (fun i hi => HG.out i (by omega)) t
        rw [winds_succ] at this
        omega
      have Hlen1 := Lib.hid hlen1
      have hol := opens_le (f := f) (HG.out k hkn) t m
      have Hol := Lib.hid hol
      clear hlen1 hol
      go_wp2_with fail
      refine (starts_c HR.out HT.out _).mono ?_
      rintro e w1 ⟨v1, rfl, hown1, hb1⟩
      have HB1 := Lib.hid (Below.then_ HB.out HB.out.size hb1)
      obtain ⟨A1, c1, rfl⟩ := own_slice hown1
      obtain ⟨d0', d1', d2'⟩ := HD.out w1 HB1.out
      clear hown1 hb1 d0 d1 d2
      obtain ⟨ns, hns⟩ : ∃ x, (starts (f k 0) (f k 1) t).length = x := ⟨_, rfl⟩
      rw [hns] at Hlen1 ⊢
      have Hns := Lib.hid hns
      clear hns
      go_wp2_with fail
      refine (open_c m HR.out HT.out _).mono ?_
      rintro e w2 ⟨v2, rfl, hown2, hb2⟩
      have hown2' : w2.ownsRow w1.heap.size 2 1 v2 (opens f t m k).length (nums .i64 (opens f t m k)) := hown2
      have HB2 := Lib.hid (And.intro (Below.then_ HB1.out HB1.out.size hb2) hown2')
      obtain ⟨A2, c2, rfl⟩ := own_slice hown2'
      have elo : ((starts (f k 0) (f k 1) t).filter fun a => !cl (f k 0) (f k 2) m a).length = (opens f t m k).length := rfl
      try rw [elo]
      clear hown2 hown2' hb2 d0' d1' d2' elo
      obtain ⟨no, hno⟩ : ∃ x, (opens f t m k).length = x := ⟨_, rfl⟩
      rw [hno] at HB2 Hol ⊢
      have Hno := Lib.hid hno
      clear hno
      have hws : decide (winds f t (k + 1) > 0) = (decide (winds f t k > 0) || decide (ns > 0)) := by
        rw [winds_succ, ← Hns.out, Bool.eq_iff_iff]
        simp only [decide_eq_true_eq, Bool.or_eq_true]
        omega
      have HWS := Lib.hid hws
      clear hws
      obtain ⟨base, hbase⟩ : ∃ x, (cellsOf f t m k).length = x := ⟨_, rfl⟩
      have hbn : base + no ≤ n := by
        obtain ⟨tl, e⟩ := cellsOf_pre f t m nv (k + 1) (by omega)
        rw [← Hn.out, e, cellsOf_succ, ← hbase, ← Hno.out]
        simp
      have hget : ∀ j, j < no → ∃ hl : base + j < (cellsOf f t m nv).length, (cellsOf f t m nv)[base + j] = (k, nth (opens f t m k) j) := fun j hj => by
        have := cellsOf_get f t m nv k j hkn (by rw [Hno.out]; exact hj)
        simp only [hbase] at this
        exact this
      have HGET := Lib.hid hget
      have hsucc : (cellsOf f t m (k + 1)).length = base + no := by rw [cellsOf_succ, ← hbase, ← Hno.out]; simp
      have HSUCC := Lib.hid hsucc
      rw [hbase]
      clear hget hsucc hbase
      go_upto_region 8 with fail
      go_cut [12] (fun z w' => z = .bool (decide (winds f t (k + 1) > 0)) ∧ w2 = w')
      case first =>
        have hws := HWS.out
        by_cases hw : winds f t k > 0
        · have hd : decide (winds f t k > 0) = true := decide_eq_true hw
          rw [hd] at hws ⊢
          have Hws := Lib.hid hws
          clear hws
          go_wp2_with fail
          go_meet
          case rel => exact ⟨by rw [Hws.out]; rfl, rfl⟩
        · have hd : decide (winds f t k > 0) = false := decide_eq_false hw
          rw [hd] at hws ⊢
          have Hws := Lib.hid hws
          clear hws
          by_cases h2 : 0 < ns
          · have h3 : (0 : Int) < (ns : Int) := by omega
            go_wp2_with fail
            go_meet
            case rel => exact ⟨by rw [Hws.out]; simp [h2], rfl⟩
          · have h3 : ¬ (0 : Int) < (ns : Int) := by omega
            go_wp2_with fail
            go_meet
            case rel => exact ⟨by rw [Hws.out]; simp [h2], rfl⟩
      case rest =>
        rename World => w3
        obtain ⟨rfl, rfl⟩ := hcut
        go_wp2_with fail
        go_loopw [11, 18] (fun c i wz => ∃ j : Nat, j ≤ no ∧ c = .int .i64 ((base : Int) + (j : Int)) ∧ i = .int .i64 j ∧ Below w2.heap.size w2 wz) (fun _ i _ => no - (intOf i).toNat)
        case atStart => exact ⟨0, Nat.zero_le _, by simp, rfl, Below.refl _ _⟩
        case round =>
          obtain ⟨j, hj, rfl, rfl, hbz⟩ := hrel
          by_cases hjn : j < no
          · obtain ⟨hl, hx⟩ := HGET.out j hjn
            obtain ⟨ga, ca2, e, _, hga⟩ := own_form H0.out (by omega)
            cases e
            obtain ⟨g2, cap2, e, _, hg2⟩ := own_form HB2.out.2 (by omega)
            cases e
            have x := HB2.out.2.cellAt j (by rw [Nat.mul_one]; exact hjn)
            rw [nums_get _ _ _ (by rw [Hno.out]; exact hjn)] at x
            have x' : wr.cell? ⟨g2, j, none⟩ = some (.int .i64 (nth (opens f t m k) j)) := (hbz.cell (p := ⟨g2, j, none⟩) hg2).trans x
            obtain ⟨z0, z1, z2⟩ := cellVs_at _ _ hl
            rw [hx] at z0 z2
            have hbw := Below.then_ HB2.out.1 HB2.out.1.size hbz
            have y0 : wr.cell? ⟨ga, (base + j) * 3, none⟩ = some (.int .i64 (k : Int)) := (hbw.cell (p := ⟨ga, (base + j) * 3, none⟩) hga).trans ((World.ownsRow.cellAt H0.out ((base + j) * 3) (by omega)).trans z0)
            have y1 : wr.cell? ⟨ga, (base + j) * 3 + 1, none⟩ = some (.string ⟨#[]⟩) := (hbw.cell (p := ⟨ga, (base + j) * 3 + 1, none⟩) hga).trans ((World.ownsRow.cellAt H0.out ((base + j) * 3 + 1) (by omega)).trans z1)
            have y2 : wr.cell? ⟨ga, (base + j) * 3 + 2, none⟩ = some (.int .i64 (nth (opens f t m k) j)) := (hbw.cell (p := ⟨ga, (base + j) * 3 + 2, none⟩) hga).trans ((World.ownsRow.cellAt H0.out ((base + j) * 3 + 2) (by omega)).trans z2)
            have HBZ := Lib.hid hbz
            clear z0 z1 z2 hx hl hbw x hbz
            generalize nth (opens f t m k) j = a at x' y2
            have j0 : (0 : Int) ≤ (base : Int) + (j : Int) := by omega
            have j1 : (base : Int) + (j : Int) < (n : Int) := by omega
            have j2 : ((base : Int) + (j : Int)).toNat = base + j := by omega
            have j3 : decide ((n : Int) ≤ (base : Int) + (j : Int)) = false := decide_eq_false (by omega)
            have j4 : (0 : Int) ≤ (j : Int) := by omega
            have j5 : (j : Int) < (no : Int) := by omega
            go_wp2_with fail
            go_quiet (fail)
            go_wp2
            go_roundw
            case rel => exact ⟨j + 1, by omega, by go_num, by go_num, below_drewN HBZ.out _⟩
            case measure => simp [intOf]; omega
          · have hjn' : no = j := by omega
            subst hjn'
            have HBZ := Lib.hid (Below.then_ HB2.out.1 HB2.out.1.size hbz)
            go_wp2_with fail
            go_roundw
            case rel => exact ⟨k + 1, by omega, by rw [HSUCC.out]; go_num, rfl, by go_num, HBZ.out⟩
            case measure => simp [intOf]; omega
    · obtain rfl : k = nv := by omega
      have hl := HL.out
      rw [Hn.out]
      by_cases hw : winds f t k > 0
      · have hd : decide (winds f t k > 0) = true := decide_eq_true hw
        rw [hd] at hl ⊢
        by_cases hz : n = 0
        · have hz1 : ((n : Int) == 0) = true := by simp [hz]
          have hlt : late = true := by rw [hl]; simp [hz]
          subst hlt
          clear hl
          go_wp2
          go_ret
          exact ⟨by first | rfl | simp, hb⟩
        · have hz1 : ((n : Int) == 0) = false := by simp; omega
          have hlt : late = false := by rw [hl]; simp [hz]
          subst hlt
          clear hl
          go_wp2
          go_ret
          exact ⟨by first | rfl | simp, hb⟩
      · have hd : decide (winds f t k > 0) = false := decide_eq_false hw
        rw [hd] at hl ⊢
        have hlt : late = false := by rw [hl]; simp
        subst hlt
        clear hl
        go_wp2
        go_ret
        exact ⟨by first | rfl | simp, hb⟩
end Go.Proofs.Ytdnamidhbloaoaa.Mark
