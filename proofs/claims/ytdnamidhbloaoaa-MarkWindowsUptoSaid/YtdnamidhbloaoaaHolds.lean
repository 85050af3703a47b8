/-
  The call of the law MarkHolds.
-/
import Derived.Test.YtdnamidhbloaoaaPlaysW
import Derived.Deep.CutBlock
import Derived.Deep.DeepCutAuto
set_option linter.unusedVariables false
namespace Go.Proofs.Ytdnamidhbloaoaa.Mark
open Go.RowKit Go.Proofs.Ytdnamidhbloaoaa.K
attribute [local go_sem ↓] Go.wp_at_zero Go.wp_at_succ

theorem tmod_pos (n d : Int) (hd : 1 ≤ d) : (if Int.tmod n d < 0 then Int.tmod n d + d else Int.tmod n d) = n % d := by
  rw [Int.tmod_eq_emod]
  have h0 := Int.emod_nonneg n (show d ≠ 0 by omega)
  have h1 := Int.emod_lt_of_pos n (show 0 < d by omega)
  by_cases hn : 0 ≤ n ∨ d ∣ n
  · rw [if_pos hn, show ((0 : Nat) : Int) = 0 from rfl, Int.sub_zero, if_neg (by omega)]
  · rw [if_neg hn]
    have : (d.natAbs : Int) = d := by omega
    rw [this]
    have hne : n % d ≠ 0 := fun e => hn (.inr (Int.dvd_of_emod_eq_zero e))
    split <;> omega
theorem tmod_bounds (n d : Int) (hd : 1 ≤ d) : -d ≤ Int.tmod n d ∧ Int.tmod n d < d := by
  have h0 := Int.emod_nonneg n (show d ≠ 0 by omega)
  have h1 := Int.emod_lt_of_pos n (show 0 < d by omega)
  have := tmod_pos n d hd
  split at this <;> omega

/-- A number brought into 0 .. n - 1. -/
def wn (a n : Int) : Int := a % n
theorem wn_bounds (a n : Int) (h : 1 ≤ n) : 0 ≤ wn a n ∧ wn a n < n := ⟨Int.emod_nonneg _ (by omega), Int.emod_lt_of_pos _ (by omega)⟩

theorem within_any (a n : Int) (h1 : 1 ≤ n) (h2 : n ≤ 1000000) (w : World) : Calls Try.prog 20 #[.int .i64 a, .int .i64 n] w fun e w' => e = .returned (.int .i64 (wn a n)) ∧ w = w' := by
  have hb := tmod_bounds a n h1
  have hp := Lib.hid (tmod_pos a n h1)
  by_cases hlt : Int.tmod a n < 0
  · go_enter Try.func20, Try.ntmps20
    go_wp2
    go_ret
    exact ⟨by rw [show wn a n = Int.tmod a n + n by have := hp.out; rw [if_pos hlt] at this; exact this.symm]; rfl, rfl⟩
  · go_enter Try.func20, Try.ntmps20
    go_wp2
    go_ret
    exact ⟨by rw [show wn a n = Int.tmod a n by have := hp.out; rw [if_neg (by omega)] at this; exact this.symm]; rfl, rfl⟩

theorem least_min_step (L : List Int) (k : Nat) (h : k < L.length) : least (L.take (max 1 (k + 1))) = min (least (L.take (max 1 k))) (nth L k) := by
  rw [rleast_step L k h, Int.min_def]
  split <;> split <;> omega

set_option maxRecDepth 100000 in
set_option maxHeartbeats 800000 in
theorem holds_walk (w : World) (s : Int) (ws : (Lit.int .i64 s).wf = true) (v1 : Value) (o1 : ∃ (A : Option Addr) (n c : Nat) (f : Nat → Nat → Int), v1 = .slice A n c ∧ n ≤ c ∧ Flat w 2 A n f ∧ n * 16 ≤ 140737488351232) :
    Calls Try.prog 4 #[.int .i64 s, v1] w fun e w' => e = .returned (.bool true) ∧ Below w.heap.size w w' := by
  obtain ⟨A, nl, cl, f, rfl, hc, hA, hnl⟩ := o1
  have hend : ∀ W, Below w.heap.size w W → Calls Try.prog 19 #[] W fun e w' => e = .returned (.bool true) ∧ Below w.heap.size w w' := fun W h => (head_any W).mono fun _ _ ⟨he, hb⟩ => ⟨he, Below.then_ h h.size hb⟩
  have Hend := Lib.hid hend
  clear hend hc
  have hwn := wn_bounds s 8 (by omega)
  go_enter Try.func4, Try.ntmps4
  go_wp2_with fail
  refine (within_any s 8 (by omega) (by omega) _).mono ?_
  rintro e w1 ⟨rfl, rfl⟩
  obtain ⟨n0, hn0⟩ := Int.eq_ofNat_of_zero_le hwn.1
  rw [hn0] at hwn ⊢
  clear hn0
  go_wp2_with fail
  obtain ⟨n, hN⟩ : ∃ n : Nat, (1 + (n0 : Int)) = n := ⟨n0 + 1, by omega⟩
  rw [hN]
  have hn8 : n ≤ 8 := by omega
  have hn1 : 1 ≤ n := by omega
  clear hN hwn
  refine (new_good n _ hn1 hn8).mono ?_
  rintro e w1 ⟨g, b, rfl, hM, hb1, hg, hbb⟩
  have hmk := fun W => run_make_row' (P := Try.prog) 42 2 (.int .i64 0) 8 Try.underlying42 info2 rfl .i64 .i64 n (by omega) (by omega) W
  go_wp2_with fail
  go_loopw [8] (fun i wr => ∃ k : Nat, k ≤ n ∧ i = .int .i64 k ∧ Blk wr w1.heap.size 2 (ints .i64 (List.replicate k (-4611686018427387904) ++ List.replicate (n - k) 0)) ∧ Below w1.heap.size w1 wr)
    (fun i _ => n - (intOf i).toNat)
  case atStart =>
    refine ⟨0, Nat.zero_le _, rfl, ?_, (Below.refl _ _).alloc (Nat.le_refl _) _⟩
    rw [List.replicate_zero, List.nil_append, Nat.sub_zero, ← ints_made]
    exact Blk.new _ _ _
  case round =>
    obtain ⟨k, hk, rfl, hb, hbel⟩ := hrel
    by_cases hlt : k < n
    · have hcell : wr.cell? ⟨w1.heap.size, k, none⟩ = some (.int .i64 0) := by
        rw [hb.cell k, ints_get _ _ _ (by simp; omega), fill_get _ _ _ _ hlt]
      have fk := hb.frozen k
      go_wp2
      go_roundw
      case rel =>
        refine ⟨k + 1, by omega, by go_num, ?_, hbel.setCell (Nat.le_refl _) _⟩
        have := hb.set_ k (.int .i64 (-4611686018427387904))
        rw [ints_set, fill_set _ _ _ _ hlt] at this
        exact this
      case measure => simp [intOf]; omega
    · obtain rfl : k = n := by omega
      rw [Nat.sub_self, List.replicate_zero, List.append_nil] at hb
      have hM2 := hM.only (Only.of_below (fs := []) hbel) (by simp) (by simp)
      have hbelw := Below.then_ hb1 hb1.size hbel
      have hbb' := hbb
      have l1 := hM.str.lt
      have l2 := hM.row.lt
      obtain ⟨c, hc⟩ : ∃ c, c = w1.heap.size := ⟨_, rfl⟩
      have hwc : w.heap.size ≤ c := by have := hb1.size; omega
      have hbc : b ≠ c := by omega
      rw [← hc] at hb
      simp only [← hc]
      clear hM hbel hmk hb1 l1 l2 hc
      go_wp2_with fail
      go_loopw [9] (fun i wx => ∃ (j : Nat) (L : List Int), j ≤ nl ∧ i = .int .i64 j ∧ L.length = k ∧ Marks wx g b L ∧ Blk wx c 2 (ints .i64 L) ∧ Below w.heap.size w wx) (fun i _ => nl - (intOf i).toNat)
      case atStart => exact ⟨0, _, Nat.zero_le _, rfl, by simp, hM2, hb, hbelw⟩
      case round =>
        clear hM2 hb hbelw
        obtain ⟨j, L, hj, rfl, hlen, hM, hb, hbel⟩ := hrel
        by_cases hlt : j < nl ∧ j < 200
        · obtain ⟨hlt, h200⟩ := hlt
          obtain ⟨ba, oa, rfl, hba, hca⟩ := hA.at_ (by omega)
          have e0 := hca j hlt 0 (by omega)
          have e1 := hca j hlt 1 (by omega)
          rw [Nat.add_zero] at e0
          rw [← Nat.add_assoc] at e1
          clear hca
          have d0 := (hbel.cell (p := ⟨ba, oa + j * 2, none⟩) hba).trans e0
          have d1 := (hbel.cell (p := ⟨ba, oa + j * 2 + 1, none⟩) hba).trans e1
          clear e0 e1
          have i0 : (0 : Int) ≤ (j : Int) := by omega
          have i1 : (j : Int) < (nl : Int) := by omega
          have tb := tmod_bounds (f j 1) 1152921504606846976 (by omega)
          have sb := wn_bounds (f j 0) k (by omega)
          go_wp2_with fail
          refine (within_any (f j 0) k (by omega) (by omega) _).mono ?_
          rintro e w5 ⟨rfl, rfl⟩
          obtain ⟨q, hq⟩ := Int.eq_ofNat_of_zero_le sb.1
          rw [hq] at sb ⊢
          clear hq
          have hqk : q < k := by omega
          go_wp2_with fail
          generalize Int.tmod (f j 1) 1152921504606846976 = t at tb ⊢
          refine (least_any _ g b L hM (by omega) (by omega)).mono ?_
          rintro e w5 ⟨rfl, rfl⟩
          go_wp2_with fail
          refine (rise_good _ g b L q t hM (by omega) (by omega) (by omega) (by omega)).mono ?_
          rintro e w5 ⟨rfl, hM5, ho5⟩
          have hb5 := hb.only ho5 (by simpa using fun e => hbc e.symm)
          have hbel5 : Below w.heap.size w w5 := Below.only_ hbel ho5 hbel.size (by simpa using hbb')
          have cq := hb5.cell q
          rw [ints_get _ _ _ (by omega)] at cq
          have fq := hb5.frozen q
          clear hM ho5 hb hbel d0 d1
          go_upto_region 18 with fail
          have hb6 := hb5.set_ q (.int .i64 (max (nth L q) t))
          rw [ints_set] at hb6
          have hM6 : Marks (w5.setCell ⟨c, q, none⟩ (.int .i64 (max (nth L q) t))) g b (L.set q (max (nth L q) t)) :=
            hM5.only (Only.setCell (fs := [c]) (Only.refl _ _) (.inl (by simp)) _) (by simpa using hM5.str.ne_ hb5 (by decide)) (by simpa using hbc)
          have hbel6 : Below w.heap.size w (w5.setCell ⟨c, q, none⟩ (.int .i64 (max (nth L q) t))) := hbel5.setCell hwc _
          have hlen6 : (L.set q (max (nth L q) t)).length = k := by simpa using hlen
          clear hb5 hM5 hbel5 cq fq
          generalize w5.setCell ⟨c, q, none⟩ (.int .i64 (max (nth L q) t)) = w6 at hb6 hM6 hbel6 ⊢
          generalize hL' : L.set q (max (nth L q) t) = L' at hb6 hM6 hlen6 ⊢
          have c0 := hb6.cell 0
          rw [ints_get _ _ _ (by omega)] at c0
          clear hL' hlen
          go_wp2_with fail
          go_loopw [15, 16] (fun m i wz => ∃ x : Nat, x ≤ k ∧ i = .int .i64 x ∧ m = .int .i64 (least (L'.take (max 1 x))) ∧ Marks wz g b L' ∧ Blk wz c 2 (ints .i64 L') ∧ Below w.heap.size w wz) (fun _ i _ => k - (intOf i).toNat)
          case atStart =>
            refine ⟨0, Nat.zero_le _, rfl, ?_, hM6, hb6, hbel6⟩
            cases L' with
            | nil => simp at hlen6; omega
            | cons a l => simp [least, nth]
          case round =>
            clear hM6 hb6 hbel6 c0
            obtain ⟨x, hx, rfl, rfl, hM, hb, hbel⟩ := hrel
            by_cases hxk : x < k
            · have cx := hb.cell x
              rw [ints_get _ _ _ (by omega)] at cx
              have hs := Lib.hid (least_min_step L' x (by omega))
              have x0 : (0 : Int) ≤ (x : Int) := by omega
              have x1 : (x : Int) < (k : Int) := by omega
              go_wp2_with fail
              go_quiet ((go_at_call 17; exact quiet_left (of_good _ g b L' x ⟨hM.str, hM.row⟩ (by omega))))
              go_wp2
              go_roundw
              case rel => exact ⟨x + 1, by omega, by go_num, by rw [hs.out], ⟨hM.str, hM.row⟩, hb.drewN _, below_drewN hbel _⟩
              case measure => simp [intOf]; omega
            · obtain rfl : x = k := by omega
              have hk1 : max 1 x = x := by omega
              rw [hk1, ← hlen6, List.take_length, hlen6]
              go_wp2_with fail
              refine (least_any _ g b L' hM (by omega) (by omega)).mono ?_
              rintro e w7 ⟨rfl, rfl⟩
              go_wp2
              go_roundw
              case rel => exact ⟨j + 1, L', by omega, by go_num, hlen6, hM, hb, hbel⟩
              case measure => simp [intOf]; omega
        · have hkL : (L.length : Int) ≤ (k : Int) := by omega
          by_cases h1 : j < nl
          · have h3 : ¬ j < 200 := fun h => hlt ⟨h1, h⟩
            have h4 : (200 : Int) ≤ (j : Int) := by omega
            go_wp2_with fail
            refine (of_bad _ g b L (-1) hM (.inl (by omega))).mono ?_
            rintro e w7 ⟨rfl, rfl⟩
            go_wp2_with fail
            refine (of_bad _ g b L k hM (.inr hkL)).mono ?_
            rintro e w7 ⟨rfl, rfl⟩
            go_wp2_with fail
            refine (Hend.out _ hbel).mono ?_
            rintro e w5 ⟨rfl, hb5⟩
            go_wp2
            go_ret
            exact ⟨rfl, hb5⟩
          · go_wp2_with fail
            refine (of_bad _ g b L (-1) hM (.inl (by omega))).mono ?_
            rintro e w7 ⟨rfl, rfl⟩
            go_wp2_with fail
            refine (of_bad _ g b L k hM (.inr hkL)).mono ?_
            rintro e w7 ⟨rfl, rfl⟩
            go_wp2_with fail
            refine (Hend.out _ hbel).mono ?_
            rintro e w5 ⟨rfl, hb5⟩
            go_wp2
            go_ret
            exact ⟨rfl, hb5⟩
end Go.Proofs.Ytdnamidhbloaoaa.Mark
