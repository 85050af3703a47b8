/-
  Bytes of any length lent (Lend), and looked at behind that (Back).
-/
import Derived.Test.YtalabfbnbiagiaaLent
import Derived.Laws.CopyOwn
import Derived.LoopTactic
set_option linter.unusedVariables false
set_option linter.unusedSimpArgs false
namespace Go.Proofs.Ytalabfbnbiagiaa.C
open Go.RowKit Go.Proofs.Ytalabfbnbiagiaa.K

set_option maxRecDepth 100000 in
theorem lend_big (w : World) (A : Option Addr) (n c : Nat) (L : List Int) (hL : L.length = n) (hnc : n ≤ c) (hn : n ≤ 140737488351232) (hr : Reads w A (bs L)) :
    Calls Try.prog 20 #[.slice A n c] w fun e w' => ∃ g, e = .returned (.slice (some ⟨g, 0, none⟩) n (n + 9)) ∧ w.heap.size ≤ g ∧ g < w'.heap.size ∧ Below w.heap.size w w' ∧ BB w' g (lent L) := by
  have hmk := make_c (n + 9) (by omega) w
  rw [show (((n + 9 : Nat)) : Int) = (n : Int) + 9 by omega] at hmk
  have hmade : (madeCells #[Value.int .u8 0] (n + 9)).size = n + 9 := by rw [size_madeCells]
  have hnewb := Blk.new w 5 (madeCells #[Value.int .u8 0] (n + 9))
  have hlr := fun (w : World) (g : Nat) => lent_row (w := w) (g := g) (L := L)
  rw [hL] at hlr
  generalize madeCells #[Value.int .u8 0] (n + 9) = mc at hmk hmade hnewb hlr
  have HL := Lib.hid hL
  have Hr := Lib.hid hr
  have Hlr := Lib.hid hlr
  clear hL hr hlr
  have hn9 : (n : Int) ≤ (((n + 9 : Nat)) : Int) := by omega
  have hgw : w.heap.size ≤ w.heap.size := Nat.le_refl _
  rcases A with _ | a
  · have hn0 : n = 0 := by
      have h1 := HL.out
      rcases L with _ | ⟨x, L⟩
      · simpa using h1.symm
      · obtain ⟨ad, h, _⟩ := Hr.out 0 _ rfl
        cases h
    have hL0 : L = [] := List.eq_nil_of_length_eq_zero (by rw [HL.out]; exact hn0)
    have Hn0 := Lib.hid hn0
    clear hn0
    have hb0 : BB (w.alloc (.cells mc 5)) w.heap.size (lentAt L 0) := by
      have h1 := Hlr.out _ _ hnewb
      rw [hL0] at h1 ⊢
      have : (w.alloc (.cells mc 5)).setRow w.heap.size (bs [] ++ mc.toList.drop (bs []).length).toArray = w.alloc (.cells mc 5) := by
        have e : (bs [] ++ mc.toList.drop (bs []).length).toArray = mc := by simp [bs, nums]
        rw [e]
        exact setRow_self _ _ _ 5 (0, 0) hnewb
      rwa [this] at h1
    have hbel0 : Below w.heap.size w (w.alloc (.cells mc 5)) := (Below.refl _ _).alloc (Nat.le_refl _) _
    clear hL0
    go_enter Try.func20, Try.ntmps20
    go_wp2_with ((with_reducible show wpList _ _ _ _ _ _); refine wpList_copy_nothing (by rfl) (.tmp 9) (.tmp 10) 29 29 (by rfl) 5 Try.underlying29 (by kernel_rfl) (some ⟨w.heap.size, 0, none⟩) none (n + 9) (n + 9) n c (by rfl) (by rfl) (by rw [Hn0.out]; exact Nat.zero_min _) ?_)
    go_loopw [4] (fun i wr => ∃ k : Nat, k ≤ 9 ∧ i = .int .i64 ((n : Int) + (k : Int)) ∧ BB wr w.heap.size (lentAt L k) ∧ Below w.heap.size w wr) (fun i _ => n + 9 - (intOf i).toNat)
    case atStart => exact ⟨0, by omega, by simp, by first | exact hb0 | simpa using hb0, by first | exact hbel0 | simpa using hbel0⟩
    case round =>
      clear hb0 hbel0
      obtain ⟨k, hk, rfl, hb, hbel⟩ := hrel
      by_cases hk9 : k < 9
      · have hc := BB.cell hb (n + k) (by rw [lentAt_length L k hk, HL.out]; omega)
        have hf := Blk.frozen hb (n + k)
        have i0 : (0 : Int) ≤ (n : Int) + (k : Int) := by omega
        have i1 : (n : Int) + (k : Int) < (((n + 9 : Nat)) : Int) := by omega
        have i2 : ((n : Int) + (k : Int)).toNat = n + k := by omega
        have hset := BB.set_ hb (n + k) 169
        rw [← HL.out, lentAt_set L k hk9, HL.out] at hset
        have Hset := Lib.hid hset
        clear hset
        go_wp2_with fail
        go_roundw
        case rel => exact ⟨k + 1, by omega, by go_num, Hset.out, hbel.setCell hgw _⟩
        case measure => simp [intOf]; omega
      · obtain rfl : k = 9 := by omega
        have hle : (0 : Int) ≤ (n : Int) := by omega
        go_wp2_with fail
        go_wp2
        go_ret
        exact ⟨w.heap.size, rfl, hgw, Blk.lt hb, hbel, hb⟩
  · have hcopy : ∀ j v, (bs L)[j]? = some v → (w.alloc (.cells mc 5)).cell? (a.add j) = some v := by
      intro j v hv
      obtain ⟨ad, he, hc⟩ := (Hr.out.below ((Below.refl _ _).alloc (Nat.le_refl _) (.cells mc 5))) j v hv
      cases he
      exact hc
    have hmin : (bs L).length = Nat.min n (n + 9) := by rw [bs_length, HL.out]; exact (Nat.min_eq_left (by omega)).symm
    have hfit : 0 + (bs L).length ≤ mc.size := by rw [bs_length, HL.out, hmade]; omega
    have hb0 := Hlr.out _ _ hnewb
    have hbel0 : Below w.heap.size w ((w.alloc (.cells mc 5)).setRow w.heap.size (bs L ++ mc.toList.drop (bs L).length).toArray) := below_setRow ((Below.refl _ _).alloc (Nat.le_refl _) _) (Nat.le_refl _) _
    have HC := Lib.hid (And.intro hcopy (And.intro hmin (And.intro hfit hnewb)))
    have HB0 := Lib.hid (And.intro hb0 hbel0)
    clear hcopy hmin hfit hnewb hb0 hbel0
    go_enter Try.func20, Try.ntmps20
    go_wp2_with ((with_reducible show wpList _ _ _ _ _ _); refine wpList_copy_own (by rfl) (.tmp 9) (.tmp 10) 29 29 (by rfl) 5 Try.underlying29 (by kernel_rfl) w.heap.size 0 (n + 9) (n + 9) a n c (by rfl) (by rfl) mc 5 HC.out.2.2.2 (bs L) HC.out.2.1 HC.out.1 HC.out.2.2.1 (bs_one L) ?_)
    obtain ⟨hb0, hbel0⟩ := HB0.out
    go_loopw [4] (fun i wr => ∃ k : Nat, k ≤ 9 ∧ i = .int .i64 ((n : Int) + (k : Int)) ∧ BB wr w.heap.size (lentAt L k) ∧ Below w.heap.size w wr) (fun i _ => n + 9 - (intOf i).toNat)
    case atStart => exact ⟨0, by omega, by simp, by first | exact hb0 | simpa using hb0, by first | exact hbel0 | simpa using hbel0⟩
    case round =>
      clear hb0 hbel0
      obtain ⟨k, hk, rfl, hb, hbel⟩ := hrel
      by_cases hk9 : k < 9
      · have hc := BB.cell hb (n + k) (by rw [lentAt_length L k hk, HL.out]; omega)
        have hf := Blk.frozen hb (n + k)
        have i0 : (0 : Int) ≤ (n : Int) + (k : Int) := by omega
        have i1 : (n : Int) + (k : Int) < (((n + 9 : Nat)) : Int) := by omega
        have i2 : ((n : Int) + (k : Int)).toNat = n + k := by omega
        have hset := BB.set_ hb (n + k) 169
        rw [← HL.out, lentAt_set L k hk9, HL.out] at hset
        have Hset := Lib.hid hset
        clear hset
        go_wp2_with fail
        go_roundw
        case rel => exact ⟨k + 1, by omega, by go_num, Hset.out, hbel.setCell hgw _⟩
        case measure => simp [intOf]; omega
      · obtain rfl : k = 9 := by omega
        have hle : (0 : Int) ≤ (n : Int) := by omega
        go_wp2_with fail
        go_wp2
        go_ret
        exact ⟨w.heap.size, rfl, hgw, Blk.lt hb, hbel, hb⟩

set_option maxRecDepth 100000 in
theorem back_big (w : World) (g : Nat) (A : Option Addr) (n c : Nat) (L : List Int) (hL : L.length = n) (hn : n ≤ 140737488351232) (hr : Reads w A (bs L)) (hb : BB w g (lent L)) :
    Calls Try.prog 22 #[.slice (some ⟨g, 0, none⟩) n (n + 9), .slice A n c] w fun e w' => e = .returned (.bool true) ∧ Only [g] w w' := by
  have hq1 := conv_reads (w := w) (n := n) (cp := n + 9) (A := some ⟨g, 0, none⟩) hL (by
    have := hb.reads
    unfold lent lentAt at this
    rw [bs_append] at this
    have h2 := this.take (bs L).length
    rwa [List.take_left] at h2)
  have hq2 := conv_reads (w := w) (cp := c) hL hr
  have hlen : (lent L).length = n + 9 := by unfold lent; rw [lentAt_length L 9 (Nat.le_refl _), hL]
  have Hb := Lib.hid hb
  have HL := Lib.hid hL
  have Hlen := Lib.hid hlen
  have c0 : (0 : Int) ≤ (n : Int) + 9 := by omega
  have c1 : (n : Int) + 9 ≤ (((n + 9 : Nat)) : Int) := by omega
  have c2 : ((n : Int) + 9).toNat = n + 9 := by omega
  have e9 : (((n + 9 : Nat)) : Int) = (n : Int) + 9 := by omega
  have E9 := Lib.hid e9
  clear hL hr hb hlen e9
  go_enter Try.func22, Try.ntmps22
  go_wp2_with fail
  go_loopw [5, 7] (fun o i wr => ∃ k : Nat, k ≤ 9 ∧ o = .bool true ∧ i = .int .i64 ((n : Int) + (k : Int)) ∧ w = wr) (fun _ i _ => n + 9 - (intOf i).toNat)
  case atStart => exact ⟨0, by omega, rfl, by simp, rfl⟩
  case round =>
    obtain ⟨k, hk, rfl, rfl, rfl⟩ := hrel
    by_cases hk9 : k < 9
    · have hc := BB.cell Hb.out (n + k) (by rw [Hlen.out]; omega)
      rw [← HL.out, lent_mark L k hk9, HL.out] at hc
      have i0 : (0 : Int) ≤ (n : Int) + (k : Int) := by omega
      have i1 : (n : Int) + (k : Int) < (((n + 9 : Nat)) : Int) := by omega
      have i2 : ((n : Int) + (k : Int)).toNat = n + k := by omega
      go_wp2_with fail
      go_roundw
      case rel => exact ⟨k + 1, by omega, by first | rfl | trivial, by go_num, by first | rfl | trivial⟩
      case measure => simp [intOf]; omega
    · obtain rfl : k = 9 := by omega
      have i1 : ¬ ((n : Int) + 9 < (((n + 9 : Nat)) : Int)) := by omega
      go_wp2_with fail
      go_loopw [8] (fun i wr => ∃ (k : Nat) (M : List Int), k ≤ n + 9 ∧ i = .int .i64 k ∧ M.length = n + 9 ∧ BB wr g M ∧ Only [g] w wr) (fun i _ => n + 9 - (intOf i).toNat)
      case atStart => exact ⟨0, lent L, Nat.zero_le _, rfl, Hlen.out, Hb.out, Only.refl _ _⟩
      case round =>
        obtain ⟨k, M, hk, rfl, hM, hbw, hon⟩ := hrel
        have HM := Lib.hid hM
        clear hM
        by_cases hkn : k < n + 9
        · have hc := BB.cell hbw k (by rw [HM.out]; exact hkn)
          have hf := Blk.frozen hbw k
          have hset := BB.set_ hbw k 94
          have Hset := Lib.hid hset
          clear hset
          have j0 : (0 : Int) ≤ (k : Int) := by omega
          have j1 : (k : Int) < (((n + 9 : Nat)) : Int) := by omega
          go_wp2_with fail
          go_roundw
          case rel => exact ⟨k + 1, M.set k 94, by omega, by go_num, by rw [List.length_set, HM.out], Hset.out, hon.setCell (.inl (by simp)) _⟩
          case measure => simp [intOf]; omega
        · obtain rfl : k = n + 9 := by omega
          have j1 : ¬ ((((n + 9 : Nat)) : Int) < (((n + 9 : Nat)) : Int)) := by omega
          go_wp2_with fail
          go_wp2
          go_ret
          exact ⟨rfl, hon⟩
end Go.Proofs.Ytalabfbnbiagiaa.C
