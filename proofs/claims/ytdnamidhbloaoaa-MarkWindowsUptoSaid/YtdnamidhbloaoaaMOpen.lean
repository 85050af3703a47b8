/-
  What mark's Open does: its refusals; the cells of the open windows, view by view.
-/
import Derived.Test.YtdnamidhbloaoaaPane
import Derived.Test.YtdnamidhbloaoaaPlaysW
import Derived.Deep.CutBlock
import Derived.Deep.DeepCutAuto
import Derived.Maps.AppendAt
set_option linter.unusedVariables false
namespace Go.Proofs.Ytdnamidhbloaoaa.Mark
open Go.RowKit Go.Proofs.Ytdnamidhbloaoaa.K Go.Proofs.Ytdnamidhbloaoaa.Math2

/-- The i-th view is right. -/
def RightV (f : Nat → Nat → Int) (i : Nat) : Prop := Right (f i 0) (f i 1) (f i 2)
instance (f : Nat → Nat → Int) (i : Nat) : Decidable (RightV f i) := by unfold RightV; infer_instance
/-- All of the first n views are right. -/
def AllRight (f : Nat → Nat → Int) (n : Nat) : Prop := ∀ i, i < n → RightV f i

/-- The windows of view i that are open at a time under a mark. -/
def opens (f : Nat → Nat → Int) (t m : Int) (i : Nat) : List Int := (starts (f i 0) (f i 1) t).filter (fun a => !cl (f i 0) (f i 2) m a)
/-- The cells of the first n views. -/
def cellsOf (f : Nat → Nat → Int) (t m : Int) (n : Nat) : List (Nat × Int) := (List.range n).flatMap fun i => (opens f t m i).map fun a => (i, a)
/-- How many windows they have. -/
def winds (f : Nat → Nat → Int) (t : Int) (n : Nat) : Nat := ((List.range n).map fun i => (starts (f i 0) (f i 1) t).length).sum
/-- A cell's values in memory. -/
def cellV (c : Nat × Int) : List Value := [.int .i64 c.1, .string ⟨#[]⟩, .int .i64 c.2]
def cellVs (l : List (Nat × Int)) : List Value := l.flatMap cellV

theorem cellsOf_succ (f : Nat → Nat → Int) (t m : Int) (n : Nat) : cellsOf f t m (n + 1) = cellsOf f t m n ++ (opens f t m n).map fun a => (n, a) := by
  simp [cellsOf, List.range_succ, List.flatMap_append]
theorem winds_succ (f : Nat → Nat → Int) (t : Int) (n : Nat) : winds f t (n + 1) = winds f t n + (starts (f n 0) (f n 1) t).length := by
  simp [winds, List.range_succ]
theorem cellVs_length (l : List (Nat × Int)) : (cellVs l).length = 3 * l.length := by
  induction l with
  | nil => rfl
  | cons a l ih => simp [cellVs, cellV] at ih ⊢; omega
theorem cellVs_append (a b : List (Nat × Int)) : cellVs (a ++ b) = cellVs a ++ cellVs b := by simp [cellVs]

set_option maxRecDepth 100000 in
theorem mopen_many (w : World) (g : Nat) (t : Int) (A : Option Addr) (nv cv : Nat) (h : 4 < nv) (h2 : nv ≤ 1000000000000000) :
    Calls Try.prog 23 #[.pointer (some ⟨g, 0, none⟩), .int .i64 t, .slice A nv cv] w fun e w' => e = .returned (.tuple #[.slice none 0 0, .bool false, .int .i64 2]) ∧ w = w' := by
  go_enter Try.func23, Try.ntmps23
  go_wp2
  go_ret3
  exact ⟨rfl, rfl⟩

/-- The views' cells in a world. -/
structure Views (w : World) (A : Option Addr) (nv : Nat) (f : Nat → Nat → Int) : Prop where
  at_ : 0 < nv → ∃ b off, A = some ⟨b, off, none⟩ ∧ b < w.heap.size ∧ ∀ i, i < nv → w.cell? ⟨b, off + i * 3, none⟩ = some (.int .i64 (f i 0)) ∧ w.cell? ⟨b, off + i * 3 + 1, none⟩ = some (.int .i64 (f i 1)) ∧ w.cell? ⟨b, off + i * 3 + 2, none⟩ = some (.int .i64 (f i 2))

theorem Views.of_flat {w : World} {A : Option Addr} {nv : Nat} {f : Nat → Nat → Int} (h : Flat w 3 A nv f) : Views w A nv f :=
  ⟨fun hn => by
    obtain ⟨b, off, e, hb, hc⟩ := h.at_ hn
    exact ⟨b, off, e, hb, fun i hi => ⟨hc i hi 0 (by omega), hc i hi 1 (by omega), hc i hi 2 (by omega)⟩⟩⟩

theorem Views.below {w w' : World} {A : Option Addr} {nv B : Nat} {f : Nat → Nat → Int} (h : Views w A nv f) (hb : Below w.heap.size w w') : Views w' A nv f :=
  ⟨fun hn => by
    obtain ⟨b, off, e, hlt, hc⟩ := h.at_ hn
    refine ⟨b, off, e, Nat.lt_of_lt_of_le hlt hb.size, fun i hi => ?_⟩
    obtain ⟨h0, h1, h2⟩ := hc i hi
    exact ⟨(hb.cell (p := ⟨b, off + i * 3, none⟩) hlt).trans h0, (hb.cell (p := ⟨b, off + i * 3 + 1, none⟩) hlt).trans h1, (hb.cell (p := ⟨b, off + i * 3 + 2, none⟩) hlt).trans h2⟩⟩

set_option maxRecDepth 100000 in
set_option maxHeartbeats 800000 in
theorem mopen_bad (w : World) (g : Nat) (t : Int) (A : Option Addr) (nv cv : Nat) (f : Nat → Nat → Int) (hV : Views w A nv f) (h4 : nv ≤ 4) (k0 : Nat) (hk0 : k0 < nv) (hbad : ¬ RightV f k0) (hgood0 : AllRight f k0) :
    Calls Try.prog 23 #[.pointer (some ⟨g, 0, none⟩), .int .i64 t, .slice A nv cv] w fun e w' => e = .returned (.tuple #[.slice none 0 0, .bool false, .int .i64 23]) ∧ Below w.heap.size w w' := by
  obtain ⟨bv, ov, rfl, hbv, hcv⟩ := hV.at_ (by omega)
  have HC := Lib.hid hcv
  clear hcv
  have HG := Lib.hid hgood0
  have HB := Lib.hid hbad
  clear hgood0 hbad
  go_enter Try.func23, Try.ntmps23
  go_wp2_with fail
  go_loopw [28] (fun i wr => ∃ k : Nat, k ≤ k0 ∧ i = .int .i64 k ∧ Below w.heap.size w wr) (fun i _ => k0 - (intOf i).toNat)
  case atStart => exact ⟨0, Nat.zero_le _, rfl, Below.refl _ _⟩
  case round =>
    obtain ⟨k, hk, rfl, hbel⟩ := hrel
    have hkn : k < nv := by omega
    obtain ⟨e0, e1, e2⟩ := HC.out k hkn
    have d0 := (hbel.cell (p := ⟨bv, ov + k * 3, none⟩) hbv).trans e0
    have d1 := (hbel.cell (p := ⟨bv, ov + k * 3 + 1, none⟩) hbv).trans e1
    have d2 := (hbel.cell (p := ⟨bv, ov + k * 3 + 2, none⟩) hbv).trans e2
    clear e0 e1 e2
    by_cases hkk : k = k0
    · subst hkk
      go_wp2_with fail
      refine (check_no (show ¬ Right (f k 0) (f k 1) (f k 2) from HB.out) _).mono ?_
      rintro e w1 ⟨rfl, hb1⟩
      have hbel1 : Below w.heap.size w w1 := Below.then_ ((hbel.alloc hbel.size _)) (by have := hbel.size; simp; omega) hb1
      clear d0 d1 d2
      go_wp2
      go_ret3
      exact ⟨rfl, hbel1⟩
    · have hr : Right (f k 0) (f k 1) (f k 2) := HG.out k (by omega)
      go_wp2_with fail
      refine (check_ok hr _).mono ?_
      rintro e w1 ⟨rfl, hb1⟩
      have hbel1 : Below w.heap.size w w1 := Below.then_ ((hbel.alloc hbel.size _)) (by have := hbel.size; simp; omega) hb1
      clear d0 d1 d2
      go_wp2
      go_roundw
      case rel => exact ⟨k + 1, by omega, by go_num, hbel1⟩
      case measure => simp [intOf]; omega

set_option maxRecDepth 100000 in
set_option maxHeartbeats 800000 in
theorem mopen_late (w : World) (g : Nat) (t : Int) (A : Option Addr) (nv cv : Nat) (f : Nat → Nat → Int) (hV : Views w A nv f) (h4 : nv ≤ 4) (hgood : AllRight f nv) (ht : t < -1152921504606846976 ∨ 1152921504606846976 < t) :
    Calls Try.prog 23 #[.pointer (some ⟨g, 0, none⟩), .int .i64 t, .slice A nv cv] w fun e w' => e = .returned (.tuple #[.slice none 0 0, .bool false, .int .i64 22]) ∧ Below w.heap.size w w' := by
  have HG := Lib.hid hgood
  clear hgood
  go_enter Try.func23, Try.ntmps23
  go_wp2_with fail
  go_loopw [28] (fun i wr => ∃ k : Nat, k ≤ nv ∧ i = .int .i64 k ∧ Below w.heap.size w wr) (fun i _ => nv - (intOf i).toNat)
  case atStart => exact ⟨0, Nat.zero_le _, rfl, Below.refl _ _⟩
  case round =>
    obtain ⟨k, hk, rfl, hbel⟩ := hrel
    by_cases hkn : k < nv
    · obtain ⟨bv, ov, rfl, hbv, hcv⟩ := hV.at_ (by omega)
      obtain ⟨e0, e1, e2⟩ := hcv k hkn
      clear hcv
      have d0 := (hbel.cell (p := ⟨bv, ov + k * 3, none⟩) hbv).trans e0
      have d1 := (hbel.cell (p := ⟨bv, ov + k * 3 + 1, none⟩) hbv).trans e1
      have d2 := (hbel.cell (p := ⟨bv, ov + k * 3 + 2, none⟩) hbv).trans e2
      clear e0 e1 e2
      go_wp2_with fail
      refine (check_ok (show Right (f k 0) (f k 1) (f k 2) from HG.out k hkn) _).mono ?_
      rintro e w1 ⟨rfl, hb1⟩
      have hbel1 : Below w.heap.size w w1 := Below.then_ ((hbel.alloc hbel.size _)) (by have := hbel.size; simp; omega) hb1
      clear d0 d1 d2
      go_wp2
      go_roundw
      case rel => exact ⟨k + 1, by omega, by go_num, hbel1⟩
      case measure => simp [intOf]; omega
    · by_cases h0 : t < -1152921504606846976
      · go_wp2
        go_ret3
        exact ⟨rfl, hbel⟩
      · have h1 : 1152921504606846976 < t := by omega
        go_wp2
        go_ret3
        exact ⟨rfl, hbel⟩
end Go.Proofs.Ytdnamidhbloaoaa.Mark
