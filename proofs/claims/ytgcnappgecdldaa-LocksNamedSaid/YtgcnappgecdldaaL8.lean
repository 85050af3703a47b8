/-
  Locks: SameLocks, SameInts, of rows that are the same; within.
-/
import Derived.Test.YtgcnappgecdldaaL7
set_option linter.unusedVariables false
set_option linter.unusedSimpArgs false
namespace Go.Proofs.Ytgcnappgecdldaa.C
open Go.RowKit Go.Proofs.Ytgcnappgecdldaa.K Go.Maps

theorem lks_length (L : List (Int × Bool)) : (lks L).length = L.length * 2 := by
  induction L with
  | nil => rfl
  | cons c r ih =>
    show (([.int .i64 c.1, .bool c.2] : List Value) ++ lks r).length = _
    rw [List.length_append, ih]
    show 2 + r.length * 2 = (r.length + 1) * 2
    omega
theorem lks_at (l : List (Int × Bool)) : ∀ i (h : i < l.length), (lks l)[i * 2]? = some (.int .i64 l[i].1) ∧ (lks l)[i * 2 + 1]? = some (.bool l[i].2) := by
  induction l with
  | nil => intro i h; simp at h
  | cons c l ih =>
    intro i h
    have e : lks (c :: l) = .int .i64 c.1 :: .bool c.2 :: lks l := rfl
    rcases i with _ | i
    · rw [e]; exact ⟨rfl, rfl⟩
    · have hl : i < l.length := by simpa using h
      obtain ⟨h0, h1⟩ := ih i hl
      rw [e, show (i + 1) * 2 = i * 2 + 1 + 1 by omega, show i * 2 + 1 + 1 + 1 = (i * 2 + 1) + 1 + 1 by omega]
      simp only [List.getElem?_cons_succ, List.getElem_cons_succ]
      exact ⟨h0, h1⟩

set_option maxRecDepth 100000 in
theorem same_locks (w : World) (B B' : Nat) (v v' : Value) (L : List (Int × Bool)) (n : Nat) (hn : L.length = n) (hb : n ≤ 1000000) (h0 : w.ownsRow B 32 2 v n (lks L)) (h1 : w.ownsRow B' 32 2 v' n (lks L)) :
    Calls Try.prog 16 #[v, v'] w fun e w' => e = .returned (.bool true) ∧ Below w.heap.size w w' := by
  obtain ⟨A, ca, rfl⟩ := own_slice h0
  obtain ⟨A', ca', rfl⟩ := own_slice h1
  have Hn := Lib.hid hn
  have H0 := Lib.hid h0
  have H1 := Lib.hid h1
  clear hn h0 h1
  go_enter Try.func16, Try.ntmps16
  go_wp2_with fail
  go_loopw [5] (fun i wr => ∃ k : Nat, k ≤ n ∧ i = .int .i64 k ∧ Below w.heap.size w wr) (fun i _ => n - (intOf i).toNat)
  case atStart => exact ⟨0, Nat.zero_le _, rfl, Below.refl _ _⟩
  case round =>
    obtain ⟨k, hk, rfl, hbz⟩ := hrel
    have HB := Lib.hid hbz
    clear hbz
    by_cases hkn : k < n
    · have k0 : (0 : Int) ≤ (k : Int) := by omega
      have k1 : (k : Int) < (n : Int) := by omega
      have hkl : k < L.length := by rw [Hn.out]; exact hkn
      obtain ⟨g1, c1, e, _, hg1⟩ := own_form H0.out (by omega)
      cases e
      obtain ⟨g2, c2, e, _, hg2⟩ := own_form H1.out (by omega)
      cases e
      obtain ⟨x0, x1⟩ := lks_at L k hkl
      generalize L[k] = p at x0 x1
      obtain ⟨pn, ps⟩ := p
      dsimp only at x0 x1
      have d0 : wr.cell? ⟨g1, k * 2, none⟩ = some (.int .i64 pn) := (HB.out.cell (p := ⟨g1, k * 2, none⟩) hg1).trans ((World.ownsRow.cellAt H0.out (k * 2) (by omega)).trans x0)
      have d1 : wr.cell? ⟨g1, k * 2 + 1, none⟩ = some (.bool ps) := (HB.out.cell (p := ⟨g1, k * 2 + 1, none⟩) hg1).trans ((World.ownsRow.cellAt H0.out (k * 2 + 1) (by omega)).trans x1)
      have e0 : wr.cell? ⟨g2, k * 2, none⟩ = some (.int .i64 pn) := (HB.out.cell (p := ⟨g2, k * 2, none⟩) hg2).trans ((World.ownsRow.cellAt H1.out (k * 2) (by omega)).trans x0)
      have e1 : wr.cell? ⟨g2, k * 2 + 1, none⟩ = some (.bool ps) := (HB.out.cell (p := ⟨g2, k * 2 + 1, none⟩) hg2).trans ((World.ownsRow.cellAt H1.out (k * 2 + 1) (by omega)).trans x1)
      clear x0 x1
      go_wp2_with fail
      go_quiet (fail)
      go_wp2
      go_roundw
      case rel => exact ⟨k + 1, by omega, by go_num, below_drewN HB.out _⟩
      case measure => simp [intOf]; omega
    · have k1 : ¬ (k : Int) < (n : Int) := by omega
      go_wp2
      go_ret
      exact ⟨rfl, HB.out⟩

set_option maxRecDepth 100000 in
theorem same_ints (w : World) (B B' : Nat) (v v' : Value) (L : List Int) (n : Nat) (hn : L.length = n) (hb : n ≤ 1000000) (h0 : w.ownsRow B 3 1 v n (L.map (Value.int .i64))) (h1 : w.ownsRow B' 3 1 v' n (L.map (Value.int .i64))) :
    Calls Try.prog 20 #[v, v'] w fun e w' => e = .returned (.bool true) ∧ Below w.heap.size w w' := by
  obtain ⟨A, ca, rfl⟩ := own_slice h0
  obtain ⟨A', ca', rfl⟩ := own_slice h1
  have Hn := Lib.hid hn
  have H0 := Lib.hid h0
  have H1 := Lib.hid h1
  clear hn h0 h1
  go_enter Try.func20, Try.ntmps20
  go_wp2_with fail
  go_loopw [5] (fun i wr => ∃ k : Nat, k ≤ n ∧ i = .int .i64 k ∧ Below w.heap.size w wr) (fun i _ => n - (intOf i).toNat)
  case atStart => exact ⟨0, Nat.zero_le _, rfl, Below.refl _ _⟩
  case round =>
    obtain ⟨k, hk, rfl, hbz⟩ := hrel
    have HB := Lib.hid hbz
    clear hbz
    by_cases hkn : k < n
    · have k0 : (0 : Int) ≤ (k : Int) := by omega
      have k1 : (k : Int) < (n : Int) := by omega
      have hkl : k < L.length := by rw [Hn.out]; exact hkn
      obtain ⟨g1, c1, e, _, hg1⟩ := own_form H0.out (by omega)
      cases e
      obtain ⟨g2, c2, e, _, hg2⟩ := own_form H1.out (by omega)
      cases e
      have x0 : (L.map (Value.int .i64))[k]? = some (.int .i64 L[k]) := by rw [List.getElem?_map, List.getElem?_eq_getElem hkl]; rfl
      generalize L[k] = p at x0
      have d0 : wr.cell? ⟨g1, k, none⟩ = some (.int .i64 p) := (HB.out.cell (p := ⟨g1, k, none⟩) hg1).trans ((World.ownsRow.cellAt H0.out k (by omega)).trans x0)
      have e0 : wr.cell? ⟨g2, k, none⟩ = some (.int .i64 p) := (HB.out.cell (p := ⟨g2, k, none⟩) hg2).trans ((World.ownsRow.cellAt H1.out k (by omega)).trans x0)
      clear x0
      go_wp2_with fail
      go_quiet (fail)
      go_wp2
      go_roundw
      case rel => exact ⟨k + 1, by omega, by go_num, below_drewN HB.out _⟩
      case measure => simp [intOf]; omega
    · have k1 : ¬ (k : Int) < (n : Int) := by omega
      go_wp2
      go_ret
      exact ⟨rfl, HB.out⟩

theorem within_c (w : World) (a n : Int) (hn : 0 < n) (hn2 : n ≤ 4611686018427387904) : Calls Try.prog 12 #[.int .i64 a, .int .i64 n] w fun e w' => ∃ r : Nat, e = .returned (.int .i64 r) ∧ (r : Int) < n ∧ w = w' := by
  have h1 : Int.tmod a n < n := Int.tmod_lt_of_pos _ hn
  have h2 : -n < Int.tmod a n := by
    have := Int.tmod_lt_of_pos (-a) hn
    rw [Int.neg_tmod] at this
    omega
  have h0 : n ≠ 0 := by omega
  by_cases hneg : Int.tmod a n < 0
  · obtain ⟨r, hr⟩ := Int.eq_ofNat_of_zero_le (show 0 ≤ Int.tmod a n + n by omega)
    generalize hk : Int.tmod a n = k at *
    go_enter Try.func12, Try.ntmps12
    go_wp2
    go_ret
    exact ⟨r, by first | rfl | rw [← hr], by omega, rfl⟩
  · obtain ⟨r, hr⟩ := Int.eq_ofNat_of_zero_le (show 0 ≤ Int.tmod a n by omega)
    have hr1 : (r : Int) < n := by omega
    go_enter Try.func12, Try.ntmps12
    go_wp2
    go_ret
    exact ⟨r, by first | rfl | rw [← hr], hr1, rfl⟩
end Go.Proofs.Ytgcnappgecdldaa.C
