/-
  The laws' SameCells over two rows that hold the same cells; the marks risen in two orders.
-/
import Derived.Test.YtdnamidhbloaoaaROpen
import Derived.Test.YtdnamidhbloaoaaHolds
set_option linter.unusedVariables false
namespace Go.Proofs.Ytdnamidhbloaoaa.Mark
open Go.RowKit Go.Proofs.Ytdnamidhbloaoaa.K Go.Proofs.Ytdnamidhbloaoaa.PFn Go.Proofs.Ytdnamidhbloaoaa.Math2
open Go.Proofs.YtdnamidhbloaoaaW.PrintWords (Kd ReadsRow Reps rd)

theorem same_l0 (l : List S63) (h : l.length ≤ 1000000) : ∀ n i : Nat, i + n = l.length → spatelaw13_SameCells.l0 (n + 1) l l i = some true := by
  intro n
  induction n with
  | zero =>
    intro i hi
    simp only [spatelaw13_SameCells.l0]
    rw [if_neg (by omega)]
  | succ n ih =>
    intro i hi
    rw [spatelaw13_SameCells.l0]
    rw [if_pos (by omega), if_pos (by omega), if_pos (by omega)]
    rw [Math2.wrap_in (n := (i : Int) + 1) (by omega) (by omega)]
    have := ih (i + 1) (by omega)
    rw [show ((i + 1 : Nat) : Int) = (i : Int) + 1 by omega] at this
    simpa using this
theorem same_f (l : List S63) (h : l.length ≤ 1000000) : spatelaw13_SameCells.f (l.length + 1) l l = some true := by
  unfold spatelaw13_SameCells.f
  rw [if_pos rfl]
  exact same_l0 l h l.length 0 (by omega)

theorem same_any (w : World) (B B' : Nat) (v v' : Value) (l : List (Nat × Int)) (n : Nat) (hn : l.length = n) (h : l.length ≤ 1000000) (h0 : w.ownsRow B 63 3 v n (cellVs l)) (h1 : w.ownsRow B' 63 3 v' n (cellVs l)) :
    Calls Try.prog 25 #[v, v'] w fun e w' => e = .returned (.bool true) ∧ Below w.heap.size w w' := by
  subst hn
  obtain ⟨A0, c0, rfl, hc0, hC0⟩ := Kd.R_reads (R_of_cells h0)
  obtain ⟨A1, c1, rfl, hc1, hC1⟩ := Kd.R_reads (R_of_cells h1)
  have := spatelaw13_SameCells.calls ((l.map toS).length + 1) A0 c0 (l.map toS) A1 c1 (l.map toS) true w hC0 hc0 hC1 hc1 (same_f _ (by simpa using h))
  exact this.mono fun e w' ⟨he, hd⟩ => ⟨he, by obtain ⟨n, rfl⟩ := hd.out; exact below_drewN (Below.refl _ _) n⟩

/-! ### Another order -/
theorem riseL_comm (L : List Int) (s t s' t' : Int) : riseL (riseL L s t) s' t' = riseL (riseL L s' t') s t := by
  have hl : ∀ a b, okS (riseL L a b) = okS L := fun a b => by funext x; unfold okS; rw [riseL_length]
  by_cases h1 : okS L s ∧ okT t
  · by_cases h2 : okS L s' ∧ okT t'
    · have e1 : riseL L s t = L.set s.toNat (max (nth L s.toNat) t) := if_pos h1
      have e2 : riseL L s' t' = L.set s'.toNat (max (nth L s'.toNat) t') := if_pos h2
      have e3 : riseL (riseL L s t) s' t' = (riseL L s t).set s'.toNat (max (nth (riseL L s t) s'.toNat) t') := if_pos (by rw [hl]; exact h2)
      have e4 : riseL (riseL L s' t') s t = (riseL L s' t').set s.toNat (max (nth (riseL L s' t') s.toNat) t) := if_pos (by rw [hl]; exact h1)
      rw [e3, e4, e1, e2]
      have b1 : s.toNat < L.length := by have := h1.1.1; have := h1.1.2; omega
      have b2 : s'.toNat < L.length := by have := h2.1.1; have := h2.1.2; omega
      by_cases he : s.toNat = s'.toNat
      · rw [he] at b1 ⊢
        rw [nth_set_same _ _ _ b1, nth_set_same _ _ _ b1, List.set_set, List.set_set]
        congr 1
        omega
      · rw [nth_set_other _ _ _ _ he, nth_set_other _ _ _ _ (Ne.symm he), List.set_comm _ _ he]
    · have e2 : riseL L s' t' = L := if_neg h2
      have e3 : riseL (riseL L s t) s' t' = riseL L s t := if_neg (by rw [hl]; exact h2)
      rw [e3, e2]
  · have e1 : riseL L s t = L := if_neg h1
    have e4 : riseL (riseL L s' t') s t = riseL L s' t' := if_neg (by rw [hl]; exact h1)
    rw [e4, e1]

/-- One mark of the script. -/
def stepL (f : Nat → Nat → Int) (n : Int) (L : List Int) (i : Nat) : List Int := riseL L (wn (f i 0) n) (Int.tmod (f i 1) 1152921504606846976)
/-- The marks behind k of them; behind k of them from place t on. -/
def runL (f : Nat → Nat → Int) (n : Int) (L : List Int) (k : Nat) : List Int := (List.range k).foldl (stepL f n) L
def runT (f : Nat → Nat → Int) (n : Int) (nl t : Nat) (L : List Int) (k : Nat) : List Int := ((List.range k).map fun i => (i + t) % nl).foldl (stepL f n) L
theorem runL_succ (f : Nat → Nat → Int) (n : Int) (L : List Int) (k : Nat) : runL f n L (k + 1) = stepL f n (runL f n L k) k := by simp [runL, List.range_succ]
theorem runT_succ (f : Nat → Nat → Int) (n : Int) (nl t : Nat) (L : List Int) (k : Nat) : runT f n nl t L (k + 1) = stepL f n (runT f n nl t L k) ((k + t) % nl) := by simp [runT, List.range_succ]
theorem runL_length (f : Nat → Nat → Int) (n : Int) (L : List Int) (k : Nat) : (runL f n L k).length = L.length := by
  induction k with
  | zero => rfl
  | succ k ih => rw [runL_succ, stepL, riseL_length, ih]
theorem runT_length (f : Nat → Nat → Int) (n : Int) (nl t : Nat) (L : List Int) (k : Nat) : (runT f n nl t L k).length = L.length := by
  induction k with
  | zero => rfl
  | succ k ih => rw [runT_succ, stepL, riseL_length, ih]
theorem turned (nl t : Nat) (h : t < nl) : (List.range nl).map (fun i => (i + t) % nl) = (List.range nl).drop t ++ (List.range nl).take t := by
  apply List.ext_getElem
  · simp; omega
  · intro i h1 h2
    simp at h1
    rw [List.getElem_map, List.getElem_range, List.getElem_append]
    split
    · rename_i h3
      simp at h3
      rw [List.getElem_drop, List.getElem_range, Nat.mod_eq_of_lt (by omega)]; omega
    · rename_i h3
      simp at h3
      rw [List.getElem_take, List.getElem_range, List.length_drop, List.length_range]
      rw [Nat.mod_eq_sub_mod (by omega), Nat.mod_eq_of_lt (by omega)]; omega
theorem run_turned (f : Nat → Nat → Int) (n : Int) (nl t : Nat) (L : List Int) (h : t < nl) : runT f n nl t L nl = runL f n L nl := by
  unfold runT runL
  rw [turned nl t h]
  refine List.Perm.foldl_eq' ?_ (fun x _ y _ z => riseL_comm _ _ _ _ _) L
  exact (List.perm_append_comm).trans (by rw [List.take_append_drop])
end Go.Proofs.Ytdnamidhbloaoaa.Mark
