/-
  Contracts of pane's functions and of the laws' helpers in plain words: rows of numbers of the call's own.
-/
import Derived.Test.YtnceikookipdnaaLaws4
import Derived.Test.YtnceikookipdnaaPAll2x10
import Derived.Test.YtnceikookipdnaaKit
set_option linter.unusedVariables false
namespace Go.Proofs.Ytnceikookipdnaa.PaneC
open Go.RowKit Go.Proofs.Ytnceikookipdnaa.K Go.Proofs.Ytnceikookipdnaa.PAll2 Go.Proofs.Ytnceikookipdnaa.Math2
open Go.Proofs.YtnceikookipdnaaW.PrintWords (Kd Drawn0)

theorem nums_of_R {k : IntKind} {w : World} {base : Nat} {e : TypeId} {ok : Nat → Prop} {v : Value} {xs : List Int} (h : Kd.R (Kd.int k) e w base ok v xs) : w.ownsRow base e 1 v xs.length (nums k xs) := by
  obtain ⟨_, inner, ho, hr⟩ := h
  have hi : inner = nums k xs := by
    apply List.ext_getElem
    · rw [hr.1, nums_length]; exact Nat.mul_one _
    · intro j h1 h2
      have hj : j < xs.length := by rw [nums_length] at h2; exact h2
      have h3 : (inner.drop (j * 1)).take 1 = [.int k xs[j]] := hr.2 j xs[j] (List.getElem?_eq_getElem hj)
      rw [Nat.mul_one, List.drop_eq_getElem_cons h1, List.take_succ_cons] at h3
      injection h3 with h3 _
      rw [h3]
      simp [nums]
  subst hi
  exact ho

theorem R_of_nums {k : IntKind} {w : World} {base : Nat} {e : TypeId} {v : Value} {xs : List Int} (h : w.ownsRow base e 1 v xs.length (nums k xs)) : Kd.R (Kd.int k) e w base (fun _ => True) v xs := by
  refine ⟨fun _ _ => trivial, nums k xs, h, ?_⟩
  refine ⟨by rw [nums_length]; exact (Nat.mul_one _).symm, fun j p hp => ?_⟩
  obtain ⟨hj, rfl⟩ := List.getElem?_eq_some_iff.1 hp
  show ((nums k xs).drop (j * 1)).take 1 = [.int k xs[j]]
  rw [Nat.mul_one, List.drop_eq_getElem_cons (by rw [nums_length]; exact hj), List.take_succ_cons]
  simp [nums]

theorem starts_c {s d l t : Int} (h : Right s d l) (ht : Tm t) (w : World) : Calls Try.prog 16 #[.agg #[.int .i64 s, .int .i64 d, .int .i64 l], .int .i64 t] w fun e w' =>
    ∃ v, e = .returned (.tuple #[v, .int .i64 0]) ∧ w'.ownsRow w.heap.size 2 1 v (starts s d t).length (nums .i64 (starts s d t)) ∧ Below w.heap.size w w' :=
  (pane_Starts.calls 140 s d l t _ _ w (starts_eq h ht 140 (by omega))).mono fun _ _ ⟨v, he, hr, hb⟩ => ⟨v, he, nums_of_R hr, hb⟩

/-- The open windows. -/
def opn (s d l t m : Int) : List Int := (starts s d t).dropWhile (cl s l m)
theorem opn_le {s d l t : Int} (m : Int) (h : Right s d l) : (opn s d l t m).length ≤ 64 := by
  have h1 : (opn s d l t m).length ≤ (starts s d t).length := (List.dropWhile_sublist _).length_le
  have := (cnt_le h t).2
  have := starts_length s d t
  omega
theorem open_c {s d l t : Int} (m : Int) (h : Right s d l) (ht : Tm t) (w : World) : Calls Try.prog 28 #[.agg #[.int .i64 s, .int .i64 d, .int .i64 l], .int .i64 t, .int .i64 m] w fun e w' =>
    ∃ v, e = .returned (.tuple #[v, .int .i64 0]) ∧ w'.ownsRow w.heap.size 2 1 v (opn s d l t m).length (nums .i64 (opn s d l t m)) ∧ Below w.heap.size w w' :=
  (pane_Open.calls 400 s d l t m _ _ w (open_eq m h ht 400 (by omega))).mono fun _ _ ⟨v, he, hr, hb⟩ => ⟨v, he, nums_of_R hr, hb⟩

theorem head_c (w : World) : Calls Try.prog 13 #[] w fun e w' => e = .returned (.bool true) ∧ Below w.heap.size w w' := spatelaw4_head.calls 200 true w (head_eq 200 (by omega))

theorem right_c (s d l : Int) (w : World) : Calls Try.prog 19 #[.agg #[.int .i64 s, .int .i64 d, .int .i64 l]] w fun e w' => e = .returned (.bool (decide (Right s d l))) ∧ Below w.heap.size w w' :=
  spatelaw4_right.calls s d l _ w (rightf_eq s d l)
theorem right_ok {s d l : Int} (h : Right s d l) (w : World) : Calls Try.prog 19 #[.agg #[.int .i64 s, .int .i64 d, .int .i64 l]] w fun e w' => e = .returned (.bool true) ∧ Below w.heap.size w w' := by
  have := right_c s d l w
  rw [decide_eq_true h] at this
  exact this
theorem right_no {s d l : Int} (h : ¬ Right s d l) (w : World) : Calls Try.prog 19 #[.agg #[.int .i64 s, .int .i64 d, .int .i64 l]] w fun e w' => e = .returned (.bool false) ∧ Below w.heap.size w w' := by
  have := right_c s d l w
  rw [decide_eq_false h] at this
  exact this
theorem within_c (a : Int) (w : World) : Calls Try.prog 20 #[.int .i64 a] w fun e w' => e = .returned (.int .i64 (Int.tmod a 576460752303423488)) ∧ Below w.heap.size w w' :=
  (spatelaw4_within.calls a _ w rfl).mono fun _ _ ⟨he, hd⟩ => ⟨he, by obtain ⟨n, rfl⟩ := hd.out; exact below_drewN (Below.refl _ _) n⟩

theorem same_c (w : World) (B B' : Nat) (v v' : Value) (l : List Int) (n : Nat) (hn : l.length = n) (h : l.length ≤ 1000000) (h0 : w.ownsRow B 2 1 v n (nums .i64 l)) (h1 : w.ownsRow B' 2 1 v' n (nums .i64 l)) :
    Calls Try.prog 18 #[v, v'] w fun e w' => e = .returned (.bool true) ∧ ∃ m, w' = w.drewN m := by
  subst hn
  obtain ⟨A0, c0, rfl, hc0, hC0⟩ := Kd.R_reads (R_of_nums h0)
  obtain ⟨A1, c1, rfl, hc1, hC1⟩ := Kd.R_reads (R_of_nums h1)
  exact (spatelaw4_Same.calls (l.length + 1) A0 c0 l A1 c1 l true w hC0 hc0 hC1 hc1 (same_eq l h _ (by omega))).mono fun e w' ⟨he, hd⟩ => ⟨he, hd.out⟩

theorem copied_c (w : World) (B : Nat) (v : Value) (l : List Int) (n : Nat) (hn : l.length = n) (h : l.length ≤ 1000000) (h0 : w.ownsRow B 2 1 v n (nums .i64 l)) :
    Calls Try.prog 30 #[v] w fun e w' => ∃ u, e = .returned u ∧ w'.ownsRow w.heap.size 2 1 u n (nums .i64 l) ∧ Below w.heap.size w w' := by
  subst hn
  obtain ⟨A0, c0, rfl, hc0, hC0⟩ := Kd.R_reads (R_of_nums h0)
  exact (spatelaw4_copied.calls A0 c0 l l w hC0 hc0 (by unfold spatelaw4_copied.f; rw [if_pos (by simp; omega)]; rfl)).mono fun e w' ⟨v, he, hr, hb⟩ => ⟨v, he, nums_of_R hr, hb⟩
end Go.Proofs.Ytnceikookipdnaa.PaneC
