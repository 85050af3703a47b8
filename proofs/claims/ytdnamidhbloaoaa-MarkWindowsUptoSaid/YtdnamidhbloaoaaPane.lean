/-
  Contracts of pane's Check, Starts, Open in this seat, in plain words: rows of numbers of the call's own.
-/
import Derived.Test.YtdnamidhbloaoaaMath
import Derived.Test.YtdnamidhbloaoaaKit
set_option linter.unusedVariables false
namespace Go.Proofs.Ytdnamidhbloaoaa.Mark
open Go.RowKit Go.Proofs.Ytdnamidhbloaoaa.K Go.Proofs.Ytdnamidhbloaoaa.PFn Go.Proofs.Ytdnamidhbloaoaa.Math2
open Go.Proofs.YtdnamidhbloaoaaW.PrintWords (Kd)

theorem nums_of_R {k : IntKind} {w : World} {base : Nat} {e : TypeId} {ok : Nat → Prop} {v : Value} {xs : List Int} (h : Kd.R (Kd.int k) e w base ok v xs) : w.ownsRow base e 1 v xs.length (nums k xs) := by
  obtain ⟨_, inner, ho, hr⟩ := h
  have hi : inner = nums k xs := by
    apply List.ext_getElem
    · rw [hr.1, nums_length]; exact Nat.mul_one _
    · intro j h1 h2
      have hj : j < xs.length := by rw [nums_length] at h2; exact h2
      have h3 : (inner.drop (j * 1)).take 1 = [.int k xs[j]] := hr.2 j xs[j] (List.getElem?_eq_getElem hj)
      rw [Nat.mul_one, List.drop_eq_getElem_cons h1, List.take_succ_cons] at h3
      injection h3 with h3 _
      rw [h3]
      simp [nums]
  subst hi
  exact ho

theorem check_c (s d l : Int) (w : World) : Calls Try.prog 27 #[.agg #[.int .i64 s, .int .i64 d, .int .i64 l]] w fun e w' => e = .returned (.int .i64 (if Right s d l then 0 else 23)) ∧ Below w.heap.size w w' :=
  pane_Check.calls s d l _ w (check_eq s d l)

theorem check_ok {s d l : Int} (h : Right s d l) (w : World) : Calls Try.prog 27 #[.agg #[.int .i64 s, .int .i64 d, .int .i64 l]] w fun e w' => e = .returned (.int .i64 0) ∧ Below w.heap.size w w' := by
  have := check_c s d l w
  rw [if_pos h] at this
  exact this
theorem check_no {s d l : Int} (h : ¬ Right s d l) (w : World) : Calls Try.prog 27 #[.agg #[.int .i64 s, .int .i64 d, .int .i64 l]] w fun e w' => e = .returned (.int .i64 23) ∧ Below w.heap.size w w' := by
  have := check_c s d l w
  rw [if_neg h] at this
  exact this

theorem starts_c {s d l t : Int} (h : Right s d l) (ht : Tm t) (w : World) : Calls Try.prog 36 #[.agg #[.int .i64 s, .int .i64 d, .int .i64 l], .int .i64 t] w fun e w' =>
    ∃ v, e = .returned (.tuple #[v, .int .i64 0]) ∧ w'.ownsRow w.heap.size 2 1 v (starts s d t).length (nums .i64 (starts s d t)) ∧ Below w.heap.size w w' :=
  (pane_Starts.calls 140 s d l t _ _ w (starts_eq h ht 140 (by omega))).mono fun _ _ ⟨v, he, hr, hb⟩ => ⟨v, he, nums_of_R hr, hb⟩

theorem open_c {s d l t : Int} (m : Int) (h : Right s d l) (ht : Tm t) (w : World) : Calls Try.prog 37 #[.agg #[.int .i64 s, .int .i64 d, .int .i64 l], .int .i64 t, .int .i64 m] w fun e w' =>
    ∃ v, e = .returned (.tuple #[v, .int .i64 0]) ∧ w'.ownsRow w.heap.size 2 1 v ((starts s d t).filter (fun a => !cl s l m a)).length (nums .i64 ((starts s d t).filter (fun a => !cl s l m a))) ∧ Below w.heap.size w w' := by
  have e := open_eq m h ht 400 (by omega)
  rw [drop_filter _ _ (starts_cl h t m)] at e
  exact (pane_Open.calls 400 s d l t m _ _ w e).mono fun _ _ ⟨v, he, hr, hb⟩ => ⟨v, he, nums_of_R hr, hb⟩
end Go.Proofs.Ytdnamidhbloaoaa.Mark
