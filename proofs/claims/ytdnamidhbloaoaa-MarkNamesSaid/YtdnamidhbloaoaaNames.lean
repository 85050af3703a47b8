/-
  The call of the law MarkNames: the numbers are the document's, the word of the error is 'view', the chapter's first example holds.
-/
import Derived.Test.YtdnamidhbloaoaaPlays
namespace Go.Proofs.Ytdnamidhbloaoaa.Mark
open Go.RowKit Go.Proofs.Ytdnamidhbloaoaa.K

theorem word_view (w : World) : Calls Try.prog 21 #[.int .i64 23] w fun e w' => e = .returned (.string ⟨#[118, 105, 101, 119]⟩) ∧ w = w' := by
  go_enter Try.func21, Try.ntmps21
  go_wp2
  go_ret
  exact ⟨rfl, rfl⟩

theorem names_walk (w : World) : Calls Try.prog 5 #[] w fun e w' => e = .returned (.bool true) ∧ Below w.heap.size w w' := by
  go_enter Try.func5, Try.ntmps5
  go_wp2_with fail
  refine (word_view _).mono ?_
  rintro e w1 ⟨rfl, rfl⟩
  go_wp2_with fail
  refine (head_any _).mono ?_
  rintro e w1 ⟨rfl, hb⟩
  go_wp2
  go_ret
  exact ⟨rfl, hb⟩
end Go.Proofs.Ytdnamidhbloaoaa.Mark
