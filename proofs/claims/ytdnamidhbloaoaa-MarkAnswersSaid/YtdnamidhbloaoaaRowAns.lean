/-
  The row of the law MarkAnswers: whatever the input, the call returns true and each argument reads as it did. No condition. The walk comes from YtdnamidhbloaoaaAnsW.
-/
import Derived.Test.YtdnamidhbloaoaaRows
import Derived.Test.YtdnamidhbloaoaaAnsW
import Derived.WalkKit
import Derived.ProofKit
import Derived.OpenShut
import Derived.ShutString
import Derived.ChangeOld
import Derived.Below
import Derived.SizedLaws
import Derived.Lib.SmallJoins
namespace Go.Proofs.Ytdnamidhbloaoaa.markAnswers
open Go.ChangeShapes Go.WideShapes Go.ChangeAt Go.RowKit
open Go.ChangeMaps (open_string shut_string)
set_option linter.unusedVariables false
theorem own : ownKnob Try.prog.godebug = none := by kernel_rfl
theorem laidOut : laidOutB Try.prog = true := by kernel_rfl
set_option maxRecDepth 100000 in
theorem lifted (os : Os) (started : os.Started) (H : Type) (enc : TypeId × Value → H) :
    ReturnsInHanded {} Try.checked os 10 .any (Rows.markAnswersSpec.pre6 enc Try.prog Try.f10 Rows.markAnswersRow.domain false) (Rows.markAnswersSpec.post enc Try.prog Try.f10 false true false false) := by
  refine returnsInHanded_of_change_sized (C := Try.checked) own started (by kernel_rfl) Try.func10
    (ChangeSpec.witness6 (enc := enc) (C := Try.checked) false ⟨#[], #[.slice none 0 0, .slice none 0 0], []⟩ 8 (by kernel_rfl) (by kernel_rfl) (by kernel_rfl) (by kernel_rfl)) ?_
  intro W base args ds gs before hval0 hW hcnd hsz0 _
  have hsz : (DataW.weightsEach Try.prog (Try.f10.params.toList ++ Rows.markAnswersSpec.plain.varTypes Try.prog) (ds ++ gs)).all (· ≤ reachBytes) = true := hsz0
  have hval : ∀ (j : Nat) t v, Try.f10.params[j]? = some t → args[j]? = some v → Value.okWide Try.prog W .any base t v := hval0
  have hW' := hW
  obtain ⟨p, q, hA0, hV, rfl, hfz, hnd⟩ := hW
  have hA : DataW.TrodAll enc Try.prog W 0 (fun _ => true) true Try.f10.params.toList args.toList ds p := hA0
  rw [Try.params10] at hA hval hsz
  obtain ⟨v0, vs0, d0, ds0, p0, q0, hargs, rfl, rfl, h0, r0⟩ := trodAll_cons hA
  obtain ⟨v1, vs1, d1, ds1, p1, q1, rfl, rfl, rfl, h1, r1⟩ := trodAll_cons r0
  obtain ⟨rfl, rfl, rfl⟩ := trodAll_nil r1
  obtain rfl : args = #[v0, v1] := by cases args; simp_all
  obtain ⟨rfl, rfl⟩ := trodVars_none hV
  have k0 := h0
  have lt0 : ∀ x ∈ p0, x.block < W.heap.size := by obtain ⟨m, hm⟩ := k0; exact DataW.trod_lt m _ _ _ hm
  have o0 := Go.Proofs.Ytdnamidhbloaoaa.K.open_flat (m := 3) (B := 24) hsz (j := 0) (t := 45) rfl rfl (hval 0 45 v0 rfl rfl) Try.underlying45 Try.underlying58 (by kernel_rfl) (by kernel_rfl) rfl (by decide) (by intro i f h; rcases i with _ | _ | _ | i <;> simp at h <;> (try subst h) <;> first | exact Try.underlying2) (by kernel_rfl) k0
  have o0 : ∃ (A : Option Addr) (n c : Nat) (f : Nat → Nat → Int), v0 = .slice A n c ∧ n ≤ c ∧ Go.Proofs.Ytdnamidhbloaoaa.K.Flat W 3 A n f ∧ n * 24 ≤ 140737488351232 ∧ (A = none → n = 0 ∧ c = 0) := by
    obtain ⟨A, n, c, f, e, h1, h2, h3⟩ := o0
    have kk := k0
    rw [e] at kk
    exact ⟨A, n, c, f, e, h1, h2, h3, Go.Proofs.Ytdnamidhbloaoaa.K.nil_slice Try.underlying45 kk⟩
  have k1 := h1
  have lt1 : ∀ x ∈ p1, x.block < W.heap.size := by obtain ⟨m, hm⟩ := k1; exact DataW.trod_lt m _ _ _ hm
  have o1 := Go.Proofs.Ytdnamidhbloaoaa.K.open_flat1 (B := 8) hsz (j := 1) (t := 42) rfl rfl (hval 1 42 v1 rfl rfl) Try.underlying42 Try.underlying2 (by kernel_rfl) (by kernel_rfl) k1
  clear hA0 hval0 hsz0
  refine (Mark.ans_walk W v0 o0 v1 o1).mono fun e W' ⟨he, bel⟩ => ?_
  subst he
  exact ⟨_, rfl, _, _, _, [], _, [], hW', trodAll_mk1 (shut_bool Try.underlying4 _), (trodAll_cons_mk (Below.trod laidOut (by kernel_rfl) (of_decide_eq_true (by kernel_rfl)) k0 bel lt0) (trodAll_cons_mk (Below.trod laidOut (by kernel_rfl) (of_decide_eq_true (by kernel_rfl)) k1 bel lt1) trodAll_mk0)), rfl, bel.frame _, fun h => by cases h⟩
theorem over : Rows.markAnswersRow.holds Try.pinned (OpenSpec.ofChange Rows.markAnswersSpec) :=
  OpenClaim.holds_of_wide 10 Try.f10 rfl rfl rfl rfl rfl rfl rfl ⟨rfl, rfl, rfl, rfl, rfl⟩ rfl rfl rfl rfl rfl (by kernel_rfl) Try.func10 (by kernel_rfl)
    (of_decide_eq_true (by kernel_rfl)) (by unfold Func.isWrapper; first | (rw [if_pos (by decide +kernel)]; kernel_rfl) | (rw [if_neg (by decide +kernel)]; exact ⟨rfl, rfl⟩))
    (fun os started H enc _ => lifted os started H enc)
theorem proved : Rows.MarkAnswersSaid := over
#print axioms proved
end Go.Proofs.Ytdnamidhbloaoaa.markAnswers
namespace Go.Proofs.Ytdnamidhbloaoaa
theorem markAnswers_holds : Rows.MarkAnswersSaid := markAnswers.proved
end Go.Proofs.Ytdnamidhbloaoaa
