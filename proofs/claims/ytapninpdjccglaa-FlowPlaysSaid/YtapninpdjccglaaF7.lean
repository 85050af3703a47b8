/-
  Put.
-/
import Derived.Test.YtapninpdjccglaaF6
set_option linter.unusedVariables false
set_option linter.unusedSimpArgs false
namespace Go.Proofs.Ytapninpdjccglaa.C
open Go.RowKit Go.Proofs.Ytapninpdjccglaa.K

def itv (x : It) : Value := .agg #[.bool x.mark, .string x.key, .int .i64 x.time, .int .i64 x.value]
/-- The error of an item that may not be put. -/
def May (x : It) : Int :=
  if x.mark = false ∧ (x.key.toList = [] ∨ 32 < x.key.size) then 21
  else if x.time < -1152921504606846976 ∨ 1152921504606846976 < x.time then 22
  else if x.mark = true ∧ (¬ x.key.toList = [] ∨ ¬ x.value = 0) then 16 else 0
def FS.put (F : FS) (i : Int) (x : It) : Int × FS :=
  if 0 ≤ i ∧ i < F.s then
    if May x = 0 then if (F.q i.toNat).length = 65536 then (2, F) else (0, F.putq i.toNat (F.q i.toNat ++ [x])) else (May x, F)
  else (1, F)

theorem may_cases (x : It) : (May x = 21 ∧ x.mark = false ∧ (x.key.toList = [] ∨ (¬ x.key.toList = [] ∧ (32 : Int) < (x.key.size : Int)))) ∨
    (May x = 22 ∧ ((x.mark = true ∨ (x.mark = false ∧ ¬ x.key.toList = [] ∧ (x.key.size : Int) ≤ 32)) ∧ (x.time < -1152921504606846976 ∨ (-1152921504606846976 ≤ x.time ∧ 1152921504606846976 < x.time)))) ∨
    (May x = 16 ∧ x.mark = true ∧ (-1152921504606846976 ≤ x.time ∧ x.time ≤ 1152921504606846976) ∧ (¬ x.key.toList = [] ∨ (x.key.toList = [] ∧ ¬ x.value = 0))) ∨
    (May x = 0 ∧ (-1152921504606846976 ≤ x.time ∧ x.time ≤ 1152921504606846976) ∧ ((x.mark = true ∧ x.key.toList = [] ∧ x.value = 0) ∨ (x.mark = false ∧ ¬ x.key.toList = [] ∧ (x.key.size : Int) ≤ 32))) := by
  unfold May
  by_cases h1 : x.mark = false ∧ (x.key.toList = [] ∨ 32 < x.key.size)
  · rw [if_pos h1]
    refine .inl ⟨rfl, h1.1, ?_⟩
    by_cases h2 : x.key.toList = []
    · exact .inl h2
    · exact .inr ⟨h2, by have := h1.2.resolve_left h2; omega⟩
  · rw [if_neg h1]
    have hm : x.mark = true ∨ (x.mark = false ∧ ¬ x.key.toList = [] ∧ (x.key.size : Int) ≤ 32) := by
      rcases hx : x.mark with _ | _
      · right
        refine ⟨rfl, fun e => h1 ⟨hx, .inl e⟩, ?_⟩
        rcases Nat.lt_or_ge 32 x.key.size with h | h
        · exact absurd ⟨hx, .inr h⟩ h1
        · omega
      · exact .inl rfl
    by_cases h2 : x.time < -1152921504606846976 ∨ 1152921504606846976 < x.time
    · rw [if_pos h2]
      exact .inr (.inl ⟨rfl, hm, by omega⟩)
    · rw [if_neg h2]
      by_cases h3 : x.mark = true ∧ (¬ x.key.toList = [] ∨ ¬ x.value = 0)
      · rw [if_pos h3]
        refine .inr (.inr (.inl ⟨rfl, h3.1, by omega, ?_⟩))
        by_cases h4 : x.key.toList = []
        · exact .inr ⟨h4, h3.2.resolve_left (fun h => h h4)⟩
        · exact .inl h4
      · rw [if_neg h3]
        refine .inr (.inr (.inr ⟨rfl, by omega, ?_⟩))
        rcases hm with hm | hm
        · left
          refine ⟨hm, ?_, ?_⟩
          · by_cases h4 : x.key.toList = []
            · exact h4
            · exact absurd ⟨hm, .inl h4⟩ h3
          · by_cases h4 : x.value = 0
            · exact h4
            · exact absurd ⟨hm, .inr h4⟩ h3
        · exact .inr hm

set_option maxRecDepth 100000 in
set_option maxHeartbeats 1600000 in
theorem put_err (w : World) (σ : Nat → Nat) (t g : Nat) (F : FS) (hF : FlowAt w σ t g F) (d : Nat) (hd : d < F.s) (x : It) (hm : May x ≠ 0) :
    Calls Try.prog 17 #[.pointer (some ⟨g, 0, none⟩), .int .i64 d, itv x] w fun e w' => e = .returned (.int .i64 (May x)) ∧ Below w.heap.size w w' := by
  have hB : Below w.heap.size w (w.alloc (.cells #[.bool x.mark, .string x.key, .int .i64 x.time, .int .i64 x.value] 33)) := (Below.refl _ _).alloc (Nat.le_refl _) _
  have hF1 := hF.below hB
  obtain ⟨gq, gb, qv, fi, gr, rc, h⟩ := hF1
  have hof := of_yes _ σ t g F gq gb qv fi gr rc h d hd
  unfold itv
  have HB := Lib.hid hB
  clear h hF hd hB
  rcases may_cases x with ⟨hx, h1, h2⟩ | ⟨hx, h1, h2⟩ | ⟨hx, h1, h2, h3⟩ | ⟨hx, _⟩
  · rw [hx]
    rw [h1] at HB hof ⊢
    clear hx hm h1
    rcases h2 with h2 | ⟨h2, h3⟩
    all_goals
      go_enter Try.func17, Try.ntmps17
      go_wp2_with fail
      refine hof.mono ?_
      rintro e w1 ⟨rfl, rfl⟩
      go_wp2
      go_ret
      exact ⟨rfl, HB.out⟩
  · rw [hx]
    clear hx hm
    rcases h1 with h1 | ⟨h1, h4, h5⟩
    · rw [h1] at HB hof ⊢
      clear h1
      rcases h2 with h2 | ⟨h2, h3⟩
      all_goals
        go_enter Try.func17, Try.ntmps17
        go_wp2_with fail
        refine hof.mono ?_
        rintro e w1 ⟨rfl, rfl⟩
        go_wp2
        go_ret
        exact ⟨rfl, HB.out⟩
    · rw [h1] at HB hof ⊢
      clear h1
      have h6 : x.key.toList.isEmpty = false := by simpa using h4
      rcases h2 with h2 | ⟨h2, h3⟩
      all_goals
        go_enter Try.func17, Try.ntmps17
        go_wp2_with fail
        refine hof.mono ?_
        rintro e w1 ⟨rfl, rfl⟩
        go_wp2
        go_ret
        exact ⟨rfl, HB.out⟩
  · rw [hx]
    rw [h1] at HB hof ⊢
    obtain ⟨h2, h4⟩ := h2
    clear hx hm h1
    rcases h3 with h3 | ⟨h3, h5⟩
    · have h6 : x.key.toList.isEmpty = false := by simpa using h3
      go_enter Try.func17, Try.ntmps17
      go_wp2_with fail
      refine hof.mono ?_
      rintro e w1 ⟨rfl, rfl⟩
      go_wp2
      go_ret
      exact ⟨rfl, HB.out⟩
    · have h6 : (x.value != 0) = true := by simpa using h5
      clear h5
      go_enter Try.func17, Try.ntmps17
      go_wp2_with fail
      refine hof.mono ?_
      rintro e w1 ⟨rfl, rfl⟩
      go_wp2
      go_ret
      exact ⟨rfl, HB.out⟩
  · exact absurd hx hm
end Go.Proofs.Ytapninpdjccglaa.C
