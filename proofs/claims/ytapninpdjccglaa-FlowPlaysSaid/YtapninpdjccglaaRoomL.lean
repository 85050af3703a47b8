/-
  What put, pass and take do to the lengths.
-/
import Derived.Test.YtapninpdjccglaaSteps
import Derived.Test.YtapninpdjccglaaMany
set_option linter.unusedVariables false
set_option linter.unusedSimpArgs false
namespace Go.Proofs.Ytapninpdjccglaa.C
open Go.RowKit Go.Proofs.Ytapninpdjccglaa.K

def nQ (F : FS) (i : Int) : Int := if 0 ≤ i ∧ i < F.s then ((F.q i.toNat).length : Int) else 0
def nB (F : FS) (j : Int) : Int := if 0 ≤ j ∧ j < F.o then ((F.b j.toNat).length : Int) else 0
theorem nB_le {F : FS} (h : FGood F) (j : Int) : 0 ≤ nB F j ∧ nB F j ≤ F.m := by
  unfold nB
  split
  · rename_i hj
    have := h.b j.toNat (by omega)
    omega
  · omega
theorem nQ_le {F : FS} (h : FGood F) (j : Int) : 0 ≤ nQ F j ∧ nQ F j ≤ 65536 := by
  unfold nQ
  split
  · rename_i hj
    have := h.q j.toNat (by omega)
    omega
  · omega
/-- The same numbers. -/
def Like (F F' : FS) : Prop := F'.s = F.s ∧ F'.o = F.o ∧ F'.m = F.m
theorem put_like (F : FS) (i : Int) (x : It) : Like F (F.put i x).2 := by
  unfold FS.put
  repeat' split
  all_goals exact ⟨rfl, rfl, rfl⟩
theorem take_like (F : FS) (j : Int) : Like F (F.take j).2.2.2 := by
  unfold FS.take
  repeat' split
  all_goals exact ⟨rfl, rfl, rfl⟩
theorem pass_like (F : FS) (i : Int) : Like F (F.pass i).2.2 := by
  unfold FS.pass
  repeat' split
  all_goals exact ⟨rfl, rfl, rfl⟩
theorem put_no {F : FS} {i : Int} {x : It} (h : (F.put i x).1 ≠ 0) : (F.put i x).2 = F := by
  unfold FS.put at h ⊢
  repeat' split
  all_goals first | rfl | skip
  rename_i h1 h2 h3
  rw [if_pos h1, if_pos h2, if_neg h3] at h
  exact absurd rfl h
theorem may_pos {x : It} (h : May x ≠ 0) : True := trivial
theorem put_yes {F : FS} {i : Int} {x : It} (h : (F.put i x).1 = 0) : nQ (F.put i x).2 i = nQ F i + 1 := by
  unfold FS.put at h ⊢
  split
  · rename_i hi
    rw [if_pos hi] at h
    split
    · rename_i hm
      rw [if_pos hm] at h
      split
      · rename_i hf
        rw [if_pos hf] at h
        exact absurd h (show ¬ (2 : Int) = 0 by decide)
      · unfold nQ FS.putq
        rw [if_pos hi, if_pos hi]
        simp
    · rename_i hm
      rw [if_neg hm] at h
      exact absurd h hm
  · rename_i hi
    rw [if_neg hi] at h
    exact absurd h (show ¬ (1 : Int) = 0 by decide)
theorem take_no {F : FS} {j : Int} (h : nB F j = 0) : (F.take j).2.2.1 ≠ 0 := by
  unfold FS.take
  split
  · rename_i hj
    unfold nB at h
    rw [if_pos hj] at h
    split
    · simp
    · rename_i h1
      rw [h1] at h
      simp at h
      omega
  · simp
theorem take_yes {F : FS} {j : Int} (h : 0 < nB F j) : (F.take j).2.2.1 = 0 ∧ nB (F.take j).2.2.2 j = nB F j - 1 := by
  unfold nB at h
  split at h
  · rename_i hj
    unfold FS.take
    rw [if_pos hj]
    split
    · rename_i h1
      rw [h1] at h
      simp at h
    · rename_i h1
      refine ⟨rfl, ?_⟩
      unfold nB FS.putb
      rw [if_pos hj, if_pos hj, h1]
      simp
  · omega
theorem pass_none {F : FS} {i : Int} (h : (F.toward i).2 ≠ 0) : (F.pass i).2.1 = (F.toward i).2 := by
  unfold FS.toward at h ⊢
  unfold FS.pass
  split
  · rename_i hi
    rw [if_pos hi] at h
    split
    · rename_i h1
      rw [h1]
    · rename_i h1
      rw [h1] at h
      exact absurd (by dsimp only; split <;> rfl) h
  · rfl
theorem pass_some {F : FS} (hg : FGood F) (hz : FTo F) {i : Int} (h : (F.toward i).2 = 0) :
    (F.m ≤ nB F (F.toward i).1 ∧ (F.pass i).2.1 = 45 ∧ (F.pass i).2.2 = F) ∨ (nB F (F.toward i).1 < F.m ∧ (F.pass i).2.1 = 0 ∧ (F.pass i).1 = (F.toward i).1 ∧ nB (F.pass i).2.2 (F.toward i).1 = nB F (F.toward i).1 + 1) := by
  by_cases hi : 0 ≤ i ∧ i < F.s
  · obtain ⟨d, rfl⟩ := Int.eq_ofNat_of_zero_le hi.1
    rcases hL : F.q d with _ | ⟨x, r⟩
    · unfold FS.toward at h
      rw [if_pos hi, Int.toNat_natCast, hL] at h
      exact absurd h (show ¬ (44 : Int) = 0 by decide)
    · have hd : d < F.s := by omega
      have hgo := goes_lt hg hz hd x
      rw [toward_goes hd hL]
      have hb : nB F (F.goes d x : Nat) = ((F.b (F.goes d x)).length : Int) := by
        unfold nB
        rw [if_pos (by omega), Int.toNat_natCast]
      have hle := hg.b _ hgo
      unfold FS.pass
      rw [if_pos hi, Int.toNat_natCast, hL]
      dsimp only
      rw [hb]
      by_cases hf : (F.b (F.goes d x)).length = F.m
      · rw [if_pos hf]
        exact .inl ⟨by omega, rfl, rfl⟩
      · rw [if_neg hf]
        right
        refine ⟨by omega, ?_⟩
        split
        · refine ⟨rfl, rfl, ?_⟩
          unfold nB FS.putb FS.putto
          rw [if_pos (by show (0 : Int) ≤ _ ∧ _ < (F.o : Int); omega)]
          simp
        · refine ⟨rfl, rfl, ?_⟩
          unfold nB FS.putb FS.putto FS.putq
          rw [if_pos (by show (0 : Int) ≤ _ ∧ _ < (F.o : Int); omega)]
          simp
  · unfold FS.toward at h
    rw [if_neg hi] at h
    exact absurd h (show ¬ (1 : Int) = 0 by decide)
end Go.Proofs.Ytapninpdjccglaa.C
