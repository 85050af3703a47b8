/-
  inOrder tells true of what OInv.done says.
-/
import Derived.Test.YtapninpdjccglaaOrderC
set_option linter.unusedVariables false
set_option linter.unusedSimpArgs false
namespace Go.Proofs.Ytapninpdjccglaa.C
open Go.RowKit Go.Proofs.Ytapninpdjccglaa.K

def nIt (P : List It) (k : Nat) : It := P[k]?.getD zitem
def nMs (T : List Ms) (k : Nat) : Ms := T[k]?.getD ⟨0, zitem⟩
theorem drop_nIt {P : List It} {a : Nat} (h : a < P.length) : P.drop a = nIt P a :: P.drop (a + 1) := by
  rw [List.drop_eq_getElem_cons h, nIt, List.getElem?_eq_getElem h]; rfl
theorem drop_nMs {T : List Ms} {a : Nat} (h : a < T.length) : T.drop a = nMs T a :: T.drop (a + 1) := by
  rw [List.drop_eq_getElem_cons h, nMs, List.getElem?_eq_getElem h]; rfl
theorem order_yes (w : World) (σ : Nat → Nat) (t g : Nat) (F : FS) (hF : FlowAt w σ t g F) (P : List It) (T : List Ms) (hp : ∀ x ∈ P, ItOk x) (A : Option Addr) (cA : Nat) (B : Option Addr) (cB : Nat)
    (hA : Rd w 4 A P.length (fun k => it (nIt P k))) (hB : Rd w 5 B T.length (fun k => ms (nMs T k))) (hcA : P.length ≤ cA) (hcB : T.length ≤ cB) (hmA : P.length ≤ 1000000) (hmB : T.length ≤ 1000000) (i j : Nat)
    (he : of_ i T = P.filter (mine F.o j)) :
    Calls Try.prog 21 #[.slice A P.length cA, .slice B T.length cB, .int .i64 i, .int .i64 j, .pointer (some ⟨g, 0, none⟩)] w fun e w' => e = .returned (.bool true) ∧ Below w.heap.size w w' := by
  refine order_c w σ t g F hF P.length T.length (nIt P) (nMs T) (fun k hk => hp _ ?_) A cA B cB hA hB hcA hcB hmA hmB i j (fun a k => of_ i (T.drop k) = (P.drop a).filter (mine F.o j) ∧ a ≤ P.length) ⟨he, Nat.zero_le _⟩ ?_ ?_ ?_ ?_
  · rw [nIt, List.getElem?_eq_getElem hk]
    exact List.getElem_mem hk
  · intro a k hk h hs
    rw [drop_nMs hk, of_cons, if_neg hs] at h
    exact h
  · intro a k hk h hs
    obtain ⟨h, ha⟩ := h
    rw [drop_nMs hk, of_cons, if_pos hs] at h
    have haP : a < P.length := by
      rcases Nat.lt_or_ge a P.length with h1 | h1
      · exact h1
      · rw [List.drop_eq_nil_of_le h1] at h
        cases h
    refine ⟨haP, ?_⟩
    rw [drop_nIt haP, List.filter_cons] at h
    by_cases hm : mine F.o j (nIt P a) = true
    · rw [if_pos hm] at h ⊢
      obtain ⟨h1, h2⟩ := List.cons.inj h
      exact ⟨h1.symm, h2, haP⟩
    · rw [if_neg hm] at h ⊢
      refine ⟨?_, haP⟩
      rw [drop_nMs hk, of_cons, if_pos hs]
      exact h
  · intro a h haP
    obtain ⟨h, _⟩ := h
    rw [List.drop_length, drop_nIt haP, List.filter_cons] at h
    by_cases hm : mine F.o j (nIt P a) = true
    · rw [if_pos hm] at h
      cases h
    · rw [if_neg hm] at h
      exact ⟨by simpa using hm, by rw [List.drop_length]; exact h, haP⟩
  · intro a k h
    exact h.2
end Go.Proofs.Ytapninpdjccglaa.C
