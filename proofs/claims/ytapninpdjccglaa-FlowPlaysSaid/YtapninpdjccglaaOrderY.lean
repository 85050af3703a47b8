/-
  FlowOrder: the check of the told rows at the end.
-/
import Derived.Test.YtapninpdjccglaaOrderX
set_option linter.unusedVariables false
set_option linter.unusedSimpArgs false
namespace Go.Proofs.Ytapninpdjccglaa.C
open Go.RowKit Go.Proofs.Ytapninpdjccglaa.K

theorem flat_get {α : Type} (f : α → List Value) {m : Nat} (hm : ∀ x, (f x).length = m) : ∀ (L : List α) (i : Nat) (x : α), L[i]? = some x → ∀ c v, (f x)[c]? = some v → (L.flatMap f)[i * m + c]? = some v
  | [], i, x, h, _, _, _ => by simp at h
  | y :: L, 0, x, h, c, v, hv => by
    obtain rfl : y = x := by simpa using h
    have hc : c < (f y).length := (List.getElem?_eq_some_iff.1 hv).1
    rw [List.flatMap_cons, Nat.zero_mul, Nat.zero_add, List.getElem?_append_left hc]
    exact hv
  | y :: L, i + 1, x, h, c, v, hv => by
    have h2 := flat_get f hm L i x (by simpa using h) c v hv
    rw [List.flatMap_cons, Nat.add_mul, Nat.one_mul, List.getElem?_append_right (by rw [hm]; omega), hm]
    rw [show i * m + m + c - m = i * m + c by omega]
    exact h2
theorem SRow.rd {α : Type} {w : World} {σ : Nat → Nat} {t : Nat} {e : TypeId} {m : Nat} {A : Option Addr} {n c : Nat} {L : List α} {f : α → List Value} {z : α} (h : SRow w σ t e m (.slice A n c) n (L.flatMap f)) (hn : L.length = n) (hm : ∀ x, (f x).length = m) :
    Rd w m A n (fun k => f (L[k]?.getD z)) := by
  intro h0
  obtain ⟨b, off, cap, hv, _, _, _, hlt, hc, _⟩ := h.form h0
  cases hv
  refine ⟨b, off, rfl, hlt, fun i hi c v hv => hc _ _ ?_⟩
  have hx : L[i]? = some L[i] := List.getElem?_eq_getElem (by omega)
  dsimp only at hv
  rw [hx] at hv
  exact flat_get f hm L i _ hx c v hv
theorem OW.check {w0 w : World} {g gp gt o s len : Nat} {σ : Nat → Nat} {F : FS} {P : Nat → List It} {T : Nat → List Ms} {pv tv : Nat → Value} (h : OW w0 g gp gt o s len w σ F P T pv tv)
    (hP : ∀ i, i < s → (P i).length ≤ 5000 ∧ ∀ x ∈ P i, ItOk x) (hT : ∀ j, j < o → (T j).length ≤ 40000) (hd : ∀ i, i < s → ∀ j, j < o → of_ i (T j) = (P i).filter (mine o j)) {i j : Nat} (hi : i < s) (hj : j < o) :
    ∃ A n c B n2 c2, pv i = .slice A n c ∧ tv j = .slice B n2 c2 ∧ w.cell? ⟨gp, i, none⟩ = some (.slice A n c) ∧ w.cell? ⟨gt, j, none⟩ = some (.slice B n2 c2) ∧ ∀ W, Below w.heap.size w W → Calls Try.prog 21 #[.slice A n c, .slice B n2 c2, .int .i64 i, .int .i64 j, .pointer (some ⟨g, 0, none⟩)] W fun e w' => e = .returned (.bool true) ∧ Below W.heap.size W w' := by
  have hp := h.ps i hi
  have ht := h.ts j hj
  obtain ⟨A, c, hv, hnc⟩ := hp.slice
  obtain ⟨B, c2, hv2, hnc2⟩ := ht.slice
  have q0 : w.cell? ⟨gp, i, none⟩ = some (pv i) := h.rp.cell hi
  have q1 : w.cell? ⟨gt, j, none⟩ = some (tv j) := h.rt.cell hj
  rw [hv] at hp q0
  rw [hv2] at ht q1
  refine ⟨A, _, c, B, _, c2, hv, hv2, q0, q1, fun W hb => ?_⟩
  have hpW := hp.below hb
  have htW := ht.below hb
  exact order_yes W σ 1000 g F (h.at_.below hb) (P i) (T j) (hP i hi).2 A c B c2 (SRow.rd (z := zitem) hpW rfl (fun x => rfl)) (SRow.rd (α := Ms) (f := ms) (z := ⟨0, zitem⟩) htW rfl (fun x => rfl)) hnc hnc2 (by have := (hP i hi).1; omega) (by have := hT j hj; omega) i j (by rw [h.ho]; exact hd i hi j hj)
theorem OInv.end_ {F : FS} {P : Nat → List It} {T : Nat → List Ms} (h : OInv F P T) (h0 : F.left = 0) {s o : Nat} (hs : F.s = s) (ho : F.o = o) : ∀ i, i < s → ∀ j, j < o → of_ i (T j) = (P i).filter (mine o j) := by
  obtain ⟨h1, h2⟩ := left_nil h0
  intro i hi j hj
  rw [← ho]
  exact h.done h1 h2 (by omega) (by omega)
end Go.Proofs.Ytapninpdjccglaa.C
