/-
  Arguments opened to what they read: bytes; rows of bytes.
-/
import Derived.Test.YtalabfbnbiagiaaOpen
import Derived.Test.YtalabfbnbiagiaaTag
set_option linter.unusedVariables false
namespace Go.Proofs.Ytalabfbnbiagiaa.K
open Go.RowKit Go.ChangeShapes Go.WideShapes Go.Deep

section
variable {H : Type} {enc : TypeId × Value → H} {P : Program} {W : World} {base : Nat} {spare : Nat → Bool} {held : Bool}
/-- One slice of bytes, as a cell holds it. -/
theorem bytes_cell {t e : TypeId} {fuel : Nat} {A : Option Addr} {n c : Nat} {x : DataW H × List MemPlace} (ht : P.underlying t = some (.slice e)) (he : P.underlying e = some (.int .u8)) (hC : P.cellsOf e = 1)
    (hf : DataW.trod enc P W base spare held fuel t [.slice A n c] = some x) : ∃ L : List Int, n ≤ c ∧ c ≤ maxLen ∧ L.length = n ∧ Reads W A (nums .u8 L) := by
  rcases open_ints ht he hC hf with ⟨hcs, hx⟩ | ⟨x, l, cap, zs, hcs, _, hl, hm, hz, hx, hcell, hwz⟩
  · simp at hcs
    obtain ⟨rfl, rfl, rfl⟩ := hcs
    exact ⟨[], Nat.le_refl _, Nat.zero_le _, rfl, Reads.nil _ _⟩
  · simp at hcs
    obtain ⟨rfl, rfl, rfl⟩ := hcs
    have hl2 : n ≤ zs.length := by rw [hz]; split <;> omega
    refine ⟨zs.take n, hl, hm, by rw [List.length_take]; omega, ?_⟩
    intro j u hu
    have hj : j < n := by
      have := (List.getElem?_eq_some_iff.1 hu).1
      rw [nums_length, List.length_take] at this
      omega
    rw [nums_get _ _ _ (by rw [List.length_take]; omega)] at hu
    obtain rfl := Option.some.inj hu
    refine ⟨x, rfl, ?_⟩
    rw [hcell j (by omega)]
    congr 2
    unfold nth
    rw [List.getD_eq_getElem?_getD, List.getD_eq_getElem?_getD, List.getElem?_take, if_pos hj]

theorem open_bytes {ts : List TypeId} {ds : List (DataW H)} {j t e : Nat} {v : Value} {d : DataW H} {ps : List MemPlace} {r : Reach} {b0 : Nat}
    (hsz : (DataW.weightsEach P ts ds).all (· ≤ reachBytes) = true) (htj : ts[j]? = some t) (hd : ds[j]? = some d) (hok : Value.okWide P W r b0 t v)
    (ht : P.underlying t = some (.slice e)) (he : P.underlying e = some (.int .u8)) (hC : P.cellsOf e = 1) (hB : P.bytesOf e = 1)
    (h : DataW.Trod enc P W base spare held t v d ps) :
    ∃ (A : Option Addr) (n c : Nat) (L : List Int), v = .slice A n c ∧ n ≤ c ∧ L.length = n ∧ Reads W A (nums .u8 L) ∧ n ≤ 140737488351232 := by
  obtain ⟨A, n, c, rfl⟩ := okWide_slice ht hok
  obtain ⟨fuel, hf⟩ := h
  obtain ⟨L, h1, h2, h3, h4⟩ := bytes_cell ht he hC hf
  refine ⟨A, n, c, L, rfl, h1, h3, h4, ?_⟩
  rcases open_ints ht he hC hf with ⟨hcs, hx⟩ | ⟨x, l, cap, zs, hcs, _, hl, hm, hz, hx, hcell, hwz⟩
  · simp [Value.cells] at hcs
    omega
  · simp [Value.cells] at hcs
    obtain ⟨rfl, rfl, rfl⟩ := hcs
    obtain ⟨hx, _⟩ := Prod.mk.inj hx
    subst hx
    have hw := sized_slice hsz htj hd ht
    rw [hB] at hw
    have hl2 : n ≤ zs.length := by rw [hz]; split <;> omega
    have h1 : (lits (H := H) .u8 (zs.take n)).length + (lits (H := H) .u8 (zs.drop n)).length = zs.length := by
      simp [lits]
      omega
    rw [h1] at hw
    exact Nat.le_trans (by omega) hw

/-- Rows of bytes, as an argument. -/
def RowsOf (W : World) (A : Option Addr) (n : Nat) : Prop :=
  ∀ i, i < n → ∃ (b o : Nat) (Ai : Option Addr) (ni ci : Nat) (L : List Int), A = some ⟨b, o, none⟩ ∧ b < W.heap.size ∧ W.cell? ⟨b, o + i, none⟩ = some (.slice Ai ni ci) ∧ ni ≤ ci ∧ ci ≤ maxLen ∧ L.length = ni ∧ Reads W Ai (nums .u8 L)

theorem open_rows {ts : List TypeId} {ds : List (DataW H)} {j t e u : Nat} {v : Value} {d : DataW H} {ps : List MemPlace} {r : Reach} {b0 : Nat}
    (hsz : (DataW.weightsEach P ts ds).all (· ≤ reachBytes) = true) (htj : ts[j]? = some t) (hd : ds[j]? = some d) (hok : Value.okWide P W r b0 t v)
    (ht : P.underlying t = some (.slice e)) (he : P.underlying e = some (.slice u)) (hu : P.underlying u = some (.int .u8)) (hC : P.cellsOf e = 1) (hCu : P.cellsOf u = 1) (hB : P.bytesOf e = 24)
    (h : DataW.Trod enc P W base spare held t v d ps) :
    ∃ (A : Option Addr) (n c : Nat), v = .slice A n c ∧ n ≤ c ∧ RowsOf W A n ∧ n * 24 ≤ 140737488351232 := by
  obtain ⟨A, n, c, rfl⟩ := okWide_slice ht hok
  obtain ⟨fuel, hf⟩ := h
  rcases open_slice ht hf with ⟨hcs, hx⟩ | ⟨a, len, cap, m, k, D, Pl, hcs, hb, hl, hm, hmm, hx, hi⟩
  · simp [Value.cells] at hcs
    obtain ⟨rfl, rfl, rfl⟩ := hcs
    exact ⟨none, 0, 0, rfl, Nat.le_refl _, fun i hi => absurd hi (by omega), by omega⟩
  · simp [Value.cells] at hcs
    obtain ⟨rfl, rfl, rfl⟩ := hcs
    obtain ⟨hx, _⟩ := Prod.mk.inj hx
    subst hx
    have hnm : n ≤ m := by rw [hmm]; split <;> omega
    refine ⟨some a, n, c, rfl, hl, fun i hin => ?_, ?_⟩
    · obtain ⟨cs', hc, htr⟩ := hi i (by omega)
      rw [hC] at hc
      obtain ⟨_, hcl, hat⟩ := World.cells?_some hc
      obtain ⟨w0, rfl⟩ : ∃ w0, cs' = [w0] := by
        rcases cs' with _ | ⟨w0, _ | ⟨w1, r⟩⟩
        · simp at hcl
        · exact ⟨w0, rfl⟩
        · simp at hcl
      have hc0 := hat 0 (by omega)
      rw [Nat.mul_one, Go.Deep.add_add, Nat.add_zero] at hc0
      rw [show ([w0] : List Value)[0]? = some w0 from rfl] at hc0
      obtain ⟨Ai, ni, ci, rfl⟩ : ∃ Ai ni ci, w0 = .slice Ai ni ci := by
        rcases open_ints he hu hCu htr with ⟨h1, _⟩ | ⟨x, l, cp, zs, h1, _⟩
        · simp at h1
          exact ⟨_, _, _, h1⟩
        · simp at h1
          exact ⟨_, _, _, h1⟩
      obtain ⟨L, h1, h2, h3, h4⟩ := bytes_cell he hu hCu htr
      obtain ⟨cs0, hc1, htr1⟩ := hi 0 (by omega)
      rw [hC] at hc1
      obtain ⟨_, hcl1, hat1⟩ := World.cells?_some hc1
      have hc2 := hat1 0 (by omega)
      rw [List.getElem?_eq_getElem (by omega), Nat.mul_one, Go.Deep.add_add, Nat.add_zero] at hc2
      have ha := spot_of_add hc2 rfl
      refine ⟨a.block, a.off, Ai, ni, ci, L, by rw [← ha], ?_, ?_, h1, h2, h3, h4⟩
      · have := World.block_lt_of_cell? W _ hc0
        rw [ha, add_plain] at this
        exact this
      · rw [← add_plain, ← ha]
        exact hc0
    · have hw := sized_slice hsz htj hd ht
      rw [hB] at hw
      simp only [List.length_map, List.length_range] at hw
      exact Nat.le_trans (Nat.mul_le_mul_right _ (Nat.le_add_right _ _)) hw
end
end Go.Proofs.Ytalabfbnbiagiaa.K
