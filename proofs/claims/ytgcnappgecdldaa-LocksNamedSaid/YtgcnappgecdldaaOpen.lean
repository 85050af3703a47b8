/-
  Arguments opened to cells: slices of whole numbers, slices of structs of whole numbers. (The first theorem is one of the guide's words to copy, for any number of one-cell fields.)
-/
import Derived.Test.YtgcnappgecdldaaKit
import Derived.Deep.Slices
import Derived.Deep.Fields
import Derived.ChangeSame
import Derived.SizedLaws
import Derived.ChangeSlices
set_option linter.unusedVariables false
namespace Go.Proofs.Ytgcnappgecdldaa.K
open Go.RowKit Go.ChangeShapes Go.WideShapes Go.Deep

section
variable {H : Type} {enc : TypeId × Value → H} {P : Program} {w : World} {base : Nat} {spare : Nat → Bool} {held : Bool}
theorem open_slice_fields {t e : TypeId} {fs : Array Field} {fuel : Nat} {cs : List Value} {x : DataW H × List MemPlace} (ht : P.underlying t = some (.slice e)) (he : P.underlying e = some (.struct fs))
    (hone : oneCellFields P fs = true) (hC : P.cellsOf e = fs.size) (h : DataW.trod enc P w base spare held fuel t cs = some x) :
    (cs = [.slice none 0 0] ∧ x = (.nil, [])) ∨
    ∃ (a : Addr) (len cap m : Nat) (D : Nat → DataW H) (Pl : Nat → List MemPlace), cs = [.slice (some a) len cap] ∧ base ≤ a.block ∧ len ≤ cap ∧ cap ≤ maxLen ∧ m = (if spare a.block then cap else len) ∧
      x = (.slice ((List.range len).map D) ((List.range (m - len)).map fun j => D (len + j)), MemPlace.row a (m * fs.size) ++ (List.range m).flatMap Pl) ∧
      ∀ i, i < m → ∃ (ys : List (DataW H × List MemPlace)) (n : Nat), D i = .agg (ys.map (·.1)) ∧ Pl i = ys.flatMap (·.2) ∧ ys.length = fs.size ∧
        ∀ (j : Nat) (f : Field), fs[j]? = some f → ∃ (v : Value) (y : DataW H × List MemPlace), w.cell? (a.add (i * fs.size + j)) = some v ∧ ys[j]? = some y ∧ DataW.trod enc P w base spare held n f.type [v] = some y := by
  rcases open_slice ht h with h0 | ⟨a, len, cap, m, n, D, Pl, hcs, hb, hl, hm, hmm, hx, hi⟩
  · exact .inl h0
  · refine .inr ⟨a, len, cap, m, D, Pl, hcs, hb, hl, hm, hmm, by rw [hC] at hx; exact hx, fun i him => ?_⟩
    obtain ⟨cs', hc, ht'⟩ := hi i him
    rw [hC] at hc
    obtain ⟨ys, n', hn', hy, hlen, hyl, hf⟩ := DataW.trod_struct he ht'
    obtain ⟨_, hcl, hat⟩ := World.cells?_some hc
    simp only [Prod.mk.injEq] at hy
    refine ⟨ys, n', hy.1, hy.2, hyl, fun j f hj => ?_⟩
    obtain ⟨ho, hk⟩ := hone_of hone j f hj
    have hjl : j < fs.size := (Array.getElem?_eq_some_iff.1 hj).1
    have hcell := hat j hjl
    have hv : cs'[j]? = some (cs'[j]'(by omega)) := List.getElem?_eq_getElem (by omega)
    have h1 := hf j f hj
    rw [ho, hk] at h1
    have hone' : (cs'.drop j).take 1 = [cs'[j]'(by omega)] := by
      rw [List.drop_eq_getElem_cons (by omega)]
      rfl
    rw [hone'] at h1
    have hys : ys[j]? = some (ys[j]'(by omega)) := List.getElem?_eq_getElem (by omega)
    refine ⟨_, _, ?_, hys, h1.trans hys⟩
    rw [← Go.Deep.add_add, hcell, hv]
end

/-- The number that a cell holds (0: none). -/
def numAt (w : World) (a : Addr) : Int := match w.cell? a with | some (.int _ x) => x | _ => 0

theorem addr_of_cell {w : World} {a : Addr} {v : Value} (h : w.cell? a = some v) : a = ⟨a.block, a.off, none⟩ := by
  obtain ⟨b, off, sp⟩ := a
  cases sp with
  | none => rfl
  | some s =>
    simp only [World.cell?] at h
    split at h <;> simp at h

theorem add_plain (b off j : Nat) : (⟨b, off, none⟩ : Addr).add j = ⟨b, off + j, none⟩ := by
  unfold Addr.add; split <;> simp_all

theorem spot_of_add {a : Addr} {j : Nat} {w : World} {v : Value} (h : w.cell? (a.add j) = some v) (hj : j = 0) : a = ⟨a.block, a.off, none⟩ := by
  subst hj
  have e : a.add 0 = a := by unfold Addr.add; simp
  rw [e] at h
  exact addr_of_cell h

/-- A slice of structs of m whole numbers (int64): f i j: the j-th number of the i-th element. -/
structure Flat (w : World) (m : Nat) (A : Option Addr) (n : Nat) (f : Nat → Nat → Int) : Prop where
  at_ : 0 < n → ∃ b off, A = some ⟨b, off, none⟩ ∧ b < w.heap.size ∧ ∀ i, i < n → ∀ j, j < m → w.cell? ⟨b, off + (i * m + j), none⟩ = some (.int .i64 (f i j))
  wf : ∀ i, i < n → ∀ j, j < m → (Lit.int .i64 (f i j)).wf = true

section
variable {H : Type} {enc : TypeId × Value → H} {P : Program} {W : World} {base : Nat} {spare : Nat → Bool} {held : Bool}
theorem open_flat {ts : List TypeId} {ds : List (DataW H)} {j t e m B : Nat} {fs : Array Field} {v : Value} {d : DataW H} {ps : List MemPlace} {r : Reach} {b0 : Nat}
    (hsz : (DataW.weightsEach P ts ds).all (· ≤ reachBytes) = true) (htj : ts[j]? = some t) (hd : ds[j]? = some d) (hok : Value.okWide P W r b0 t v)
    (ht : P.underlying t = some (.slice e)) (he : P.underlying e = some (.struct fs)) (hone : oneCellFields P fs = true) (hC : P.cellsOf e = fs.size) (hm : fs.size = m) (hm0 : 0 < m)
    (hk : ∀ (i : Nat) (f : Field), fs[i]? = some f → P.underlying f.type = some (.int .i64)) (hB : P.bytesOf e = B)
    (h : DataW.Trod enc P W base spare held t v d ps) :
    ∃ (A : Option Addr) (n c : Nat) (f : Nat → Nat → Int), v = .slice A n c ∧ n ≤ c ∧ Flat W m A n f ∧ n * B ≤ 140737488351232 := by
  obtain ⟨A, n, c, rfl⟩ := okWide_slice ht hok
  obtain ⟨fuel, hf⟩ := h
  subst hm
  rcases open_slice_fields ht he hone hC hf with ⟨hcs, hx⟩ | ⟨a, len, cap, m, D, Pl, hcs, hb, hl, hmx, hmm, hx, hi⟩
  · simp [Value.cells] at hcs
    obtain ⟨rfl, rfl, rfl⟩ := hcs
    exact ⟨none, 0, 0, fun _ _ => 0, rfl, Nat.le_refl _, ⟨fun h => absurd h (by omega), fun i hi => absurd hi (by omega)⟩, by simp⟩
  · simp [Value.cells] at hcs
    obtain ⟨rfl, rfl, rfl⟩ := hcs
    obtain ⟨hx, _⟩ := Prod.mk.inj hx
    subst hx
    have hw := sized_slice hsz htj hd ht
    rw [hB] at hw
    have hlm : n ≤ m := by rw [hmm]; split <;> omega
    have hcell : ∀ i, i < n → ∀ j, j < fs.size → ∃ x, W.cell? (a.add (i * fs.size + j)) = some (.int .i64 x) ∧ (Lit.int .i64 x).wf = true := by
      intro i him j hj
      obtain ⟨ys, k, _, _, _, hfj⟩ := hi i (by omega)
      obtain ⟨v, y, hc, _, hy⟩ := hfj j fs[j] (Array.getElem?_eq_getElem hj)
      obtain ⟨x, hx, _, hwf⟩ := DataW.trod_int (hk j fs[j] (Array.getElem?_eq_getElem hj)) hy
      simp at hx
      subst hx
      exact ⟨x, hc, hwf⟩
    refine ⟨some a, n, c, fun i j => numAt W (a.add (i * fs.size + j)), rfl, hl, ⟨fun hn => ?_, fun i him j hj => ?_⟩, ?_⟩
    · obtain ⟨x, hx, _⟩ := hcell 0 hn 0 hm0
      have ha := spot_of_add hx (by simp)
      refine ⟨a.block, a.off, by rw [← ha], ?_, fun i him j hj => ?_⟩
      · have := World.block_lt_of_cell? W _ hx
        rw [ha, add_plain] at this
        exact this
      · obtain ⟨x, hx, _⟩ := hcell i him j hj
        have e : W.cell? ⟨a.block, a.off + (i * fs.size + j), none⟩ = W.cell? (a.add (i * fs.size + j)) := by rw [← add_plain, ← ha]
        rw [e, hx]
        simp [numAt, hx]
    · obtain ⟨x, hx, hwf⟩ := hcell i him j hj
      simpa [numAt, hx] using hwf
    · have : ((List.range n).map D).length + ((List.range (m - n)).map fun j => D (n + j)).length = m := by simp; omega
      rw [this] at hw
      exact Nat.le_trans (Nat.mul_le_mul_right _ hlm) hw
end

/-- A slice of whole numbers (int64): f i: the i-th. -/
structure Flat1 (w : World) (A : Option Addr) (n : Nat) (f : Nat → Int) : Prop where
  at_ : 0 < n → ∃ b off, A = some ⟨b, off, none⟩ ∧ b < w.heap.size ∧ ∀ i, i < n → w.cell? ⟨b, off + i, none⟩ = some (.int .i64 (f i))
  wf : ∀ i, i < n → (Lit.int .i64 (f i)).wf = true

section
variable {H : Type} {enc : TypeId × Value → H} {P : Program} {W : World} {base : Nat} {spare : Nat → Bool} {held : Bool}
theorem open_flat1 {ts : List TypeId} {ds : List (DataW H)} {j t e B : Nat} {v : Value} {d : DataW H} {ps : List MemPlace} {r : Reach} {b0 : Nat}
    (hsz : (DataW.weightsEach P ts ds).all (· ≤ reachBytes) = true) (htj : ts[j]? = some t) (hd : ds[j]? = some d) (hok : Value.okWide P W r b0 t v)
    (ht : P.underlying t = some (.slice e)) (he : P.underlying e = some (.int .i64)) (hC : P.cellsOf e = 1) (hB : P.bytesOf e = B)
    (h : DataW.Trod enc P W base spare held t v d ps) :
    ∃ (A : Option Addr) (n c : Nat) (f : Nat → Int), v = .slice A n c ∧ n ≤ c ∧ Flat1 W A n f ∧ n * B ≤ 140737488351232 := by
  obtain ⟨A, n, c, rfl⟩ := okWide_slice ht hok
  obtain ⟨fuel, hf⟩ := h
  rcases open_ints ht he hC hf with ⟨hcs, hx⟩ | ⟨x, l, cap, zs, hcs, _, hl, hm, hz, hx, hcell, hwz⟩
  · simp [Value.cells] at hcs
    obtain ⟨rfl, rfl, rfl⟩ := hcs
    exact ⟨none, 0, 0, fun _ => 0, rfl, Nat.le_refl _, ⟨fun h => absurd h (by omega), fun i hi => absurd hi (by omega)⟩, by simp⟩
  · simp [Value.cells] at hcs
    obtain ⟨rfl, rfl, rfl⟩ := hcs
    obtain ⟨hx, _⟩ := Prod.mk.inj hx
    subst hx
    have hw := sized_slice hsz htj hd ht
    rw [hB] at hw
    have hl2 : n ≤ zs.length := by rw [hz]; split <;> omega
    refine ⟨some x, n, c, fun i => zs.getD i 0, rfl, hl, ⟨fun hn => ?_, fun i hi => ?_⟩, ?_⟩
    · have h0 := hcell 0 (by omega)
      have ha := spot_of_add h0 rfl
      refine ⟨x.block, x.off, by rw [← ha], ?_, fun i hi => ?_⟩
      · have := World.block_lt_of_cell? W _ h0
        rw [ha, add_plain] at this
        exact this
      · have e : W.cell? ⟨x.block, x.off + i, none⟩ = W.cell? (x.add i) := by rw [← add_plain, ← ha]
        rw [e, hcell i (by omega)]
    · refine hwz _ ?_
      rw [List.getD_eq_getElem?_getD, List.getElem?_eq_getElem (by omega)]
      exact List.getElem_mem _
    · have h1 : (lits (H := H) .i64 (zs.take n)).length + (lits (H := H) .i64 (zs.drop n)).length = zs.length := by
        simp [lits]
        omega
      rw [h1] at hw
      exact Nat.le_trans (Nat.mul_le_mul_right _ hl2) hw
end
end Go.Proofs.Ytgcnappgecdldaa.K
