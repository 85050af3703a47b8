/-
  A script of steps, as an argument, opened to its cells.
-/
import Derived.Test.YtapninpdjccglaaG5
import Derived.Test.YtapninpdjccglaaOpen
set_option linter.unusedVariables false
set_option linter.unusedSimpArgs false
namespace Go.Proofs.Ytapninpdjccglaa.C
open Go.RowKit Go.Proofs.Ytapninpdjccglaa.K Go.ChangeShapes Go.WideShapes Go.Deep

/-- A step. -/
structure St where
  kind : Int
  a : Int
  item : It
def stv (s : St) : List Value := .int .i64 s.kind :: .int .i64 s.a :: it s.item

section
variable {H : Type} {enc : TypeId × Value → H} {W : World} {base : Nat} {spare : Nat → Bool} {held : Bool}
theorem open_item {fuel : Nat} {cs : List Value} {x : DataW H × List MemPlace} (h : DataW.trod enc Try.prog W base spare held fuel 33 cs = some x) : ∃ y : It, cs = it y := by
  obtain ⟨ys, m, _, _, hlen, hyl, hf⟩ := DataW.trod_struct Try.underlying33 h
  have hl : cs.length = 4 := hlen.trans (by kernel_rfl)
  obtain ⟨c0, c1, c2, c3, rfl⟩ : ∃ c0 c1 c2 c3, cs = [c0, c1, c2, c3] := by
    rcases cs with _ | ⟨c0, _ | ⟨c1, _ | ⟨c2, _ | ⟨c3, _ | ⟨c4, r⟩⟩⟩⟩⟩ <;> simp at hl
    exact ⟨c0, c1, c2, c3, rfl⟩
  have hy : ys.length = 4 := hyl
  have h0 := hf 0 _ rfl
  have h1 := hf 1 _ rfl
  have h2 := hf 2 _ rfl
  have h3 := hf 3 _ rfl
  rw [List.getElem?_eq_getElem (by omega)] at h0 h1 h2 h3
  simp only [List.getElem_toArray, List.getElem_cons_zero, List.getElem_cons_succ] at h0 h1 h2 h3
  rw [show Try.prog.cellsOf 4 = 1 by kernel_rfl] at h0
  rw [show Try.prog.cellsOf 9 = 1 by kernel_rfl] at h1
  rw [show Try.prog.cellsOf 2 = 1 by kernel_rfl] at h2 h3
  obtain ⟨b, e0, _⟩ := DataW.trod_bool Try.underlying4 h0
  obtain ⟨s, e1, _⟩ := DataW.trod_string Try.underlying9 h1
  obtain ⟨n, e2, _⟩ := DataW.trod_int Try.underlying2 h2
  obtain ⟨k, e3, _⟩ := DataW.trod_int Try.underlying2 h3
  simp at e0 e1 e2 e3
  subst e0 e1 e2 e3
  exact ⟨⟨b, s, n, k⟩, rfl⟩
theorem open_step {fuel : Nat} {cs : List Value} {x : DataW H × List MemPlace} (h : DataW.trod enc Try.prog W base spare held fuel 35 cs = some x) : ∃ y : St, cs = stv y ∧ (Lit.int .i64 y.kind).wf = true ∧ (Lit.int .i64 y.a).wf = true := by
  obtain ⟨ys, m, _, _, hlen, hyl, hf⟩ := DataW.trod_struct Try.underlying35 h
  have hl : cs.length = 6 := hlen.trans (by kernel_rfl)
  obtain ⟨c0, c1, c2, c3, c4, c5, rfl⟩ : ∃ c0 c1 c2 c3 c4 c5, cs = [c0, c1, c2, c3, c4, c5] := by
    rcases cs with _ | ⟨c0, _ | ⟨c1, _ | ⟨c2, _ | ⟨c3, _ | ⟨c4, _ | ⟨c5, _ | ⟨c6, r⟩⟩⟩⟩⟩⟩⟩ <;> simp at hl
    exact ⟨c0, c1, c2, c3, c4, c5, rfl⟩
  have hy : ys.length = 3 := hyl
  have h0 := hf 0 _ rfl
  have h1 := hf 1 _ rfl
  have h2 := hf 2 _ rfl
  rw [List.getElem?_eq_getElem (by omega)] at h0 h1 h2
  simp only [List.getElem_toArray, List.getElem_cons_zero, List.getElem_cons_succ] at h0 h1 h2
  rw [show Try.prog.cellsOf 3 = 1 by kernel_rfl] at h0 h1
  rw [show Try.prog.cellsOf 33 = 4 by kernel_rfl] at h2
  obtain ⟨n, e0, _, w0⟩ := DataW.trod_int Try.underlying3 h0
  obtain ⟨k, e1, _, w1⟩ := DataW.trod_int Try.underlying3 h1
  obtain ⟨y, e2⟩ := open_item h2
  simp at e0 e1
  subst e0 e1
  simp only [List.drop_succ_cons, List.drop_zero, List.take_succ_cons, List.take_zero] at e2
  exact ⟨⟨n, k, y⟩, by rw [stv, ← e2], w0, w1⟩

/-- A slice of steps. -/
structure Steps (w : World) (A : Option Addr) (n : Nat) (f : Nat → St) : Prop where
  at_ : 0 < n → ∃ b off, A = some ⟨b, off, none⟩ ∧ b < w.heap.size ∧ ∀ i, i < n → ∀ c v, (stv (f i))[c]? = some v → w.cell? ⟨b, off + (i * 6 + c), none⟩ = some v
  wf : ∀ i, i < n → (Lit.int .i64 (f i).kind).wf = true ∧ (Lit.int .i64 (f i).a).wf = true

theorem open_steps {ts : List TypeId} {ds : List (DataW H)} {j : Nat} {v : Value} {d : DataW H} {ps : List MemPlace} {r : Reach} {b0 : Nat}
    (hsz : (DataW.weightsEach Try.prog ts ds).all (· ≤ reachBytes) = true) (htj : ts[j]? = some 23) (hd : ds[j]? = some d) (hok : Value.okWide Try.prog W r b0 23 v)
    (h : DataW.Trod enc Try.prog W base spare held 23 v d ps) :
    ∃ (A : Option Addr) (n c : Nat) (f : Nat → St), v = .slice A n c ∧ n ≤ c ∧ Steps W A n f ∧ n ≤ 140737488351232 := by
  obtain ⟨A, n, c, rfl⟩ := okWide_slice Try.underlying23 hok
  obtain ⟨fuel, hf⟩ := h
  rcases open_slice Try.underlying23 hf with ⟨hcs, hx⟩ | ⟨a, len, cap, m, k, D, Pl, hcs, hb, hl, hm, hmm, hx, hi⟩
  · simp [Value.cells] at hcs
    obtain ⟨rfl, rfl, rfl⟩ := hcs
    exact ⟨none, 0, 0, fun _ => ⟨0, 0, zitem⟩, rfl, Nat.le_refl _, ⟨fun h => absurd h (by omega), fun i hi => absurd hi (by omega)⟩, by omega⟩
  · simp [Value.cells] at hcs
    obtain ⟨rfl, rfl, rfl⟩ := hcs
    obtain ⟨hx, _⟩ := Prod.mk.inj hx
    subst hx
    have hnm : n ≤ m := by rw [hmm]; split <;> omega
    have each : ∀ i, i < n → ∃ y : St, (∀ c v, (stv y)[c]? = some v → W.cell? (a.add (i * 6 + c)) = some v) ∧ (Lit.int .i64 y.kind).wf = true ∧ (Lit.int .i64 y.a).wf = true := by
      intro i hin
      obtain ⟨cs', hc, htr⟩ := hi i (by omega)
      rw [show Try.prog.cellsOf 35 = 6 by kernel_rfl] at hc
      obtain ⟨_, hcl, hat⟩ := World.cells?_some hc
      obtain ⟨y, rfl, w0, w1⟩ := open_step htr
      refine ⟨y, fun c v hv => ?_, w0, w1⟩
      have hlt : c < 6 := by
        have := (List.getElem?_eq_some_iff.1 hv).1
        simpa [stv, it] using this
      have h1 := hat c hlt
      rw [← Go.Deep.add_add, h1, hv]
    refine ⟨some a, n, c, fun i => if h : i < n then (each i h).choose else ⟨0, 0, zitem⟩, rfl, hl, ⟨fun hn => ?_, fun i hin => ?_⟩, ?_⟩
    · have h0 := (each 0 hn).choose_spec.1 0 _ rfl
      have ha := spot_of_add h0 rfl
      refine ⟨a.block, a.off, by rw [← ha], ?_, fun i hin c v hv => ?_⟩
      · have := World.block_lt_of_cell? W _ h0
        rw [ha, K.add_plain] at this
        exact this
      · simp only [hin, dif_pos] at hv
        have h1 := (each i hin).choose_spec.1 c v hv
        rw [← K.add_plain, ← ha]
        exact h1
    · simp only [hin, dif_pos]
      exact (each i hin).choose_spec.2
    · have hw := sized_slice hsz htj hd Try.underlying23
      simp only [List.length_map, List.length_range] at hw
      have hB : Try.prog.bytesOf 35 = 56 := by kernel_rfl
      rw [hB] at hw
      have : n * 56 ≤ 140737488351232 := Nat.le_trans (Nat.mul_le_mul_right _ (Nat.le_add_right _ _)) hw
      omega
end
end Go.Proofs.Ytapninpdjccglaa.C
