/-
  A script of steps (kind, connection, bytes, most), as an argument, opened to its cells.
-/
import Derived.Test.YtalabfbnbiagiaaC1
import Derived.Test.YtalabfbnbiagiaaOpenB
set_option linter.unusedVariables false
set_option linter.unusedSimpArgs false
namespace Go.Proofs.Ytalabfbnbiagiaa.C
open Go.RowKit Go.Proofs.Ytalabfbnbiagiaa.K Go.ChangeShapes Go.WideShapes Go.Deep

/-- A step. -/
structure NSt where
  kind : Int
  c : Int
  A : Option Addr
  n : Nat
  cp : Nat
  L : List Int
  most : Int
def NSt.bytes (s : NSt) : Value := .slice s.A s.n s.cp
def NSt.cells (s : NSt) : List Value := [.int .i64 s.kind, .int .i64 s.c, s.bytes, .int .i64 s.most]
/-- Its bytes read. -/
structure NSt.ok (w : World) (s : NSt) : Prop where
  len : s.L.length = s.n
  cap : s.n ≤ s.cp
  rd : Reads w s.A (bs s.L)
  lim : s.n ≤ 140737488351232
  wk : (Lit.int .i64 s.kind).wf = true
  wc : (Lit.int .i64 s.c).wf = true
  wm : (Lit.int .i64 s.most).wf = true
def nst0 : NSt := ⟨0, 0, none, 0, 0, [], 0⟩
theorem weights_all {H : Type} {P : Program} {e : TypeId} {d : DataW H} {k : Nat} : ∀ {ds : List (DataW H)}, d ∈ ds → k ∈ d.weights P e → k ∈ DataW.weightsAll P e ds
  | [], h, _ => by cases h
  | y :: r, h, hk => by
    rw [DataW.weightsAll]
    rcases List.mem_cons.1 h with h | h
    · subst h; exact List.mem_append_left _ hk
    · exact List.mem_append_right _ (weights_all h hk)

section
variable {H : Type} {enc : TypeId × Value → H} {W : World} {base : Nat} {spare : Nat → Bool} {held : Bool}
set_option maxRecDepth 100000 in
theorem open_nstep {fuel : Nat} {cs : List Value} {x : DataW H × List MemPlace} (h : DataW.trod enc Try.prog W base spare held fuel 49 cs = some x) :
    ∃ y : NSt, cs = y.cells ∧ y.L.length = y.n ∧ y.n ≤ y.cp ∧ Reads W y.A (bs y.L) ∧ (y.n = 0 ∨ ∃ k, y.n ≤ k ∧ k ∈ x.1.weights Try.prog 49) ∧ (Lit.int .i64 y.kind).wf = true ∧ (Lit.int .i64 y.c).wf = true ∧ (Lit.int .i64 y.most).wf = true := by
  obtain ⟨ys, m, _, hx, hlen, hyl, hf⟩ := DataW.trod_struct Try.underlying49 h
  have hl : cs.length = 4 := hlen.trans (by kernel_rfl)
  obtain ⟨c0, c1, c2, c3, rfl⟩ : ∃ c0 c1 c2 c3, cs = [c0, c1, c2, c3] := by
    rcases cs with _ | ⟨c0, _ | ⟨c1, _ | ⟨c2, _ | ⟨c3, _ | ⟨c4, r⟩⟩⟩⟩⟩ <;> simp at hl
    exact ⟨c0, c1, c2, c3, rfl⟩
  have hy : ys.length = 4 := hyl
  obtain ⟨y0, y1, y2, y3, rfl⟩ : ∃ y0 y1 y2 y3, ys = [y0, y1, y2, y3] := by
    rcases ys with _ | ⟨c0, _ | ⟨c1, _ | ⟨c2, _ | ⟨c3, _ | ⟨c4, r⟩⟩⟩⟩⟩ <;> simp at hy
    exact ⟨c0, c1, c2, c3, rfl⟩
  have h0 := hf 0 _ rfl
  have h1 := hf 1 _ rfl
  have h2 := hf 2 _ rfl
  have h3 := hf 3 _ rfl
  simp only [List.getElem?_cons_zero, List.getElem?_cons_succ, List.getElem_toArray, List.getElem_cons_zero, List.getElem_cons_succ] at h0 h1 h2 h3
  rw [show Try.prog.cellsOf 3 = 1 by kernel_rfl] at h0 h1 h3
  rw [show Try.prog.cellsOf 29 = 1 by kernel_rfl] at h2
  obtain ⟨n, e0, _, w0⟩ := DataW.trod_int Try.underlying3 h0
  obtain ⟨k, e1, _, w1⟩ := DataW.trod_int Try.underlying3 h1
  obtain ⟨q, e3, _, w3⟩ := DataW.trod_int Try.underlying3 h3
  simp at e0 e1 e3
  subst e0 e1 e3
  simp only [List.drop_succ_cons, List.drop_zero, List.take_succ_cons, List.take_zero] at h2
  have hu29 : Try.prog.underlying 29 = some (.slice 5) := Try.underlying29
  have hu5 : Try.prog.underlying 5 = some (.int .u8) := Try.underlying5
  have hC5 : Try.prog.cellsOf 5 = 1 := by kernel_rfl
  rcases open_ints hu29 hu5 hC5 h2 with ⟨hcs, hx2⟩ | ⟨z, l, cap, zs, hcs, hb2, hl2, hm2, hz2, hx2, hcell2, hwz2⟩
  · simp at hcs
    subst hcs
    exact ⟨⟨n, k, none, 0, 0, [], q⟩, rfl, rfl, Nat.le_refl _, Reads.nil _ _, .inl rfl, w0, w1, w3⟩
  · simp at hcs
    subst hcs
    obtain ⟨L, b1, b2, b3, b4⟩ := bytes_cell hu29 hu5 hC5 h2
    refine ⟨⟨n, k, some z, l, cap, L, q⟩, rfl, b3, b1, b4, .inr ?_, w0, w1, w3⟩
    subst hx
    subst hx2
    have hlz : l ≤ zs.length := by rw [hz2]; split <;> omega
    refine ⟨zs.length, hlz, ?_⟩
    have hu49 := Try.underlying49
    simp only [List.map_cons, List.map_nil, DataW.weights, hu49, DataW.weightsEach]
    have hB5 : Try.prog.bytesOf 5 = 1 := by kernel_rfl
    have h1 : (lits (H := H) .u8 (zs.take l)).length + (lits (H := H) .u8 (zs.drop l)).length = zs.length := by
      simp [lits]
      omega
    refine List.mem_append_right _ (List.mem_append_right _ (List.mem_append_left _ ?_))
    show zs.length ∈ DataW.weights Try.prog 29 (DataW.slice (lits (H := H) .u8 (zs.take l)) (lits (H := H) .u8 (zs.drop l)))
    simp only [DataW.weights, hu29, hB5, h1, Nat.mul_one]
    exact List.mem_cons_self

/-- A slice of steps. -/
structure NSteps (w : World) (A : Option Addr) (n : Nat) (f : Nat → NSt) : Prop where
  at_ : 0 < n → ∃ b off, A = some ⟨b, off, none⟩ ∧ b < w.heap.size ∧ ∀ i, i < n → ∀ c v, (f i).cells[c]? = some v → w.cell? ⟨b, off + (i * 4 + c), none⟩ = some v
  ok : ∀ i, i < n → (f i).ok w

set_option maxRecDepth 100000 in
theorem open_steps {ts : List TypeId} {ds : List (DataW H)} {j : Nat} {v : Value} {d : DataW H} {ps : List MemPlace} {r : Reach} {b0 : Nat}
    (hsz : (DataW.weightsEach Try.prog ts ds).all (· ≤ reachBytes) = true) (htj : ts[j]? = some 47) (hd : ds[j]? = some d) (hok : Value.okWide Try.prog W r b0 47 v)
    (h : DataW.Trod enc Try.prog W base spare held 47 v d ps) :
    ∃ (A : Option Addr) (n c : Nat) (f : Nat → NSt), v = .slice A n c ∧ n ≤ c ∧ NSteps W A n f ∧ n ≤ 140737488351232 := by
  obtain ⟨A, n, c, rfl⟩ := okWide_slice Try.underlying47 hok
  obtain ⟨fuel, hf⟩ := h
  rcases open_slice Try.underlying47 hf with ⟨hcs, hx⟩ | ⟨a, len, cap, m, k, D, Pl, hcs, hb, hl, hm, hmm, hx, hi⟩
  · simp [Value.cells] at hcs
    obtain ⟨rfl, rfl, rfl⟩ := hcs
    exact ⟨none, 0, 0, fun _ => nst0, rfl, Nat.le_refl _, ⟨fun h => absurd h (by omega), fun i hi => absurd hi (by omega)⟩, by omega⟩
  · simp [Value.cells] at hcs
    obtain ⟨rfl, rfl, rfl⟩ := hcs
    obtain ⟨hx, _⟩ := Prod.mk.inj hx
    subst hx
    have hnm : n ≤ m := by rw [hmm]; split <;> omega
    have each : ∀ i, i < n → ∃ y : NSt, (∀ c v, y.cells[c]? = some v → W.cell? (a.add (i * 4 + c)) = some v) ∧ y.ok W := by
      intro i hin
      obtain ⟨cs', hc, htr⟩ := hi i (by omega)
      rw [show Try.prog.cellsOf 49 = 4 by kernel_rfl] at hc
      obtain ⟨_, hcl, hat⟩ := World.cells?_some hc
      obtain ⟨y, rfl, y1, y2, y3, y4, w0, w1, w2⟩ := open_nstep htr
      refine ⟨y, fun c v hv => ?_, ⟨y1, y2, y3, ?_, w0, w1, w2⟩⟩
      · have hlt : c < 4 := by
          have := (List.getElem?_eq_some_iff.1 hv).1
          simpa [NSt.cells] using this
        have h1 := hat c hlt
        rw [← Go.Deep.add_add, h1, hv]
      · rcases y4 with y4 | ⟨k', hk1, hk2⟩
        · omega
        · have hmem : k' ∈ DataW.weightsEach Try.prog ts ds := DataW.weights_mem_each htj hd k' (by
            simp only [DataW.weights, Try.underlying47]
            refine List.mem_cons_of_mem _ (List.mem_append_left _ (weights_all (d := D i) (List.mem_map.2 ⟨i, List.mem_range.2 hin, rfl⟩) hk2)))
          have h1 := List.all_eq_true.1 hsz k' hmem
          have h2 : k' ≤ 140737488351232 := by
            have : k' ≤ reachBytes := by simpa using h1
            exact this
          omega
    refine ⟨some a, n, c, fun i => if h : i < n then (each i h).choose else nst0, rfl, hl, ⟨fun hn => ?_, fun i hin => ?_⟩, ?_⟩
    · have h0 := (each 0 hn).choose_spec.1 0 _ rfl
      have ha := spot_of_add h0 rfl
      refine ⟨a.block, a.off, by rw [← ha], ?_, fun i hin c v hv => ?_⟩
      · have := World.block_lt_of_cell? W _ h0
        rw [ha, K.add_plain] at this
        exact this
      · simp only [hin, dif_pos] at hv
        have h1 := (each i hin).choose_spec.1 c v hv
        rw [← K.add_plain, ← ha]
        exact h1
    · simp only [hin, dif_pos]
      exact (each i hin).choose_spec.2
    · have hw := sized_slice hsz htj hd Try.underlying47
      simp only [List.length_map, List.length_range] at hw
      have hB : Try.prog.bytesOf 49 = 48 := by kernel_rfl
      rw [hB] at hw
      have : n * 48 ≤ 140737488351232 := Nat.le_trans (Nat.mul_le_mul_right _ (Nat.le_add_right _ _)) hw
      omega
end
end Go.Proofs.Ytalabfbnbiagiaa.C
