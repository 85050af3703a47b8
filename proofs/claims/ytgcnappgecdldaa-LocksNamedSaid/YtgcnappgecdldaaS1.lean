/-
  A script of steps (kind, task, locks), as an argument, opened to its cells.
-/
import Derived.Test.YtgcnappgecdldaaE4
import Derived.Test.YtgcnappgecdldaaOpen
set_option linter.unusedVariables false
set_option linter.unusedSimpArgs false
namespace Go.Proofs.Ytgcnappgecdldaa.C
open Go.RowKit Go.Proofs.Ytgcnappgecdldaa.K Go.ChangeShapes Go.WideShapes Go.Deep

/-- A step: its kind, its task, its list of locks. -/
structure LSt where
  kind : Int
  task : Int
  A : Option Addr
  n : Nat
  cp : Nat
  L : List (Int × Bool)
def LSt.cells (s : LSt) : List Value := [.int .i64 s.kind, .int .i64 s.task, .slice s.A s.n s.cp]
structure LSt.ok (w : World) (s : LSt) : Prop where
  len : s.L.length = s.n
  cap : s.n ≤ s.cp
  rd : LksAt w s.A s.L
  wk : (Lit.int .i64 s.kind).wf = true
  wt : (Lit.int .i64 s.task).wf = true
  wl : ∀ p ∈ s.L, (Lit.int .i64 p.1).wf = true
def lst0 : LSt := ⟨0, 0, none, 0, 0, []⟩

section
variable {H : Type} {enc : TypeId × Value → H} {W : World} {base : Nat} {spare : Nat → Bool} {held : Bool}
theorem open_lock {fuel : Nat} {cs : List Value} {x : DataW H × List MemPlace} (h : DataW.trod enc Try.prog W base spare held fuel 32 cs = some x) : ∃ p : Int × Bool, cs = [.int .i64 p.1, .bool p.2] ∧ (Lit.int .i64 p.1).wf = true := by
  obtain ⟨ys, m, _, _, hlen, hyl, hf⟩ := DataW.trod_struct Try.underlying32 h
  have hl : cs.length = 2 := hlen.trans (by kernel_rfl)
  obtain ⟨c0, c1, rfl⟩ : ∃ c0 c1, cs = [c0, c1] := by
    rcases cs with _ | ⟨c0, _ | ⟨c1, _ | ⟨c2, r⟩⟩⟩ <;> simp at hl
    exact ⟨c0, c1, rfl⟩
  have hy : ys.length = 2 := hyl
  have h0 := hf 0 _ rfl
  have h1 := hf 1 _ rfl
  rw [List.getElem?_eq_getElem (by omega)] at h0 h1
  simp only [List.getElem_toArray, List.getElem_cons_zero, List.getElem_cons_succ] at h0 h1
  rw [show Try.prog.cellsOf 3 = 1 by kernel_rfl] at h0
  rw [show Try.prog.cellsOf 4 = 1 by kernel_rfl] at h1
  obtain ⟨n, e0, _, w0⟩ := DataW.trod_int Try.underlying3 h0
  obtain ⟨b, e1, _⟩ := DataW.trod_bool Try.underlying4 h1
  simp at e0 e1
  subst e0 e1
  exact ⟨(n, b), rfl, w0⟩
set_option maxRecDepth 100000 in
theorem open_locks {fuel : Nat} {c2 : Value} {x : DataW H × List MemPlace} (h : DataW.trod enc Try.prog W base spare held fuel 30 [c2] = some x) :
    ∃ A n cp L, c2 = .slice A n cp ∧ L.length = n ∧ n ≤ cp ∧ LksAt W A L ∧ ∀ p ∈ L, (Lit.int .i64 p.1).wf = true := by
  rcases open_slice Try.underlying30 h with ⟨hcs, hx⟩ | ⟨a, len, cap, m, k, D, Pl, hcs, hb, hl, hm, hmm, hx, hi⟩
  · simp at hcs
    subst hcs
    exact ⟨none, 0, 0, [], rfl, rfl, Nat.le_refl _, ⟨fun h => absurd h (by simp)⟩, fun p hp => by simp at hp⟩
  · simp at hcs
    subst hcs
    have hnm : len ≤ m := by rw [hmm]; split <;> omega
    have each : ∀ i, i < len → ∃ p : Int × Bool, W.cell? (a.add (i * 2)) = some (.int .i64 p.1) ∧ W.cell? (a.add (i * 2 + 1)) = some (.bool p.2) ∧ (Lit.int .i64 p.1).wf = true := by
      intro i hin
      obtain ⟨cs', hc, htr⟩ := hi i (by omega)
      rw [show Try.prog.cellsOf 32 = 2 by kernel_rfl] at hc
      obtain ⟨_, hcl, hat⟩ := World.cells?_some hc
      obtain ⟨p, rfl, w0⟩ := open_lock htr
      have h0 := hat 0 (by omega)
      have h1 := hat 1 (by omega)
      rw [Go.Deep.add_add] at h0 h1
      exact ⟨p, h0, h1, w0⟩
    refine ⟨some a, len, cap, (List.range len).map (fun i => if h : i < len then (each i h).choose else (0, false)), rfl, by simp, hl, ⟨fun h0 => ?_⟩, fun p hp => ?_⟩
    · have hn0 : 0 < len := by simpa using h0
      have h0 := (each 0 hn0).choose_spec.1
      have ha := spot_of_add h0 (by simp)
      refine ⟨a.block, a.off, by rw [← ha], ?_, fun i hi => ?_⟩
      · have := World.block_lt_of_cell? W _ h0
        rw [ha, K.add_plain] at this
        exact this
      · have hil : i < len := by simpa using hi
        have hs := (each i hil).choose_spec
        have e : ((List.range len).map (fun i => if h : i < len then (each i h).choose else (0, false)))[i] = (each i hil).choose := by simp [hil]
        rw [e, Nat.add_assoc, ← K.add_plain, ← K.add_plain, ← ha]
        exact ⟨hs.1, hs.2.1⟩
    · obtain ⟨i, hi, rfl⟩ := List.mem_map.1 hp
      have hil : i < len := List.mem_range.1 hi
      simp only [hil, dif_pos]
      exact (each i hil).choose_spec.2.2
set_option maxRecDepth 100000 in
theorem open_lstep {fuel : Nat} {cs : List Value} {x : DataW H × List MemPlace} (h : DataW.trod enc Try.prog W base spare held fuel 53 cs = some x) :
    ∃ y : LSt, cs = y.cells ∧ y.ok W := by
  obtain ⟨ys, m, _, hx, hlen, hyl, hf⟩ := DataW.trod_struct Try.underlying53 h
  have hl : cs.length = 3 := hlen.trans (by kernel_rfl)
  obtain ⟨c0, c1, c2, rfl⟩ : ∃ c0 c1 c2, cs = [c0, c1, c2] := by
    rcases cs with _ | ⟨c0, _ | ⟨c1, _ | ⟨c2, _ | ⟨c3, r⟩⟩⟩⟩ <;> simp at hl
    exact ⟨c0, c1, c2, rfl⟩
  have hy : ys.length = 3 := hyl
  have h0 := hf 0 _ rfl
  have h1 := hf 1 _ rfl
  have h2 := hf 2 _ rfl
  rw [List.getElem?_eq_getElem (by omega)] at h0 h1 h2
  simp only [List.getElem_toArray, List.getElem_cons_zero, List.getElem_cons_succ] at h0 h1 h2
  rw [show Try.prog.cellsOf 3 = 1 by kernel_rfl] at h0 h1
  rw [show Try.prog.cellsOf 30 = 1 by kernel_rfl] at h2
  obtain ⟨n, e0, _, w0⟩ := DataW.trod_int Try.underlying3 h0
  obtain ⟨k, e1, _, w1⟩ := DataW.trod_int Try.underlying3 h1
  simp at e0 e1
  subst e0 e1
  simp only [List.drop_succ_cons, List.drop_zero, List.take_succ_cons, List.take_zero] at h2
  obtain ⟨A, q, cp, L, rfl, z1, z2, z3, z4⟩ := open_locks h2
  exact ⟨⟨n, k, A, q, cp, L⟩, rfl, z1, z2, z3, w0, w1, z4⟩

/-- A slice of steps. -/
structure LSteps (w : World) (A : Option Addr) (n : Nat) (f : Nat → LSt) : Prop where
  at_ : 0 < n → ∃ b off, A = some ⟨b, off, none⟩ ∧ b < w.heap.size ∧ ∀ i, i < n → ∀ c v, (f i).cells[c]? = some v → w.cell? ⟨b, off + (i * 3 + c), none⟩ = some v
  ok : ∀ i, i < n → (f i).ok w

set_option maxRecDepth 100000 in
theorem open_steps {ts : List TypeId} {ds : List (DataW H)} {j : Nat} {v : Value} {d : DataW H} {ps : List MemPlace} {r : Reach} {b0 : Nat}
    (hsz : (DataW.weightsEach Try.prog ts ds).all (· ≤ reachBytes) = true) (htj : ts[j]? = some 47) (hd : ds[j]? = some d) (hok : Value.okWide Try.prog W r b0 47 v)
    (h : DataW.Trod enc Try.prog W base spare held 47 v d ps) :
    ∃ (A : Option Addr) (n c : Nat) (f : Nat → LSt), v = .slice A n c ∧ n ≤ c ∧ LSteps W A n f ∧ n ≤ 140737488351232 := by
  obtain ⟨A, n, c, rfl⟩ := okWide_slice Try.underlying47 hok
  obtain ⟨fuel, hf⟩ := h
  rcases open_slice Try.underlying47 hf with ⟨hcs, hx⟩ | ⟨a, len, cap, m, k, D, Pl, hcs, hb, hl, hm, hmm, hx, hi⟩
  · simp [Value.cells] at hcs
    obtain ⟨rfl, rfl, rfl⟩ := hcs
    exact ⟨none, 0, 0, fun _ => lst0, rfl, Nat.le_refl _, ⟨fun h => absurd h (by omega), fun i hi => absurd hi (by omega)⟩, by omega⟩
  · simp [Value.cells] at hcs
    obtain ⟨rfl, rfl, rfl⟩ := hcs
    obtain ⟨hx, _⟩ := Prod.mk.inj hx
    subst hx
    have hnm : n ≤ m := by rw [hmm]; split <;> omega
    have each : ∀ i, i < n → ∃ y : LSt, (∀ c v, y.cells[c]? = some v → W.cell? (a.add (i * 3 + c)) = some v) ∧ y.ok W := by
      intro i hin
      obtain ⟨cs', hc, htr⟩ := hi i (by omega)
      rw [show Try.prog.cellsOf 53 = 3 by kernel_rfl] at hc
      obtain ⟨_, hcl, hat⟩ := World.cells?_some hc
      obtain ⟨y, rfl, hy⟩ := open_lstep htr
      refine ⟨y, fun c v hv => ?_, hy⟩
      have hlt : c < 3 := by
        have := (List.getElem?_eq_some_iff.1 hv).1
        simpa [LSt.cells] using this
      have h1 := hat c hlt
      rw [← Go.Deep.add_add, h1, hv]
    refine ⟨some a, n, c, fun i => if h : i < n then (each i h).choose else lst0, rfl, hl, ⟨fun hn => ?_, fun i hin => ?_⟩, ?_⟩
    · have h0 := (each 0 hn).choose_spec.1 0 _ rfl
      have ha := spot_of_add h0 rfl
      refine ⟨a.block, a.off, by rw [← ha], ?_, fun i hin c v hv => ?_⟩
      · have := World.block_lt_of_cell? W _ h0
        rw [ha, K.add_plain] at this
        exact this
      · simp only [hin, dif_pos] at hv
        have h1 := (each i hin).choose_spec.1 c v hv
        rw [← K.add_plain, ← ha]
        exact h1
    · simp only [hin, dif_pos]
      exact (each i hin).choose_spec.2
    · have hw := sized_slice hsz htj hd Try.underlying47
      simp only [List.length_map, List.length_range] at hw
      have hB : Try.prog.bytesOf 53 = 40 := by kernel_rfl
      rw [hB] at hw
      have : n * 40 ≤ 140737488351232 := Nat.le_trans (Nat.mul_le_mul_right _ (Nat.le_add_right _ _)) hw
      omega
end

/-- Steps, in a later world. -/
theorem LSt.ok.below {w w' : World} {s : LSt} (h : s.ok w) (hb : Below w.heap.size w w') : s.ok w' := ⟨h.len, h.cap, h.rd.below hb, h.wk, h.wt, h.wl⟩
/-- set: at most so many of a set. -/
theorem first_c (w : World) (A : Option Addr) (n cp : Nat) (hc : n ≤ cp) :
    Calls Try.prog 26 #[.slice A n cp] w fun e w' => e = .returned (.slice A (min n 40) cp) ∧ w' = w := by
  by_cases h : n ≤ 40
  · have h1 : ¬ (40 : Int) < (n : Int) := by omega
    have h2 : min n 40 = n := by omega
    rw [h2]
    go_enter Try.func26, Try.ntmps26
    go_wp2
    go_ret
    exact ⟨rfl, rfl⟩
  · have h1 : (40 : Int) < (n : Int) := by omega
    have h2 : min n 40 = 40 := by omega
    rw [h2]
    have h3 : 40 ≤ n := by omega
    have h4 : 40 ≤ cp := by omega
    have h5 : (40 : Int) ≤ (cp : Int) := by omega
    go_enter Try.func26, Try.ntmps26
    go_wp2
    go_ret
    exact ⟨rfl, rfl⟩
theorem LksAt.take {w : World} {A : Option Addr} {L : List (Int × Bool)} (h : LksAt w A L) (k : Nat) : LksAt w A (L.take k) := by
  refine ⟨fun h0 => ?_⟩
  rw [List.length_take] at h0
  obtain ⟨g, off, e, hg, hc⟩ := h.at_ (by omega)
  refine ⟨g, off, e, hg, fun i hi => ?_⟩
  rw [List.getElem_take]
  exact hc i (by rw [List.length_take] at hi; omega)
end Go.Proofs.Ytgcnappgecdldaa.C
