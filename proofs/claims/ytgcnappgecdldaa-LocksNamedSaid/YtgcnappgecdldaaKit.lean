/-
  Small words of this session for proofs over memory: a block that is known whole; a world in which only some blocks have changed; a slice of whole numbers that lies in one block.
-/
import Derived.Below
import Derived.Deep.OwnRows
import Derived.Deep.Draws
import Derived.Laws.OwnMore
import Derived.Laws.Rows
import Derived.WalkKit
import Derived.OwnWalk
import Derived.OpenShut
set_option linter.unusedVariables false
namespace Go.Proofs.Ytgcnappgecdldaa.K
open Go.RowKit

/-- Block g is just the cells cs of element type t, none frozen. -/
def Blk (w : World) (g : Nat) (t : TypeId) (cs : Array Value) : Prop := w.heap[g]? = some (.cells cs t (0, 0))

/-- Only the blocks of the list (and what is new) may differ. -/
structure Only (fs : List Nat) (w w' : World) : Prop where
  os : w'.os = w.os
  tape : w'.tape = w.tape
  output : w'.output = w.output
  size : w.heap.size ≤ w'.heap.size
  block : ∀ k, k < w.heap.size → k ∉ fs → w'.heap[k]? = w.heap[k]?

section
variable {w w' w1 w2 : World} {g : Nat} {t : TypeId} {cs : Array Value} {fs gs : List Nat}

theorem Blk.lt (h : Blk w g t cs) : g < w.heap.size := by
  rcases Nat.lt_or_ge g w.heap.size with hlt | hge
  · exact hlt
  · unfold Blk at h; rw [Array.getElem?_eq_none hge] at h; cases h
theorem Blk.cell (h : Blk w g t cs) (i : Nat) : w.cell? ⟨g, i, none⟩ = cs[i]? := cell_of_row w g i cs t (0, 0) h
theorem Blk.frozen (h : Blk w g t cs) (i : Nat) : w.frozen? ⟨g, i, none⟩ = false := by
  unfold Blk at h
  simp [World.frozen?, h]
theorem Blk.new (w : World) (t : TypeId) (cs : Array Value) : Blk (w.alloc (.cells cs t)) w.heap.size t cs := heap_alloc_new w _
theorem Blk.drew (h : Blk w g t cs) : Blk w.drew g t cs := h
theorem Blk.drewN (h : Blk w g t cs) (n : Nat) : Blk (w.drewN n) g t cs := h
theorem Blk.alloc (h : Blk w g t cs) (o : Obj) : Blk (w.alloc o) g t cs := (Below.heap_alloc w o g h.lt).trans h
theorem Blk.set_ (h : Blk w g t cs) (i : Nat) (u : Value) : Blk (w.setCell ⟨g, i, none⟩ u) g t (cs.setIfInBounds i u) := by
  unfold Blk at h ⊢
  simp [World.setCell, Array.getElem?_modify, h]
theorem Blk.far (h : Blk w g t cs) {p : Addr} (hp : g ≠ p.block) (u : Value) : Blk (w.setCell p u) g t cs := (Below.heap_setCell w p u g hp).trans h
theorem Blk.ne_ {g' : Nat} {t' : TypeId} {cs' : Array Value} (h : Blk w g t cs) (h' : Blk w g' t' cs') (hne : t ≠ t') : g ≠ g' := by
  rintro rfl
  unfold Blk at h h'
  rw [h] at h'
  injection h' with h'
  injection h' with _ ht
  exact hne ht
theorem Blk.only (h : Blk w g t cs) (ho : Only fs w w') (hg : g ∉ fs) : Blk w' g t cs := (ho.block g h.lt hg).trans h
theorem Blk.below {B : Nat} (h : Blk w g t cs) (hb : Below B w w') (hg : g < B) : Blk w' g t cs := (hb.block g hg).trans h
theorem Blk.below' (h : Blk w g t cs) (hb : Below w.heap.size w w') : Blk w' g t cs := (hb.block g h.lt).trans h

theorem Only.refl (fs : List Nat) (w : World) : Only fs w w := ⟨rfl, rfl, rfl, Nat.le_refl _, fun _ _ _ => rfl⟩
theorem Only.trans (h : Only fs w w1) (k : Only fs w1 w2) : Only fs w w2 :=
  ⟨k.os.trans h.os, k.tape.trans h.tape, k.output.trans h.output, Nat.le_trans h.size k.size, fun i hi hn => (k.block i (Nat.lt_of_lt_of_le hi h.size) hn).trans (h.block i hi hn)⟩
theorem Only.mono (h : Only fs w w') (hs : ∀ k, k ∈ fs → k ∈ gs) : Only gs w w' := ⟨h.os, h.tape, h.output, h.size, fun i hi hn => h.block i hi fun hm => hn (hs i hm)⟩
theorem Only.of_below (h : Below w.heap.size w w') : Only fs w w' := ⟨h.os, h.tape, h.output, h.size, fun i hi _ => h.block i hi⟩
theorem Only.below (h : Only [] w w') : Below w.heap.size w w' := ⟨h.os, h.tape, h.output, h.size, fun i hi => h.block i hi (by simp)⟩
theorem Only.drew (h : Only fs w w') : Only fs w w'.drew := ⟨h.os, h.tape, h.output, h.size, h.block⟩
theorem Only.drewN (h : Only fs w w') (n : Nat) : Only fs w (w'.drewN n) := ⟨h.os, h.tape, h.output, h.size, h.block⟩
theorem Only.alloc (h : Only fs w w') (o : Obj) : Only fs w (w'.alloc o) :=
  ⟨h.os, h.tape, h.output, Nat.le_trans h.size (by simp), fun i hi hn => (Below.heap_alloc w' o i (Nat.lt_of_lt_of_le hi h.size)).trans (h.block i hi hn)⟩
theorem Only.setCell (h : Only fs w w') {p : Addr} (hp : p.block ∈ fs ∨ w.heap.size ≤ p.block) (u : Value) : Only fs w (w'.setCell p u) :=
  ⟨h.os, h.tape, h.output, by simpa [World.setCell] using h.size, fun i hi hn => (Below.heap_setCell w' p u i (by
    rintro rfl
    rcases hp with hp | hp
    · exact hn hp
    · omega)).trans (h.block i hi hn)⟩
theorem Below.only_ {B : Nat} {a : World} (h : Below B a w) (ho : Only fs w w') (hB : B ≤ w.heap.size) (hf : ∀ k, k ∈ fs → B ≤ k) : Below B a w' :=
  h.trans ⟨ho.os, ho.tape, ho.output, ho.size, fun k hk => ho.block k (Nat.lt_of_lt_of_le hk hB) fun hm => by have := hf k hm; omega⟩
theorem below_drewN {B : Nat} {a : World} (h : Below B a w) (n : Nat) : Below B a (w.drewN n) := ⟨h.os, h.tape, h.output, h.size, h.block⟩
theorem Below.then_ {B : Nat} {a : World} (h : Below B a w) (hB : B ≤ w.heap.size) (k : Below w.heap.size w w') : Below B a w' :=
  h.trans ⟨k.os, k.tape, k.output, k.size, fun i hi => k.block i (Nat.lt_of_lt_of_le hi hB)⟩
end

/-! ### Quiet calls in a region that draws its order, for contracts that end in 'w = w'' -/
theorem quiet_left {P : Program} {f : FuncId} {args : Array Value} {w : World} {n : Nat} {v : Value}
    (h : Calls P f args (w.drewN n) fun e w' => e = .returned v ∧ w.drewN n = w') : Calls P f args (w.drewN n) fun e w'' => e = .returned v ∧ ∃ m, w'' = w.drewN m :=
  h.mono fun _ _ ⟨he, hm⟩ => ⟨he, n, hm.symm⟩
theorem quiet_add_left {P : Program} {f : FuncId} {args : Array Value} {w : World} {a n : Nat} {v : Value}
    (h : Calls P f args (w.drewN (a + n)) fun e w' => e = .returned v ∧ w.drewN (a + n) = w') :
    Calls P f args (w.drewN (a + n)) fun e w'' => e = .returned v ∧ ∃ m, w'' = w.drewN (a + m) :=
  h.mono fun _ _ ⟨he, hm⟩ => ⟨he, n, hm.symm⟩

/-! ### Numbers -/
/-- A list of numbers as cells. -/
def ints (k : IntKind) (L : List Int) : Array Value := (L.map (Value.int k)).toArray
theorem ints_size (k : IntKind) (L : List Int) : (ints k L).size = L.length := by simp [ints]
/-- The number at a place (0 beyond the end). The walk's simp doesn't look into it. -/
def nth (L : List Int) (i : Nat) : Int := L.getD i 0
theorem nth_eq (L : List Int) (i : Nat) (h : i < L.length) : nth L i = L[i] := by simp [nth, List.getD_eq_getElem?_getD, List.getElem?_eq_getElem h]
theorem nth_set_same (L : List Int) (i : Nat) (x : Int) (h : i < L.length) : nth (L.set i x) i = x := by simp [nth, List.getD_eq_getElem?_getD, h]
theorem nth_set_other (L : List Int) (i j : Nat) (x : Int) (h : i ≠ j) : nth (L.set i x) j = nth L j := by simp [nth, List.getD_eq_getElem?_getD, List.getElem?_set_ne h]
theorem ints_get (k : IntKind) (L : List Int) (i : Nat) (h : i < L.length) : (ints k L)[i]? = some (.int k (nth L i)) := by
  simp [ints, nth, List.getD_eq_getElem?_getD, List.getElem?_eq_getElem h]
theorem ints_set (k : IntKind) (L : List Int) (i : Nat) (x : Int) : (ints k L).setIfInBounds i (.int k x) = ints k (L.set i x) := by
  simp [ints, List.map_set]
theorem ints_made (k : IntKind) (n : Nat) (z : Int) : madeCells #[.int k z] n = ints k (List.replicate n z) := by
  apply Array.ext_getElem?
  intro i
  by_cases hi : i < n
  · rw [ints_get k _ i (by simpa using hi)]
    simp [madeCells, hi, Nat.mod_one, nth, List.getD_eq_getElem?_getD]
  · have h1 : (madeCells #[Value.int k z] n).size ≤ i := by rw [size_madeCells]; omega
    have h2 : (ints k (List.replicate n z)).size ≤ i := by rw [ints_size]; simp; omega
    rw [Array.getElem?_eq_none h1, Array.getElem?_eq_none h2]

theorem set_nth (L : List Int) (i : Nat) : L.set i (nth L i) = L := by
  by_cases h : i < L.length
  · rw [nth_eq L i h, List.set_getElem_self]
  · rw [List.set_eq_of_length_le (by omega)]

/-- make of elements of several cells (one of the guide's words to copy). -/
theorem run_make_rowN {P : Program} (t e : TypeId) (i : TypeInfo) (z : Value) (ht : P.underlying t = some (.slice e)) (hi : P.info? e = some i) (hz : i.zero = some z)
    (kl kc : IntKind) (n c : Nat) (hnc : n ≤ c) (hbytes : i.bytes * c ≤ 281474976710656) (h63 : c ≤ 9223372036854775807) (w : World) :
    (Instr.makeSlice t (.int kl (n : Int)) (.int kc (c : Int))).run P w = .ok (.slice (some ⟨w.heap.size, 0, none⟩) n c) (w.alloc (.cells (madeCells z.cells (c * i.size)) e)) := by
  have hb : (i.bytes : Int) * (c : Int) ≤ 281474976710656 := by
    have h : ((i.bytes * c : Nat) : Int) ≤ 281474976710656 := by omega
    rwa [Int.natCast_mul] at h
  have hr := run_make (P := P) w t e i z ht hi hz kl kc n c (by omega) (by omega) hb (by omega)
  simp only [Int.toNat_natCast] at hr
  exact hr

def nums (k : IntKind) (L : List Int) : List Value := L.map (Value.int k)
theorem nums_length (k : IntKind) (L : List Int) : (nums k L).length = L.length := by simp [nums]
theorem nums_get (k : IntKind) (L : List Int) (i : Nat) (h : i < L.length) : (nums k L)[i]? = some (.int k (nth L i)) := by
  simp [nums, nth, List.getD_eq_getElem?_getD, List.getElem?_eq_getElem h]
theorem nums_set (k : IntKind) (L : List Int) (i : Nat) (x : Int) : (nums k L).set i (.int k x) = nums k (L.set i x) := by
  simp [nums, List.map_set]
theorem own_slice {w : World} {base : Nat} {e : TypeId} {size n : Nat} {v : Value} {xs : List Value} (h : w.ownsRow base e size v n xs) : ∃ A c, v = .slice A n c := by
  rcases h.2 with ⟨rfl, rfl⟩ | ⟨g, cap, cur, rfl, _⟩
  · exact ⟨none, 0, rfl⟩
  · exact ⟨_, cap, rfl⟩
theorem own_form {w : World} {base : Nat} {e : TypeId} {size n : Nat} {v : Value} {xs : List Value} (h : w.ownsRow base e size v n xs) (hn : 0 < n) : ∃ g cap, v = .slice (some ⟨g, 0, none⟩) n cap ∧ base ≤ g ∧ g < w.heap.size := by
  rcases h.2 with ⟨rfl, rfl⟩ | ⟨g, cap, cur, rfl, hg, hh, _⟩
  · omega
  · exact ⟨g, cap, rfl, hg, (Array.getElem?_eq_some_iff.1 hh).1⟩
theorem own_below {w w' : World} {base : Nat} {e : TypeId} {size n : Nat} {v : Value} {xs : List Value} (h : w.ownsRow base e size v n xs) (hb : Below w.heap.size w w') : w'.ownsRow base e size v n xs := by
  obtain ⟨h1, h2⟩ := h
  refine ⟨h1, ?_⟩
  rcases h2 with h2 | ⟨g, cap, cur, hv', hg, hh, r⟩
  · exact Or.inl h2
  · exact Or.inr ⟨g, cap, cur, hv', hg, (hb.block g (Array.getElem?_eq_some_iff.1 hh).1).trans hh, r⟩
theorem own_mono {w : World} {base base' : Nat} {e : TypeId} {size n : Nat} {v : Value} {xs : List Value} (h : w.ownsRow base e size v n xs) (hb : base' ≤ base) : w.ownsRow base' e size v n xs := by
  obtain ⟨h1, h2⟩ := h
  refine ⟨h1, ?_⟩
  rcases h2 with h2 | ⟨g, cap, cur, hv', hg, r⟩
  · exact Or.inl h2
  · exact Or.inr ⟨g, cap, cur, hv', Nat.le_trans hb hg, r⟩
theorem own_only {w w' : World} {base : Nat} {e : TypeId} {size n : Nat} {v : Value} {xs : List Value} {fs : List Nat} (h : w.ownsRow base e size v n xs) (ho : Only fs w w') (hv : ∀ b, v.ownBlock = some b → b ∉ fs) : w'.ownsRow base e size v n xs := by
  obtain ⟨h1, h2⟩ := h
  refine ⟨h1, ?_⟩
  rcases h2 with h2 | ⟨g, cap, cur, hv', hg, hh, r⟩
  · exact Or.inl h2
  · refine Or.inr ⟨g, cap, cur, hv', hg, ?_, r⟩
    have hlt : g < w.heap.size := (Array.getElem?_eq_some_iff.1 hh).1
    rw [ho.block g hlt (hv g (by subst hv'; rfl))]
    exact hh
theorem own_grown {w w' : World} {base : Nat} {e : TypeId} {size n : Nat} {v : Value} {xs : List Value} (h : w.ownsRow base e size v n xs) {row : Option Nat} (hg : w.grownBy w' row) (hne : v.ownBlock = none ∨ v.ownBlock ≠ row) : w'.ownsRow base e size v n xs := h.kept hg hne
theorem wrap_in {n : Int} (h0 : -9223372036854775808 ≤ n) (h1 : n ≤ 9223372036854775807) : wrap64 n = n := by
  unfold wrap64; omega

end Go.Proofs.Ytgcnappgecdldaa.K
