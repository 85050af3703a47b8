/-
  A flow in memory; what its small calls tell.
-/
import Derived.Test.YtapninpdjccglaaProg
import Derived.Test.YtapninpdjccglaaSrow
import Derived.Lib.MinMax
import Derived.Lib.Hide
import Derived.Lib.LazyBuf
import Derived.Outline
import Derived.Deep.RegionHeld3
import Derived.Deep.DrawnRows
import Derived.Deep.QuietTactic
import Derived.BigQuiet
import Derived.BigRegion
import Derived.WalkLawsBesides
import Derived.WalkSpells
import Derived.StillTailTactics
import Derived.KernelRfl
import Derived.Laws.BytesString
set_option linter.unusedVariables false
set_option linter.unusedSimpArgs false
namespace Go.Proofs.Ytapninpdjccglaa.C
open Go.RowKit Go.Proofs.Ytapninpdjccglaa.K
attribute [local go_sem ↓] Go.wp_at_zero Go.wp_at_succ

/-- An item. -/
structure It where
  mark : Bool
  key : ByteArray
  time : Int
  value : Int
def it (x : It) : List Value := [.bool x.mark, .string x.key, .int .i64 x.time, .int .i64 x.value]
def its (L : List It) : List Value := L.flatMap it
/-- A message. -/
structure Ms where
  src : Int
  item : It
def ms (m : Ms) : List Value := .int .i64 m.src :: it m.item
/-- A flow. -/
structure FS where
  s : Nat
  o : Nat
  m : Nat
  q : Nat → List It
  to : Nat → Nat
  b : Nat → List Ms
structure FGood (F : FS) : Prop where
  s1 : 1 ≤ F.s
  s2 : F.s ≤ 8
  o1 : 1 ≤ F.o
  o2 : F.o ≤ 8
  m1 : 1 ≤ F.m
  m2 : F.m ≤ 64
  to : ∀ i, i < F.s → F.to i ≤ F.o
  q : ∀ i, i < F.s → (F.q i).length ≤ 65536
  b : ∀ j, j < F.o → (F.b j).length ≤ F.m
def qCells (to : Nat → Nat) (qv : Nat → Value) : Nat → Value := fun k => if k % 2 = 0 then qv (k / 2) else .int .i64 (to (k / 2))
def bCells (m : Nat) (len fi gr : Nat → Nat) : Nat → Value := fun k => if k % 3 = 0 then .slice (some ⟨gr (k / 3), 0, none⟩) m m else if k % 3 = 1 then .int .i64 (fi (k / 3)) else .int .i64 (len (k / 3))
theorem qCells0 (to : Nat → Nat) (qv : Nat → Value) (i : Nat) : qCells to qv (i * 2) = qv i := by
  unfold qCells; rw [if_pos (by omega), show i * 2 / 2 = i by omega]
theorem qCells1 (to : Nat → Nat) (qv : Nat → Value) (i : Nat) : qCells to qv (i * 2 + 1) = .int .i64 (to i) := by
  unfold qCells; rw [if_neg (by omega), show (i * 2 + 1) / 2 = i by omega]
theorem bCells0 (m : Nat) (len fi gr : Nat → Nat) (j : Nat) : bCells m len fi gr (j * 3) = .slice (some ⟨gr j, 0, none⟩) m m := by
  unfold bCells; rw [if_pos (by omega), show j * 3 / 3 = j by omega]
theorem bCells1 (m : Nat) (len fi gr : Nat → Nat) (j : Nat) : bCells m len fi gr (j * 3 + 1) = .int .i64 (fi j) := by
  unfold bCells; rw [if_neg (by omega), if_pos (by omega), show (j * 3 + 1) / 3 = j by omega]
theorem bCells2 (m : Nat) (len fi gr : Nat → Nat) (j : Nat) : bCells m len fi gr (j * 3 + 2) = .int .i64 (len j) := by
  unfold bCells; rw [if_neg (by omega), if_neg (by omega), show (j * 3 + 2) / 3 = j by omega]

structure FlowIn (w : World) (σ : Nat → Nat) (t g : Nat) (F : FS) (gq gb : Nat) (qv : Nat → Value) (fi gr : Nat → Nat) (rc : Nat → Nat → Value) : Prop where
  good : FGood F
  blk : MBlk w σ t g 59 #[.slice (some ⟨gq, 0, none⟩) F.s F.s, .slice (some ⟨gb, 0, none⟩) F.o F.o]
  rq : w.rowIs gq 79 (2 * F.s) (qCells F.to qv)
  tq : σ gq = t + 1
  rb : w.rowIs gb 62 (3 * F.o) (bCells F.m (fun j => (F.b j).length) fi gr)
  tb : σ gb = t + 2
  ring : ∀ j, j < F.o → w.rowIs (gr j) 83 (5 * F.m) (rc j)
  tr : ∀ j, j < F.o → σ (gr j) = t + 3 + j
  qs : ∀ i, i < F.s → SRow w σ (t + 11 + i) 33 4 (qv i) (F.q i).length (its (F.q i))
  fim : ∀ j, j < F.o → fi j < F.m
  has : ∀ j, j < F.o → ∀ k x, (F.b j)[k]? = some x → ∀ c v, (ms x)[c]? = some v → rc j ((fi j + k) % F.m * 5 + c) = v
def FlowAt (w : World) (σ : Nat → Nat) (t g : Nat) (F : FS) : Prop := ∃ gq gb qv fi gr rc, FlowIn w σ t g F gq gb qv fi gr rc

/-- The marks of a flow. -/
def Of (t : Nat) : Nat → Prop := fun x => t ≤ x ∧ x < t + 20

section
variable {w w' : World} {σ σ' : Nat → Nat} {t g : Nat} {F : FS} {gq gb : Nat} {qv : Nat → Value} {fi gr : Nat → Nat} {rc : Nat → Nat → Value} {S : Nat → Prop}
theorem row_chg {b : Nat} {ty : TypeId} {n : Nat} {f : Nat → Value} (h : w.rowIs b ty n f) (c : Chg S σ w σ' w') (hs : ¬ S (σ b)) : w'.rowIs b ty n f := h.of_block (c.block b h.lt hs)
theorem FlowIn.chg (h : FlowIn w σ t g F gq gb qv fi gr rc) (c : Chg S σ w σ' w') (hs : ∀ x, Of t x → ¬ S x) : FlowIn w' σ' t g F gq gb qv fi gr rc := by
  have hg := h.good
  refine ⟨h.good, h.blk.chg c (hs _ ⟨by omega, by omega⟩), row_chg h.rq c (by rw [h.tq]; exact hs _ ⟨by omega, by omega⟩), (c.marks _ h.rq.lt).trans h.tq, row_chg h.rb c (by rw [h.tb]; exact hs _ ⟨by omega, by omega⟩), (c.marks _ h.rb.lt).trans h.tb,
    fun j hj => row_chg (h.ring j hj) c (by rw [h.tr j hj]; exact hs _ ⟨by omega, by have := hg.o2; omega⟩), fun j hj => (c.marks _ (h.ring j hj).lt).trans (h.tr j hj), fun i hi => (h.qs i hi).chg c (hs _ ⟨by omega, by have := hg.s2; omega⟩), h.fim, h.has⟩
theorem FlowAt.chg (h : FlowAt w σ t g F) (c : Chg S σ w σ' w') (hs : ∀ x, Of t x → ¬ S x) : FlowAt w' σ' t g F := by
  obtain ⟨gq, gb, qv, fi, gr, rc, h⟩ := h
  exact ⟨gq, gb, qv, fi, gr, rc, h.chg c hs⟩
theorem FlowAt.below (h : FlowAt w σ t g F) (hb : Below w.heap.size w w') : FlowAt w' σ t g F := h.chg (Chg.of_below (fun _ => False) σ hb) (fun _ _ h => h)
theorem FlowAt.upd (h : FlowAt w σ t g F) {n : Nat} (hn : w.heap.size ≤ n) (x : Nat) : FlowAt w (K.upd σ n x) t g F := h.chg ((Chg.refl (fun _ => False) σ w).upd hn x) (fun _ _ h => h)
theorem FlowAt.good (h : FlowAt w σ t g F) : FGood F := by
  obtain ⟨gq, gb, qv, fi, gr, rc, h⟩ := h
  exact h.good
theorem FlowIn.c0 (h : FlowIn w σ t g F gq gb qv fi gr rc) : w.cell? ⟨g, 0, none⟩ = some (.slice (some ⟨gq, 0, none⟩) F.s F.s) := by rw [h.blk.1.cell]; rfl
theorem FlowIn.c1 (h : FlowIn w σ t g F gq gb qv fi gr rc) : w.cell? ⟨g, 1, none⟩ = some (.slice (some ⟨gb, 0, none⟩) F.o F.o) := by rw [h.blk.1.cell]; rfl
theorem FlowIn.q0 (h : FlowIn w σ t g F gq gb qv fi gr rc) {i : Nat} (hi : i < F.s) : w.cell? ⟨gq, i * 2, none⟩ = some (qv i) := by rw [h.rq.cell (by omega), qCells0]
theorem FlowIn.q1 (h : FlowIn w σ t g F gq gb qv fi gr rc) {i : Nat} (hi : i < F.s) : w.cell? ⟨gq, i * 2 + 1, none⟩ = some (.int .i64 (F.to i)) := by rw [h.rq.cell (by omega), qCells1]
theorem FlowIn.b0 (h : FlowIn w σ t g F gq gb qv fi gr rc) {j : Nat} (hj : j < F.o) : w.cell? ⟨gb, j * 3, none⟩ = some (.slice (some ⟨gr j, 0, none⟩) F.m F.m) := by rw [h.rb.cell (by omega), bCells0]
theorem FlowIn.b1 (h : FlowIn w σ t g F gq gb qv fi gr rc) {j : Nat} (hj : j < F.o) : w.cell? ⟨gb, j * 3 + 1, none⟩ = some (.int .i64 (fi j)) := by rw [h.rb.cell (by omega), bCells1]
theorem FlowIn.b2 (h : FlowIn w σ t g F gq gb qv fi gr rc) {j : Nat} (hj : j < F.o) : w.cell? ⟨gb, j * 3 + 2, none⟩ = some (.int .i64 ((F.b j).length : Nat)) := by rw [h.rb.cell (by omega), bCells2]
end

/-- Is there such a source? -/
def FS.src (F : FS) (i : Int) : Prop := 0 ≤ i ∧ i < F.s
theorem of_yes (w : World) (σ : Nat → Nat) (t g : Nat) (F : FS) (gq gb : Nat) (qv : Nat → Value) (fi gr : Nat → Nat) (rc : Nat → Nat → Value) (h : FlowIn w σ t g F gq gb qv fi gr rc) (i : Nat) (hi : i < F.s) :
    Calls Try.prog 34 #[.pointer (some ⟨g, 0, none⟩), .int .i64 i] w fun e w' => e = .returned (.tuple #[.pointer (some ⟨gq, i * 2, none⟩), .int .i64 0]) ∧ w = w' := by
  have hc0 := h.c0
  obtain ⟨s, hs⟩ : ∃ s, F.s = s := ⟨_, rfl⟩
  rw [hs] at hc0 hi
  have h1 : ¬ (i : Int) < 0 := by omega
  have h2 : ¬ (s : Int) ≤ (i : Int) := by omega
  have h3 : (0 : Int) ≤ (i : Int) := by omega
  have h4 : (i : Int) < (s : Int) := by omega
  clear hs h
  go_enter Try.func34, Try.ntmps34
  go_wp2
  go_ret2
  exact ⟨rfl, rfl⟩
theorem of_no (w : World) (σ : Nat → Nat) (t g : Nat) (F : FS) (gq gb : Nat) (qv : Nat → Value) (fi gr : Nat → Nat) (rc : Nat → Nat → Value) (h : FlowIn w σ t g F gq gb qv fi gr rc) (i : Int) (hi : ¬ F.src i) :
    Calls Try.prog 34 #[.pointer (some ⟨g, 0, none⟩), .int .i64 i] w fun e w' => e = .returned (.tuple #[.pointer none, .int .i64 1]) ∧ w = w' := by
  have hc0 := h.c0
  unfold FS.src at hi
  obtain ⟨s, hs⟩ : ∃ s, F.s = s := ⟨_, rfl⟩
  rw [hs] at hc0 hi
  clear hs h
  by_cases h1 : i < 0
  · clear hi
    go_enter Try.func34, Try.ntmps34
    go_wp2
    go_ret2
    exact ⟨rfl, rfl⟩
  · have h2 : (s : Int) ≤ i := by omega
    clear hi
    go_enter Try.func34, Try.ntmps34
    go_wp2
    go_ret2
    exact ⟨rfl, rfl⟩
end Go.Proofs.Ytapninpdjccglaa.C
