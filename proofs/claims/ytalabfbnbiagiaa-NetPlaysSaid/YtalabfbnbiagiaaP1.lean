/-
  NetPlays: both nets in memory, side by side.
-/
import Derived.Test.YtalabfbnbiagiaaQ10
import Derived.Test.YtalabfbnbiagiaaQ8
import Derived.Test.YtalabfbnbiagiaaQ9
import Derived.Test.YtalabfbnbiagiaaLentB
import Derived.Test.YtalabfbnbiagiaaC8d
set_option linter.unusedVariables false
set_option linter.unusedSimpArgs false
namespace Go.Proofs.Ytalabfbnbiagiaa.C
open Go.RowKit Go.Proofs.Ytalabfbnbiagiaa.K

def O2 : Nat → Prop := fun x => Of 1000 x ∨ Od 2000 x
theorem O2_zero : ¬ O2 0 := by unfold O2 Of Od; omega
structure PW (w0 : World) (g r : Nat) (w : World) (σ : Nat → Nat) (N : NS) : Prop where
  a : NetAt w σ 1000 g N
  r : RefAt w σ 2000 r N
  c : Chg O2 (fun _ => 0) w0 σ w
theorem reads_chg {w w' : World} {σ σ' : Nat → Nat} {S : Nat → Prop} {A : Option Addr} {xs : List Value} (h : Reads w A xs) (c : Chg S σ w σ' w') (hne : ∀ ad, A = some ad → ¬ S (σ ad.block)) : Reads w' A xs := by
  intro j u hu
  obtain ⟨ad, he, hc⟩ := h j u hu
  refine ⟨ad, he, ?_⟩
  have hlt : (ad.add j).block < w.heap.size := World.block_lt_of_cell? w _ hc
  exact (World.cell?_of_block (c.block _ hlt (by rw [blk_add]; exact hne ad he))).trans hc
section
variable {w0 w w' : World} {g r : Nat} {σ σ' : Nat → Nat} {N N' : NS}
theorem PW.below (h : PW w0 g r w σ N) (hb : Below w.heap.size w w') : PW w0 g r w' σ N := ⟨h.a.below hb, h.r.below hb, h.c.below hb⟩
theorem PW.upd (h : PW w0 g r w σ N) {n : Nat} (hn : w.heap.size ≤ n) (x : Nat) : PW w0 g r w (K.upd σ n x) N := ⟨h.a.upd hn x, h.r.upd hn x, h.c.upd (Nat.le_trans h.c.size hn) x⟩
theorem PW.reads (h : PW w0 g r w σ N) {A : Option Addr} {xs : List Value} (hr : Reads w0 A xs) : Reads w A xs := reads_chg hr h.c (fun _ _ => O2_zero)
theorem only_chg {q : Nat} (ho : Only [q] w w') (S : Nat → Prop) (hq : S (σ q)) : Chg S σ w σ w' :=
  ⟨ho.os, ho.tape, ho.output, ho.size, fun _ _ => rfl, fun b hb hn => ho.block b hb (by intro e; simp at e; subst e; exact hn hq)⟩
theorem PW.own (h : PW w0 g r w σ N) {q : Nat} (ho : Only [q] w w') (hq : σ q = 0) (hq0 : w0.heap.size ≤ q) : PW w0 g r w' σ N := by
  have c := only_chg (σ := σ) ho (fun x => x = 0) hq
  refine ⟨h.a.chg c (by unfold Of; omega), h.r.chg c (by unfold Od; omega), ?_⟩
  exact ⟨ho.os.trans h.c.os, ho.tape.trans h.c.tape, ho.output.trans h.c.output, Nat.le_trans h.c.size ho.size, h.c.marks, fun b hb hn => (ho.block b (Nat.lt_of_lt_of_le hb h.c.size) (by intro e; simp at e; omega)).trans (h.c.block b hb hn)⟩
theorem PW.both {w1 w2 : World} {σ1 σ2 : Nat → Nat} (h : PW w0 g r w σ N) (a1 : NetAt w1 σ1 1000 g N') (c1 : Chg (Of 1000) σ w σ1 w1) (a2 : RefAt w2 σ2 2000 r N') (c2 : Chg (Od 2000) σ1 w1 σ2 w2) : PW w0 g r w2 σ2 N' :=
  ⟨a1.chg c2 (by unfold Of Od; omega), a2, (h.c.trans (c1.mono (S' := O2) (fun _ h => .inl h))).trans (c2.mono (S' := O2) (fun _ h => .inr h))⟩
/-- A block of mark 0 stays. -/
theorem blk_both {w1 w2 : World} {σ1 σ2 : Nat → Nat} {q : Nat} {ty : TypeId} {cs : Array Value} (h : MBlk w σ 0 q ty cs) (c1 : Chg (Of 1000) σ w σ1 w1) (c2 : Chg (Od 2000) σ1 w1 σ2 w2) : MBlk w2 σ2 0 q ty cs :=
  (h.chg c1 (by unfold Of; omega)).chg c2 (by unfold Od; omega)
end
end Go.Proofs.Ytalabfbnbiagiaa.C
