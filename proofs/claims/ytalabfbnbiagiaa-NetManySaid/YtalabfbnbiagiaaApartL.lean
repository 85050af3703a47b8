/-
  NetApart, in plain Lean: what a step tells hangs on its own connection alone.
-/
import Derived.Test.YtalabfbnbiagiaaDid
set_option linter.unusedVariables false
set_option linter.unusedSimpArgs false
namespace Go.Proofs.Ytalabfbnbiagiaa.C
open Go.RowKit Go.Proofs.Ytalabfbnbiagiaa.K

theorem err_same {N M : NS} {c : Int} (hc : N.cs c.toNat = M.cs c.toNat) (u : Bool) : err N c u = err M c u := by unfold err; rw [hc]
/-- Two nets that are alike in one connection. -/
structure Same (N M : NS) (d : Nat) : Prop where
  i : N.i = M.i
  o : N.o = M.o
  cs : N.cs d = M.cs d
theorem did_same {N M : NS} (s : NSt) (h : Same N M s.c.toNat) : (N.did s).1 = (M.did s).1 ∧ (N.did s).2.1 = (M.did s).2.1 ∧ Same (N.did s).2.2 (M.did s).2.2 s.c.toNat := by
  obtain ⟨hi, ho, hc⟩ := h
  have he := fun u => err_same hc u
  have hb := fun C m => (show N.brings C m = M.brings C m by unfold NS.brings; rw [hi])
  unfold NS.did
  repeat' split
  · simp only [NS.open_, he]
    repeat' split
    all_goals exact ⟨by first | rfl | trivial, by first | rfl | trivial, ⟨by first | exact hi | trivial, by first | exact ho | trivial, by first | exact hc | simp [NS.put]⟩⟩
  · simp only [NS.send, he, hc]
    repeat' split
    all_goals exact ⟨by first | rfl | trivial, by first | rfl | trivial, ⟨by first | exact hi | trivial, by first | exact ho | trivial, by first | exact hc | simp [NS.put]⟩⟩
  · simp only [NS.bring, he, hc, hb]
    repeat' split
    all_goals exact ⟨by first | rfl | trivial, by first | rfl | trivial, ⟨by first | exact hi | trivial, by first | exact ho | trivial, by first | exact hc | simp [NS.put]⟩⟩
  · simp only [NS.take, he, hc]
    repeat' split
    all_goals exact ⟨by first | rfl | trivial, by first | rfl | trivial, ⟨by first | exact hi | trivial, by first | exact ho | trivial, by first | exact hc | simp [NS.put]⟩⟩
  · simp only [NS.write, he, hc, ho]
    repeat' split
    all_goals exact ⟨by first | rfl | trivial, by first | rfl | trivial, ⟨by first | exact hi | trivial, by first | exact ho | trivial, by first | exact hc | simp [NS.put]⟩⟩
  · simp only [NS.fetch, he, hc]
    repeat' split
    all_goals exact ⟨by first | rfl | trivial, by first | rfl | trivial, ⟨by first | exact hi | trivial, by first | exact ho | trivial, by first | exact hc | simp [NS.put]⟩⟩
  · simp only [NS.close, he, hc]
    repeat' split
    all_goals exact ⟨by first | rfl | trivial, by first | rfl | trivial, ⟨by first | exact hi | trivial, by first | exact ho | trivial, by first | exact hc | simp [NS.put]⟩⟩
  · simp only [NS.cut_, he, hc]
    repeat' split
    all_goals exact ⟨by first | rfl | trivial, by first | rfl | trivial, ⟨by first | exact hi | trivial, by first | exact ho | trivial, by first | exact hc | simp [NS.put]⟩⟩
  · exact ⟨rfl, rfl, ⟨hi, ho, hc⟩⟩
theorem did_far {N : NS} (s : NSt) {d : Nat} (h : d ≠ s.c.toNat) : (N.did s).2.2.i = N.i ∧ (N.did s).2.2.o = N.o ∧ (N.did s).2.2.cs d = N.cs d := by
  unfold NS.did
  repeat' split
  · simp only [NS.open_]
    repeat' split
    all_goals exact ⟨rfl, rfl, by first | rfl | simp [NS.put, h]⟩
  · simp only [NS.send]
    repeat' split
    all_goals exact ⟨rfl, rfl, by first | rfl | simp [NS.put, h]⟩
  · simp only [NS.bring]
    repeat' split
    all_goals exact ⟨rfl, rfl, by first | rfl | simp [NS.put, h]⟩
  · simp only [NS.take]
    repeat' split
    all_goals exact ⟨rfl, rfl, by first | rfl | simp [NS.put, h]⟩
  · simp only [NS.write]
    repeat' split
    all_goals exact ⟨rfl, rfl, by first | rfl | simp [NS.put, h]⟩
  · simp only [NS.fetch]
    repeat' split
    all_goals exact ⟨rfl, rfl, by first | rfl | simp [NS.put, h]⟩
  · simp only [NS.close]
    repeat' split
    all_goals exact ⟨rfl, rfl, by first | rfl | simp [NS.put, h]⟩
  · simp only [NS.cut_]
    repeat' split
    all_goals exact ⟨rfl, rfl, by first | rfl | simp [NS.put, h]⟩
  · exact ⟨rfl, rfl, rfl⟩
theorem looks_same {N M : NS} {c : Int} (hc : N.cs c.toNat = M.cs c.toNat) : N.heard_ c = M.heard_ c ∧ N.is_ c = M.is_ c ∧ N.under c = M.under c := by
  have he := err_same hc false
  refine ⟨?_, ?_, ?_⟩
  · unfold NS.heard_; rw [he, hc]
  · unfold NS.is_; rw [he, hc]
  · unfold NS.under; rw [he, hc]
/-- Both nets in memory; the run's beginning stays. -/
structure Two (w0 : World) (ga gb : Nat) (w : World) (σ : Nat → Nat) (N M : NS) : Prop where
  st : St w0 σ w
  a : NetAt w σ 1000 ga N
  b : NetAt w σ 2000 gb M
theorem o10 : ¬ Of 1000 0 := by unfold Of; omega
theorem o20 : ¬ Of 2000 0 := by unfold Of; omega
theorem o12 (x : Nat) (h : Of 1000 x) : ¬ Of 2000 x := by unfold Of at *; omega
theorem o21 (x : Nat) (h : Of 2000 x) : ¬ Of 1000 x := by unfold Of at *; omega
section
variable {w0 w w' : World} {σ σ' : Nat → Nat} {ga gb p : Nat} {N M N' : NS} {ty : TypeId} {cs : Array Value}
theorem Two.below (h : Two w0 ga gb w σ N M) (hb : Below w.heap.size w w') : Two w0 ga gb w' σ N M := ⟨h.st.below hb, h.a.below hb, h.b.below hb⟩
theorem Two.new (h : Two w0 ga gb w σ N M) (ty : TypeId) (cs : Array Value) : Two w0 ga gb (w.alloc (.cells cs ty)) (K.upd σ w.heap.size 0) N M ∧ MBlk (w.alloc (.cells cs ty)) (K.upd σ w.heap.size 0) 0 w.heap.size ty cs :=
  ⟨(⟨h.st.upd h.st.size 0, h.a.upd (Nat.le_refl _) 0, h.b.upd (Nat.le_refl _) 0⟩ : Two w0 ga gb w (K.upd σ w.heap.size 0) N M).below ((Below.refl _ _).alloc (Nat.le_refl _) _), Blk.new _ _ _, upd_new (Nat.le_refl _)⟩
theorem Two.stepA (h : Two w0 ga gb w σ N M) (h1 : NetAt w' σ' 1000 ga N') (c : Chg (Of 1000) σ w σ' w') : Two w0 ga gb w' σ' N' M := ⟨h.st.chg c o10, h1, h.b.chg c (fun x h => o21 x h)⟩
theorem Two.stepB (h : Two w0 ga gb w σ N M) (h1 : NetAt w' σ' 2000 gb N') (c : Chg (Of 2000) σ w σ' w') : Two w0 ga gb w' σ' N N' := ⟨h.st.chg c o20, h.a.chg c (fun x h => o12 x h), h1⟩
/-- A write into a block of the round's own. -/
theorem Two.own (h : Two w0 ga gb w σ N M) (hb : MBlk w σ 0 p ty cs) (hp : w0.heap.size ≤ p) (i : Nat) (u : Value) : Two w0 ga gb (w.setCell ⟨p, i, none⟩ u) σ N M ∧ MBlk (w.setCell ⟨p, i, none⟩ u) σ 0 p ty (cs.setIfInBounds i u) := by
  have c : Chg (fun x => x = 0) σ w σ (w.setCell ⟨p, i, none⟩ u) := (Chg.refl _ σ w).setCell (p := ⟨p, i, none⟩) (.inl hb.2) u
  refine ⟨⟨⟨⟨c.os.trans h.st.bel.os, c.tape.trans h.st.bel.tape, c.output.trans h.st.bel.output, Nat.le_trans h.st.bel.size c.size, fun b hb' => ?_⟩, h.st.zero⟩, h.a.chg c (by intro x hx e; unfold Of at hx; omega), h.b.chg c (by intro x hx e; unfold Of at hx; omega)⟩, hb.set_ i u⟩
  exact (Below.heap_setCell w ⟨p, i, none⟩ u b (by intro e; simp only at e; omega)).trans (h.st.bel.block b hb')
end
theorem NSt.ok.below {w w' : World} {s : NSt} (h : s.ok w) (hb : Below w.heap.size w w') : s.ok w' := ⟨h.len, h.cap, h.rd.below hb, h.lim, h.wk, h.wc, h.wm⟩
theorem wf_four {r : Nat} (h : (r : Int) < 5) : (Lit.int .i64 (4 + (r : Int))).wf = true := by
  have h2 : r < 5 := by omega
  clear h
  revert h2
  revert r
  decide +kernel
end Go.Proofs.Ytalabfbnbiagiaa.C
