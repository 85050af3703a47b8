/-
  Locks: Free of a task that has its locks.
-/
import Derived.Test.YtgcnappgecdldaaT2
set_option linter.unusedVariables false
set_option linter.unusedSimpArgs false
namespace Go.Proofs.Ytgcnappgecdldaa.C
open Go.RowKit Go.Proofs.Ytgcnappgecdldaa.K Go.Maps

def Mgr.delHas (M : Mgr) (i : Nat) : Mgr := ⟨M.m, M.has.eraseIdx i, M.queue⟩
def Mgr.delQueue (M : Mgr) (i : Nat) : Mgr := ⟨M.m, M.has, M.queue.eraseIdx i⟩
noncomputable def Mgr.pass (M : Mgr) : Mgr := ⟨M.m, M.thr.has, M.thr.left⟩
section
variable {w w' : World} {σ : Nat → Nat} {t g : Nat} {M : Mgr} {vh vq v' : Value} {i : Nat}
theorem MgrIn.toDelHas (h : MgrIn w σ t g M vh vq) (hi : i < M.has.length)
    (ho : w'.ownsRow 0 86 2 v' (M.has.length - 1) (cvs (M.has.eraseIdx i))) (hg : w.grownBy w' vh.ownBlock) (hat : v'.ownBlock = vh.ownBlock) :
    MgrAt (w'.setCell ⟨g, 1, none⟩ v') (K.upd σ w.heap.size (t + 1)) t g (M.delHas i) ∧ Chg (Om t) σ w (K.upd σ w.heap.size (t + 1)) (w'.setCell ⟨g, 1, none⟩ v') := by
  have cg := row_chgd h.has hg
  have hb := h.blk.chg cg (by omega)
  have c2 : Chg (fun x => x = t) (K.upd σ w.heap.size (t + 1)) w' (K.upd σ w.heap.size (t + 1)) (w'.setCell ⟨g, 1, none⟩ v') := (Chg.refl _ _ w').setCell (p := ⟨g, 1, none⟩) (.inl hb.2) v'
  have hr := row_new h.has ho (.inl hat)
  have hl : (M.has.eraseIdx i).length = M.has.length - 1 := by rw [List.length_eraseIdx, if_pos hi]
  rw [← hl] at hr
  refine ⟨⟨v', vq, hb.set_ 1 v', hr.chg c2 (by omega), (h.queue.chg cg (by omega)).chg c2 (by omega), fun d hd => ?_, h.m1, h.m2, ?_, h.ql⟩, (cg.mono (fun x hx => by unfold Om; omega)).trans (c2.mono (fun x hx => by unfold Om; omega))⟩
  · have key := h.sets d (hd.imp_left List.mem_of_mem_eraseIdx)
    have m1 := (cg.marks _ key.1.lt).trans key.2
    exact ⟨(key.1.chg cg (by rw [key.2]; omega)).chg c2 (by rw [m1]; omega), m1⟩
  · have := h.hl
    show (M.has.eraseIdx i).length ≤ _
    omega
theorem MgrIn.toDelQueue (h : MgrIn w σ t g M vh vq) (hi : i < M.queue.length)
    (ho : w'.ownsRow 0 86 2 v' (M.queue.length - 1) (cvs (M.queue.eraseIdx i))) (hg : w.grownBy w' vq.ownBlock) (hat : v'.ownBlock = vq.ownBlock) :
    MgrAt (w'.setCell ⟨g, 2, none⟩ v') (K.upd σ w.heap.size (t + 2)) t g (M.delQueue i) ∧ Chg (Om t) σ w (K.upd σ w.heap.size (t + 2)) (w'.setCell ⟨g, 2, none⟩ v') := by
  have cg := row_chgd h.queue hg
  have hb := h.blk.chg cg (by omega)
  have c2 : Chg (fun x => x = t) (K.upd σ w.heap.size (t + 2)) w' (K.upd σ w.heap.size (t + 2)) (w'.setCell ⟨g, 2, none⟩ v') := (Chg.refl _ _ w').setCell (p := ⟨g, 2, none⟩) (.inl hb.2) v'
  have hr := row_new h.queue ho (.inl hat)
  have hl : (M.queue.eraseIdx i).length = M.queue.length - 1 := by rw [List.length_eraseIdx, if_pos hi]
  rw [← hl] at hr
  refine ⟨⟨vh, v', hb.set_ 2 v', (h.has.chg cg (by omega)).chg c2 (by omega), hr.chg c2 (by omega), fun d hd => ?_, h.m1, h.m2, h.hl, ?_⟩, (cg.mono (fun x hx => by unfold Om; omega)).trans (c2.mono (fun x hx => by unfold Om; omega))⟩
  · have key := h.sets d (hd.imp_right List.mem_of_mem_eraseIdx)
    have m1 := (cg.marks _ key.1.lt).trans key.2
    exact ⟨(key.1.chg cg (by rw [key.2]; omega)).chg c2 (by rw [m1]; omega), m1⟩
  · have := h.ql
    show (M.queue.eraseIdx i).length ≤ _
    omega
end

set_option maxRecDepth 100000 in
set_option maxHeartbeats 1600000 in
theorem free_yes (w : World) (σ : Nat → Nat) (t g u : Nat) (hu : u < t ∨ t + 5 ≤ u) (M : Mgr) (h : MgrAt w σ t g M) (hs : M.has.length + M.queue.length ≤ 100000) (task : Int) (i : Nat) (hi : i < M.has.length) (hpl : place M.has (fun c => c.task == task) = (i : Int)) :
    Calls Try.prog 18 #[.pointer (some ⟨g, 0, none⟩), .int .i64 task] w fun e w' => ∃ v, e = .returned (.tuple #[v, .nilIface]) ∧ ∃ σ', MgrAt w' σ' t g (M.delHas i).pass ∧ Row w' σ' u 3 1 v (M.delHas i).thr.out.length (tasks (M.delHas i).thr.out) ∧ Chg (Om t) σ w σ' w' := by
  obtain ⟨vh, vq, h⟩ := h
  obtain ⟨gh, ch, rfl, _, _⟩ := own_form h.has.1 (by omega)
  have hcl := row_claims h.has (fun c hc => (h.sets c (.inl hc)).1)
  obtain ⟨n, hn⟩ : ∃ n, M.has.length = n := ⟨_, rfl⟩
  have hf := find_c w (some ⟨gh, 0, none⟩) n ch M.has hn (by omega) hcl task i hpl
  have c1 := h.c1
  have z0 : ¬ ((i : Int) < 0) := by omega
  have z1 : i ≤ 100000 := by omega
  rw [hn] at c1
  have H := Lib.hid (And.intro h (And.intro hs (And.intro hi hn)))
  have HU := Lib.hid hu
  have Hf := Lib.hid hf
  clear h hs hi hf hu hpl hcl hn
  go_enter Try.func18, Try.ntmps18
  go_wp2_with fail
  refine Hf.out.mono ?_
  rintro e w2 ⟨rfl, hb2⟩
  have h2 := H.out.1.below hb2
  have hd : Calls Try.prog 48 #[.slice (some ⟨gh, 0, none⟩) n ch, .int .i64 i, .int .i64 ((i : Int) + 1)] w2 fun e w' => _ := delete_c w2 0 gh n ch M.has H.out.2.2.2 (by have := H.out.2.1; have := H.out.2.2.2; omega) (by have := h2.has.1; rw [H.out.2.2.2] at this; exact this) i (by have := H.out.2.2; omega)
  have c2 := h2.c1
  rw [H.out.2.2.2] at c2
  have Hd := Lib.hid hd
  have H2 := Lib.hid (And.intro h2 hb2)
  clear hd h2 hb2 c1
  go_wp2_with fail
  refine Hd.out.mono ?_
  rintro e w3 ⟨rfl, ho3, hg3⟩
  have h3 := H2.out.1.toDelHas (i := i) (v' := .slice (some ⟨gh, 0, none⟩) (n - 1) ch) (w' := w3) H.out.2.2.1 (by rw [H.out.2.2.2]; exact ho3) hg3 rfl
  have cg := row_chgd (H2.out.1.has) hg3
  have hb := (H2.out.1.blk.chg cg (by omega)).1
  have f1 := hb.frozen 1
  have d1 : w3.cell? ⟨g, 1, none⟩ = some (.slice (some ⟨gh, 0, none⟩) n ch) := by rw [hb.cell, H.out.2.2.2]; rfl
  have H3 := Lib.hid (And.intro h3.1 ((Chg.of_below (Om t) σ H2.out.2).trans h3.2))
  clear h3 cg hb ho3 hg3 H2 Hd c2
  go_wp2_with fail
  refine (through_c _ _ t g u HU.out (M.delHas i) H3.out.1 (by
    have := H.out.2.1
    have : (M.delHas i).has.length = M.has.length - 1 := by show (M.has.eraseIdx i).length = _; rw [List.length_eraseIdx, if_pos H.out.2.2.1]
    show (M.delHas i).has.length + M.queue.length ≤ _
    omega)).mono ?_
  rintro e w5 ⟨v, rfl, σ', hm, hr, hc⟩
  have H5 := Lib.hid (And.intro hm (And.intro hr (H3.out.2.trans hc)))
  clear hm hr hc H3 H f1 d1
  go_wp2
  go_ret2
  exact ⟨v, rfl, σ', H5.out⟩
end Go.Proofs.Ytgcnappgecdldaa.C
