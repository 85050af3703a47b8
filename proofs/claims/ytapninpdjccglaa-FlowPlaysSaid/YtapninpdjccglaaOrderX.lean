/-
  FlowOrder: a round's own block beside the flow; what an append to a told row needs.
-/
import Derived.Test.YtapninpdjccglaaOrderW
import Derived.Deep.DeepCutAuto
set_option linter.unusedVariables false
set_option linter.unusedSimpArgs false
namespace Go.Proofs.Ytapninpdjccglaa.C
open Go.RowKit Go.Proofs.Ytapninpdjccglaa.K

/-- .. and a block of the round's own. -/
structure OX (w0 : World) (g gp gt o s len p : Nat) (ty : TypeId) (cs : Array Value) (w : World) (σ : Nat → Nat) (F : FS) (P : Nat → List It) (T : Nat → List Ms) (pv tv : Nat → Value) : Prop extends OW w0 g gp gt o s len w σ F P T pv tv where
  blk : MBlk w σ 0 p ty cs
section
variable {w0 w w' : World} {g gp gt o s len p : Nat} {ty : TypeId} {cs : Array Value} {σ σ' : Nat → Nat} {F F' : FS} {P : Nat → List It} {T : Nat → List Ms} {pv tv : Nat → Value}
theorem OX.below (h : OX w0 g gp gt o s len p ty cs w σ F P T pv tv) (hb : Below w.heap.size w w') : OX w0 g gp gt o s len p ty cs w' σ F P T pv tv := ⟨h.toOW.below hb, h.blk.below hb⟩
theorem OX.flow (h : OX w0 g gp gt o s len p ty cs w σ F P T pv tv) (h1 : FlowAt w' σ' 1000 g F') (h2 : FInv F') (h3 : Like F F') (hs : s ≤ 8) (ho : o ≤ 8) (c : Chg (Of 1000) σ w σ' w') : OX w0 g gp gt o s len p ty cs w' σ' F' P T pv tv :=
  ⟨h.toOW.flow h1 h2 h3 hs ho c, h.blk.chg c (by unfold Of; omega)⟩
theorem OW.upd (h : OW w0 g gp gt o s len w σ F P T pv tv) (hs : s ≤ 8) (ho : o ≤ 8) {m : Nat} (hm : w.heap.size ≤ m) (t : Nat) : OW w0 g gp gt o s len w (K.upd σ m t) F P T pv tv := by
  have c : Chg (fun _ => False) σ w (K.upd σ m t) w := (Chg.refl _ σ w).upd hm t
  refine ⟨h.at_.upd hm t, h.inv, h.hs, h.ho, h.c.upd (Nat.le_trans h.c.size hm) t, h.rp, (c.marks _ h.rp.lt).trans h.tp, h.rt, (c.marks _ h.rt.lt).trans h.tt, fun i hi => (h.ps i hi).upd hm t, fun j hj => (h.ts j hj).upd hm t⟩
theorem OX.new (h : OW w0 g gp gt o s len w σ F P T pv tv) (hs : s ≤ 8) (ho : o ≤ 8) (ty : TypeId) (cs : Array Value) : OX w0 g gp gt o s len w.heap.size ty cs (w.alloc (.cells cs ty)) (K.upd σ w.heap.size 0) F P T pv tv :=
  ⟨(h.upd hs ho (Nat.le_refl _) 0).below ((Below.refl _ _).alloc (Nat.le_refl _) _), Blk.new _ _ _, by simp [K.upd]⟩
theorem OX.upd (h : OX w0 g gp gt o s len p ty cs w σ F P T pv tv) (hs : s ≤ 8) (ho : o ≤ 8) {m : Nat} (hm : w.heap.size ≤ m) (t : Nat) : OX w0 g gp gt o s len p ty cs w (K.upd σ m t) F P T pv tv := ⟨h.toOW.upd hs ho hm t, h.blk.upd hm t⟩
theorem OX.two (h : OX w0 g gp gt o s len p ty cs w σ F P T pv tv) (hs : s ≤ 8) (ho : o ≤ 8) (ty2 : TypeId) (cs2 : Array Value) :
    OX w0 g gp gt o s len p ty cs (w.alloc (.cells cs2 ty2)) (K.upd σ w.heap.size 0) F P T pv tv ∧ MBlk (w.alloc (.cells cs2 ty2)) (K.upd σ w.heap.size 0) 0 w.heap.size ty2 cs2 :=
  ⟨(h.upd hs ho (Nat.le_refl _) 0).below ((Below.refl _ _).alloc (Nat.le_refl _) _), Blk.new _ _ _, by simp [K.upd]⟩
theorem OW.plus (h : OW w0 g gp gt o s len w σ F P T pv tv) (hs : s ≤ 8) (ho : o ≤ 8) (ty2 : TypeId) (cs2 : Array Value) :
    OW w0 g gp gt o s len (w.alloc (.cells cs2 ty2)) (K.upd σ w.heap.size 0) F P T pv tv ∧ MBlk (w.alloc (.cells cs2 ty2)) (K.upd σ w.heap.size 0) 0 w.heap.size ty2 cs2 :=
  ⟨(h.upd hs ho (Nat.le_refl _) 0).below ((Below.refl _ _).alloc (Nat.le_refl _) _), Blk.new _ _ _, by simp [K.upd]⟩
end
theorem info52' : (Try.prog.info? 52).map (fun i => (i.zero, i.size, i.bytes)) = some (some (.agg #[.int .i64 0, .bool false, .string ⟨#[]⟩, .int .i64 0, .int .i64 0]), 5, 48) := by kernel_rfl
theorem ms_one (m : Ms) : ∀ v ∈ ms m, v.oneCell' = true := by
  intro v hv
  simp [ms, it] at hv
  rcases hv with rfl | rfl | rfl | rfl | rfl <;> rfl
/-- What the append onto put[d] needs. -/
structure PreP (g gp gt s p : Nat) (w : World) (σ : Nat → Nat) (P : Nat → List It) (pv : Nat → Value) (d : Nat) (x : It) (A : Option Addr) (n c : Nat) : Prop where
  pv : pv d = .slice A n c
  len : (P d).length = n
  c0 : w.cell? ⟨gp, d, none⟩ = some (.slice A n c)
  row : SRow w σ (50 + d) 33 4 (.slice A n c) n (its (P d))
  ca : (w.alloc (.cells (it x).toArray 33)).cell? ⟨gp, d, none⟩ = some (.slice A n c)
  bel : Below w.heap.size w ((w.alloc (.cells (it x).toArray 33)).drew)
  news : ∀ j u, (it x)[j]? = some u → ((w.alloc (.cells (it x).toArray 33)).drew).cell? ((⟨w.heap.size, 0, none⟩ : Addr).add j) = some u
  fz : w.frozen? ⟨gp, d, none⟩ = false
  kk : ∀ (w2 : World) (σ2 : Nat → Nat), Chg (fun y => y = 50 + d) σ ((w.alloc (.cells (it x).toArray 33)).drew) σ2 w2 → w2.cell? ⟨gp, d, none⟩ = some (.slice A n c) ∧ (∀ j, w2.cell? ⟨p, j, none⟩ = w.cell? ⟨p, j, none⟩) ∧ w2.frozen? ⟨gp, d, none⟩ = false
theorem OX.preP {w0 w : World} {g gp gt o s len p : Nat} {ty : TypeId} {cs : Array Value} {σ : Nat → Nat} {F : FS} {P : Nat → List It} {T : Nat → List Ms} {pv tv : Nat → Value} (h : OX w0 g gp gt o s len p ty cs w σ F P T pv tv) (hs : s ≤ 8) {d : Nat} (hd : d < s) (x : It) :
    ∃ A n c, PreP g gp gt s p w σ P pv d x A n c := by
  have hrow := h.ps d hd
  obtain ⟨A, c, hv, hnc⟩ := hrow.slice
  obtain ⟨n, hn⟩ : ∃ n, (P d).length = n := ⟨_, rfl⟩
  have q0 : w.cell? ⟨gp, d, none⟩ = some (pv d) := h.rp.cell hd
  rw [hv] at q0 hrow
  rw [hn] at q0 hrow hv
  have hba : Below w.heap.size w ((w.alloc (.cells (it x).toArray 33)).drew) := ((Below.refl _ _).alloc (Nat.le_refl _) _).drew
  have hba2 : Below w.heap.size w (w.alloc (.cells (it x).toArray 33)) := (Below.refl _ _).alloc (Nat.le_refl _) _
  have l1 := h.rp.lt
  have l2 := h.blk.1.lt
  refine ⟨A, n, c, hv, hn, q0, hrow, (hba2.cell (p := ⟨gp, d, none⟩) l1).trans q0, hba, ?_, h.rp.frozen d, ?_⟩
  · intro j u hj
    have hadd : (⟨w.heap.size, 0, none⟩ : Addr).add j = ⟨w.heap.size, j, none⟩ := by unfold Addr.add; split <;> simp_all
    rw [hadd, World.cell?_drew, (Blk.new w 33 (it x).toArray).cell]
    simpa using hj
  · intro w2 σ2 hc2
    have e1 := hc2.block gp (Nat.lt_of_lt_of_le l1 hba.size) (by rw [h.tp]; omega)
    have e2 := hc2.block p (Nat.lt_of_lt_of_le l2 hba.size) (by rw [h.blk.2]; omega)
    exact ⟨(World.cell?_of_block (a := ⟨gp, d, none⟩) e1).trans ((hba.cell (p := ⟨gp, d, none⟩) l1).trans q0), fun j => (World.cell?_of_block (a := ⟨p, j, none⟩) e2).trans (hba.cell (p := ⟨p, j, none⟩) l2), (World.frozen?_of_block (a := ⟨gp, d, none⟩) e1).trans ((hba.frozen (p := ⟨gp, d, none⟩) l1).trans (h.rp.frozen d))⟩
structure PreT (g gp gt s p p2 : Nat) (w : World) (σ : Nat → Nat) (T : Nat → List Ms) (tv : Nat → Value) (d : Nat) (x : Ms) (A : Option Addr) (n c : Nat) : Prop where
  tv : tv d = .slice A n c
  len : (T d).length = n
  c0 : w.cell? ⟨gt, d, none⟩ = some (.slice A n c)
  row : SRow w σ (60 + d) 52 5 (.slice A n c) n ((T d).flatMap ms)
  ca : (w.alloc (.cells (ms x).toArray 52)).cell? ⟨gt, d, none⟩ = some (.slice A n c)
  bel : Below w.heap.size w ((w.alloc (.cells (ms x).toArray 52)).drew)
  news : ∀ j u, (ms x)[j]? = some u → ((w.alloc (.cells (ms x).toArray 52)).drew).cell? ((⟨w.heap.size, 0, none⟩ : Addr).add j) = some u
  fz : w.frozen? ⟨gt, d, none⟩ = false
  kk : ∀ (w2 : World) (σ2 : Nat → Nat), Chg (fun y => y = 60 + d) σ ((w.alloc (.cells (ms x).toArray 52)).drew) σ2 w2 → w2.cell? ⟨gt, d, none⟩ = some (.slice A n c) ∧ (∀ j, w2.cell? ⟨p, j, none⟩ = w.cell? ⟨p, j, none⟩) ∧ (∀ j, w2.cell? ⟨p2, j, none⟩ = w.cell? ⟨p2, j, none⟩) ∧ w2.frozen? ⟨gt, d, none⟩ = false
theorem OW.preT {w0 w : World} {g gp gt o s len p p2 : Nat} {ty ty2 : TypeId} {cs cs2 : Array Value} {σ : Nat → Nat} {F : FS} {P : Nat → List It} {T : Nat → List Ms} {pv tv : Nat → Value} (h : OW w0 g gp gt o s len w σ F P T pv tv) (hb1 : MBlk w σ 0 p ty cs) (hb2 : MBlk w σ 0 p2 ty2 cs2) (hs : s ≤ 8) {d : Nat} (hd : d < o) (x : Ms) :
    ∃ A n c, PreT g gp gt s p p2 w σ T tv d x A n c := by
  have hrow := h.ts d hd
  obtain ⟨A, c, hv, hnc⟩ := hrow.slice
  obtain ⟨n, hn⟩ : ∃ n, (T d).length = n := ⟨_, rfl⟩
  have q0 : w.cell? ⟨gt, d, none⟩ = some (tv d) := h.rt.cell hd
  rw [hv] at q0 hrow
  rw [hn] at q0 hrow hv
  have hba : Below w.heap.size w ((w.alloc (.cells (ms x).toArray 52)).drew) := ((Below.refl _ _).alloc (Nat.le_refl _) _).drew
  have hba2 : Below w.heap.size w (w.alloc (.cells (ms x).toArray 52)) := (Below.refl _ _).alloc (Nat.le_refl _) _
  have l1 := h.rt.lt
  have l2 := hb1.1.lt
  have l3 := hb2.1.lt
  refine ⟨A, n, c, hv, hn, q0, hrow, (hba2.cell (p := ⟨gt, d, none⟩) l1).trans q0, hba, ?_, h.rt.frozen d, ?_⟩
  · intro j u hj
    have hadd : (⟨w.heap.size, 0, none⟩ : Addr).add j = ⟨w.heap.size, j, none⟩ := by unfold Addr.add; split <;> simp_all
    rw [hadd, World.cell?_drew, (Blk.new w 52 (ms x).toArray).cell]
    simpa using hj
  · intro w2 σ2 hc2
    have e1 := hc2.block gt (Nat.lt_of_lt_of_le l1 hba.size) (by rw [h.tt]; omega)
    have e2 := hc2.block p (Nat.lt_of_lt_of_le l2 hba.size) (by rw [hb1.2]; omega)
    have e3 := hc2.block p2 (Nat.lt_of_lt_of_le l3 hba.size) (by rw [hb2.2]; omega)
    exact ⟨(World.cell?_of_block (a := ⟨gt, d, none⟩) e1).trans ((hba.cell (p := ⟨gt, d, none⟩) l1).trans q0), fun j => (World.cell?_of_block (a := ⟨p, j, none⟩) e2).trans (hba.cell (p := ⟨p, j, none⟩) l2), fun j => (World.cell?_of_block (a := ⟨p2, j, none⟩) e3).trans (hba.cell (p := ⟨p2, j, none⟩) l3), (World.frozen?_of_block (a := ⟨gt, d, none⟩) e1).trans ((hba.frozen (p := ⟨gt, d, none⟩) l1).trans (h.rt.frozen d))⟩
theorem put_in {F : FS} {a : Int} {x : It} (h : (F.put a x).1 = 0) : 0 ≤ a ∧ a < F.s ∧ May x = 0 := by
  unfold FS.put at h
  split at h
  · rename_i h1
    split at h
    · rename_i h2
      exact ⟨h1.1, h1.2, h2⟩
    · rename_i h2
      exact absurd h h2
  · exact absurd h (show ¬ (1 : Int) = 0 by decide)
theorem put_keeps {s k : Nat} {P : Nat → List It} {d : Nat} (hd : d < s) {x : It} (h : ∀ i, i < s → (P i).length ≤ k ∧ ∀ x ∈ P i, ItOk x) (hx : ItOk x) : ∀ i, i < s → (updL P d (P d ++ [x]) i).length ≤ k + 1 ∧ ∀ y ∈ updL P d (P d ++ [x]) i, ItOk y := by
  intro i hi
  unfold updL
  by_cases e : i = d
  · subst e
    rw [if_pos rfl]
    refine ⟨by have := (h i hi).1; simp; omega, fun y hy => ?_⟩
    rcases List.mem_append.1 hy with h2 | h2
    · exact (h i hi).2 y h2
    · obtain rfl : y = x := by simpa using h2
      exact hx
  · rw [if_neg e]
    exact ⟨Nat.le_succ_of_le (h i hi).1, (h i hi).2⟩
theorem take_in {F : FS} {a : Int} (h : (F.take a).2.2.1 = 0) : 0 ≤ a ∧ a < F.o := by
  unfold FS.take at h
  split at h
  · rename_i h1
    exact h1
  · exact absurd h (show ¬ (1 : Int) = 0 by decide)
theorem take_keeps {o c p p' : Nat} {T : Nat → List Ms} {d : Nat} (hd : d < o) {m : Ms} (hp : p' + 1 = p) (h : ∀ j, j < o → (T j).length + p ≤ c) : ∀ j, j < o → (updL T d (T d ++ [m]) j).length + p' ≤ c := by
  intro j hj
  have := h j hj
  unfold updL
  by_cases e : j = d
  · subst e
    rw [if_pos rfl]
    simp
    omega
  · rw [if_neg e]
    omega
/-- The last statement of its sequence, told as if another came behind (so that go_cut takes it). -/
theorem wp_last {P : Program} {c : Code} {Q : Exit → Act → World → Prop} {a : Act} {w : World} (h : ∀ K : Act → World → Prop, (∀ a w, Q .normal a w → K a w) → c.wp P (Exit.then K Q) a w) : c.wp P Q a w :=
  wp_mono (h (Q .normal) (fun _ _ h => h)) (fun e a w hq => by cases e <;> exact hq)
end Go.Proofs.Ytapninpdjccglaa.C
