/-
  FlowOrder: the flow and the two told rows of rows in memory.
-/
import Derived.Test.YtapninpdjccglaaOrderD
import Derived.Test.YtapninpdjccglaaRoom
set_option linter.unusedVariables false
set_option linter.unusedSimpArgs false
namespace Go.Proofs.Ytapninpdjccglaa.C
open Go.RowKit Go.Proofs.Ytapninpdjccglaa.K

/-- What the law itself changes. -/
def OS : Nat → Prop := fun x => Of 1000 x ∨ (48 ≤ x ∧ x < 70)
structure OW (w0 : World) (g gp gt o s len : Nat) (w : World) (σ : Nat → Nat) (F : FS) (P : Nat → List It) (T : Nat → List Ms) (pv tv : Nat → Value) : Prop where
  at_ : FlowAt w σ 1000 g F
  inv : FInv F
  hs : F.s = s
  ho : F.o = o
  c : Chg OS (fun _ => 0) w0 σ w
  rp : w.rowIs gp 45 s pv
  tp : σ gp = 48
  rt : w.rowIs gt 50 o tv
  tt : σ gt = 49
  ps : ∀ i, i < s → SRow w σ (50 + i) 33 4 (pv i) (P i).length (its (P i))
  ts : ∀ j, j < o → SRow w σ (60 + j) 52 5 (tv j) (T j).length ((T j).flatMap ms)
section
variable {w0 w w' : World} {g gp gt o s len : Nat} {σ σ' : Nat → Nat} {F F' : FS} {P : Nat → List It} {T : Nat → List Ms} {pv tv : Nat → Value}
theorem OW.below (h : OW w0 g gp gt o s len w σ F P T pv tv) (hb : Below w.heap.size w w') : OW w0 g gp gt o s len w' σ F P T pv tv := by
  have c := Chg.of_below (fun _ => False) σ hb
  exact ⟨h.at_.below hb, h.inv, h.hs, h.ho, h.c.below hb, row_chg h.rp c (fun h => h), h.tp, row_chg h.rt c (fun h => h), h.tt, fun i hi => (h.ps i hi).below hb, fun j hj => (h.ts j hj).below hb⟩
/-- A call on the flow. -/
theorem OW.flow (h : OW w0 g gp gt o s len w σ F P T pv tv) (h1 : FlowAt w' σ' 1000 g F') (h2 : FInv F') (h3 : Like F F') (hs : s ≤ 8) (ho : o ≤ 8) (c : Chg (Of 1000) σ w σ' w') : OW w0 g gp gt o s len w' σ' F' P T pv tv := by
  refine ⟨h1, h2, h3.1.trans h.hs, h3.2.1.trans h.ho, h.c.trans (c.mono (fun _ h => .inl h)), row_chg h.rp c (by rw [h.tp]; unfold Of; omega), (c.marks _ h.rp.lt).trans h.tp, row_chg h.rt c (by rw [h.tt]; unfold Of; omega), (c.marks _ h.rt.lt).trans h.tt, fun i hi => (h.ps i hi).chg c (by unfold Of; omega), fun j hj => (h.ts j hj).chg c (by unfold Of; omega)⟩
theorem OW.tput (h : OW w0 g gp gt o s len w σ F P T pv tv) {d : Nat} (hd : d < s) (x : It) (hs : s ≤ 8) (ho : o ≤ 8) {W2 w2 : World} (hba : Below w.heap.size w W2) {A2 : Option Addr} {c2 n : Nat} (hn : (P d).length = n)
    (hs2 : SRow w2 (upd σ W2.heap.size (50 + d)) (50 + d) 33 4 (.slice A2 (n + 1) c2) (n + 1) (its (P d) ++ it x)) (hc2 : Chg (fun y => y = 50 + d) σ W2 (upd σ W2.heap.size (50 + d)) w2) :
    OW w0 g gp gt o s len (w2.setCell ⟨gp, d, none⟩ (.slice A2 (n + 1) c2)) (upd σ W2.heap.size (50 + d)) F (updL P d (P d ++ [x])) T (fun k => if k = d then .slice A2 (n + 1) c2 else pv k) tv := by
  have hgp : (upd σ W2.heap.size (50 + d)) gp = 48 := by rw [upd_old (Nat.lt_of_lt_of_le h.rp.lt hba.size)]; exact h.tp
  have c : Chg (fun y => y = 48 ∨ y = 50 + d) σ w (upd σ W2.heap.size (50 + d)) (w2.setCell ⟨gp, d, none⟩ (.slice A2 (n + 1) c2)) :=
    ((Chg.of_below _ _ hba).trans (hc2.mono (fun _ h => .inr h))).setCell (p := ⟨gp, d, none⟩) (.inl (.inl hgp)) _
  have r1 := (row_below h.rp hba).of_block (hc2.block gp (row_below h.rp hba).lt (by rw [h.tp]; omega))
  have r2 : (w2.setCell ⟨gp, d, none⟩ (.slice A2 (n + 1) c2)).rowIs gp 45 s (fun k => if k = d then .slice A2 (n + 1) c2 else pv k) := r1.set d (.slice A2 (n + 1) c2)
  refine ⟨h.at_.chg c (by unfold Of; omega), h.inv, h.hs, h.ho, h.c.trans (c.mono (fun y hy => .inr (by omega))), r2, hgp, row_chg h.rt c (by rw [h.tt]; omega), (c.marks _ h.rt.lt).trans h.tt, fun i hi => ?_, fun j hj => (h.ts j hj).chg c (by omega)⟩
  by_cases hid : i = d
  · subst hid
    have e1 : (P i ++ [x]).length = n + 1 := by rw [List.length_append, hn]; rfl
    have e2 : updL P i (P i ++ [x]) i = P i ++ [x] := by unfold updL; rw [if_pos rfl]
    rw [e2, e1, its_append, show its [x] = it x from List.append_nil _]
    rw [if_pos rfl]
    exact hs2.chg ((Chg.refl (fun y => y = 48) _ w2).setCell (p := ⟨gp, i, none⟩) (.inl hgp) _) (by omega)
  · have e2 : updL P d (P d ++ [x]) i = P i := by unfold updL; rw [if_neg hid]
    rw [e2]
    rw [if_neg hid]
    exact (h.ps i hi).chg c (by omega)
theorem OW.ttook (h : OW w0 g gp gt o s len w σ F P T pv tv) {d : Nat} (hd : d < o) (x : Ms) (hs : s ≤ 8) (ho : o ≤ 8) {W2 w2 : World} (hba : Below w.heap.size w W2) {A2 : Option Addr} {c2 n : Nat} (hn : (T d).length = n)
    (hs2 : SRow w2 (upd σ W2.heap.size (60 + d)) (60 + d) 52 5 (.slice A2 (n + 1) c2) (n + 1) ((T d).flatMap ms ++ ms x)) (hc2 : Chg (fun y => y = 60 + d) σ W2 (upd σ W2.heap.size (60 + d)) w2) :
    OW w0 g gp gt o s len (w2.setCell ⟨gt, d, none⟩ (.slice A2 (n + 1) c2)) (upd σ W2.heap.size (60 + d)) F P (updL T d (T d ++ [x])) pv (fun k => if k = d then .slice A2 (n + 1) c2 else tv k) := by
  have hgp : (upd σ W2.heap.size (60 + d)) gt = 49 := by rw [upd_old (Nat.lt_of_lt_of_le h.rt.lt hba.size)]; exact h.tt
  have c : Chg (fun y => y = 49 ∨ y = 60 + d) σ w (upd σ W2.heap.size (60 + d)) (w2.setCell ⟨gt, d, none⟩ (.slice A2 (n + 1) c2)) :=
    ((Chg.of_below _ _ hba).trans (hc2.mono (fun _ h => .inr h))).setCell (p := ⟨gt, d, none⟩) (.inl (.inl hgp)) _
  have r1 := (row_below h.rt hba).of_block (hc2.block gt (row_below h.rt hba).lt (by rw [h.tt]; omega))
  have r2 : (w2.setCell ⟨gt, d, none⟩ (.slice A2 (n + 1) c2)).rowIs gt 50 o (fun k => if k = d then .slice A2 (n + 1) c2 else tv k) := r1.set d (.slice A2 (n + 1) c2)
  refine ⟨h.at_.chg c (by unfold Of; omega), h.inv, h.hs, h.ho, h.c.trans (c.mono (fun y hy => .inr (by omega))), row_chg h.rp c (by rw [h.tp]; omega), (c.marks _ h.rp.lt).trans h.tp, r2, hgp, fun i hi => (h.ps i hi).chg c (by omega), fun i hi => ?_⟩
  by_cases hid : i = d
  · subst hid
    have e1 : (T i ++ [x]).length = n + 1 := by rw [List.length_append, hn]; rfl
    have e2 : updL T i (T i ++ [x]) i = T i ++ [x] := by unfold updL; rw [if_pos rfl]
    rw [e2, e1, List.flatMap_append, show [x].flatMap ms = ms x from List.append_nil _]
    rw [if_pos rfl]
    exact hs2.chg ((Chg.refl (fun y => y = 49) _ w2).setCell (p := ⟨gt, i, none⟩) (.inl hgp) _) (by omega)
  · have e2 : updL T d (T d ++ [x]) i = T i := by unfold updL; rw [if_neg hid]
    rw [e2]
    rw [if_neg hid]
    exact (h.ts i hi).chg c (by omega)
end
theorem left_nil {F : FS} (h : F.left = 0) : (∀ i, i < F.s → F.q i = []) ∧ ∀ j, j < F.o → F.b j = [] := by
  unfold FS.left at h
  constructor
  · intro i hi
    have h1 : (F.q i).length ≤ sumTo (fun i => (F.q i).length) F.s := sumTo_pos (f := fun i => (F.q i).length) hi
    exact List.eq_nil_of_length_eq_zero (by omega)
  · intro j hj
    have h1 : (F.b j).length ≤ sumTo (fun j => (F.b j).length) F.o := sumTo_pos (f := fun j => (F.b j).length) hj
    exact List.eq_nil_of_length_eq_zero (by omega)
theorem left_pos {F : FS} {P : Nat → List It} {T : Nat → List Ms} (h : OInv F P T) (hz : FTo F) (h0 : F.left ≠ 0) : 0 < pot F := by
  rcases Nat.eq_zero_or_pos (pot F) with e | e
  · obtain ⟨h1, h2⟩ := left_pot h hz e
    refine absurd ?_ h0
    unfold FS.left
    rw [sumTo_zero (fun k hk => by rw [h1 k hk]; rfl), sumTo_zero (fun k hk => by rw [h2 k hk]; rfl)]
  · exact e
theorem nil_row (w : World) (n : Nat) (t : TypeId) : (w.alloc (.cells (madeCells (Value.slice none 0 0).cells (n * 1)) t)).rowIs w.heap.size t n (fun _ => .slice none 0 0) :=
  row_made w (Value.slice none 0 0).cells (n * 1) n (Nat.mul_one n) t (fun _ => .slice none 0 0) (fun i hi => by
    rw [show (Value.slice none 0 0).cells.size = 1 from rfl, Nat.mod_one]
    rfl)
theorem OW.new {w w2 : World} {σ2 : Nat → Nat} {g s o m len : Nat} (h : FlowAt w2 σ2 1000 g (FS.new s o m)) (hi : FInv (FS.new s o m)) (c : Chg (Of 1000) (fun _ => 0) w σ2 w2) :
    OW w g w2.heap.size (w2.heap.size + 1) o s len ((w2.alloc (.cells (madeCells (Value.slice none 0 0).cells (s * 1)) 45)).alloc (.cells (madeCells (Value.slice none 0 0).cells (o * 1)) 50)) (K.upd (K.upd σ2 w2.heap.size 48) (w2.heap.size + 1) 49) (FS.new s o m) (fun _ => []) (fun _ => []) (fun _ => .slice none 0 0) (fun _ => .slice none 0 0) := by
  have hb : Below w2.heap.size w2 ((w2.alloc (.cells (madeCells (Value.slice none 0 0).cells (s * 1)) 45)).alloc (.cells (madeCells (Value.slice none 0 0).cells (o * 1)) 50)) := ((Below.refl _ _).alloc (Nat.le_refl _) _).alloc (by simp) _
  have r2 := nil_row (w2.alloc (.cells (madeCells (Value.slice none 0 0).cells (s * 1)) 45)) o 50
  simp only [World.size_alloc] at r2
  refine ⟨((h.upd (Nat.le_refl _) 48).upd (by omega) 49).below hb, hi, rfl, rfl, (((c.mono (fun _ h => .inl h)).upd c.size 48).upd (Nat.le_succ_of_le c.size) 49).below hb, (nil_row w2 s 45).alloc _, ?_, r2, ?_, fun i _ => SRow.nil _ _ _ _ _, fun j _ => SRow.nil _ _ _ _ _⟩
  · simp [K.upd]
  · simp [K.upd]
end Go.Proofs.Ytapninpdjccglaa.C
