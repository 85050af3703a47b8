/-
  A connection's rows written over; the net's state behind that.
-/
import Derived.Test.YtalabfbnbiagiaaC2
set_option linter.unusedVariables false
set_option linter.unusedSimpArgs false
namespace Go.Proofs.Ytalabfbnbiagiaa.C
open Go.RowKit Go.Proofs.Ytalabfbnbiagiaa.K

/-- The marks of one connection. -/
def Of5 (t : Nat) : Nat → Prop := fun x => t ≤ x ∧ x < t + 5
/-- New blocks: v' 's bears the mark x, all others 0. -/
def mark1 (σ : Nat → Nat) (n : Nat) (v' : Value) (x : Nat) : Nat → Nat := fun b => if b < n then σ b else if v'.ownBlock = some b then x else 0
theorem mark1_old {σ : Nat → Nat} {n x b : Nat} {v' : Value} (h : b < n) : mark1 σ n v' x b = σ b := by simp [mark1, h]
theorem mark1_chg (S : Nat → Prop) (σ : Nat → Nat) (w : World) (v' : Value) (x : Nat) : Chg S σ w (mark1 σ w.heap.size v' x) w := ⟨rfl, rfl, rfl, Nat.le_refl _, fun b hb => mark1_old hb, fun _ _ _ => rfl⟩

section
variable {w w1 : World} {σ : Nat → Nat} {t k : Nat} {i o : Int} {C : Cn} {v0 v1 v2 v3 v' : Value} {R : List Int}

theorem CnAt.way_ (h : CnAt w σ t k i o C v0 v1 v2 v3) (hg : w.grownBy w1 v0.ownBlock) (hn : w1.ownsRow 0 5 1 v' R.length (bs R)) (hat : v'.ownBlock = v0.ownBlock ∨ ∀ b, v'.ownBlock = some b → w.heap.size ≤ b) :
    CnAt (w1.setCell ⟨k, 0, none⟩ v') (mark1 σ w.heap.size v' (t + 0)) t k i o { C with way := R } v' v1 v2 v3 ∧ Chg (Of5 t) σ w (mark1 σ w.heap.size v' (t + 0)) (w1.setCell ⟨k, 0, none⟩ v') := by
  have h1 := h.chg (mark1_chg (fun _ => False) σ w v' (t + 0)) (fun _ _ h => h)
  have hrow : ∀ q, v0.ownBlock = some q → mark1 σ w.heap.size v' (t + 0) q = t + 0 := fun q hq => h1.way.2 q hq
  have hk4 : mark1 σ w.heap.size v' (t + 0) k = t + 4 := h1.blk.2
  have r0 : Row w1 (mark1 σ w.heap.size v' (t + 0)) (t + 0) 5 1 v' R.length (bs R) := by
    refine ⟨hn, fun b hb => ?_⟩
    rcases hat with he | he
    · exact hrow b (by rw [← he]; exact hb)
    · have := he b hb
      unfold mark1
      rw [if_neg (by omega), if_pos hb]
  refine ⟨⟨?_, ((r0.set_ (p := ⟨k, 0, none⟩) (by rw [hk4]; omega) v')), (((h1.inb.kept hg (fun q hq => by rw [hrow q hq]; omega)).set_ (p := ⟨k, 0, none⟩) (by rw [hk4]; omega) v')), (((h1.out.kept hg (fun q hq => by rw [hrow q hq]; omega)).set_ (p := ⟨k, 0, none⟩) (by rw [hk4]; omega) v')), (((h1.heard.kept hg (fun q hq => by rw [hrow q hq]; omega)).set_ (p := ⟨k, 0, none⟩) (by rw [hk4]; omega) v'))⟩, ?_⟩
  · have := (h1.blk.kept hg (fun q hq => by rw [hrow q hq]; omega)).set_ 0 v'
    exact this
  · exact ((mark1_chg (Of5 t) σ w v' (t + 0)).grown hg (fun q hq => .inl (by rw [hrow q hq]; unfold Of5; omega))).setCell (.inl (by show Of5 t (mark1 σ w.heap.size v' (t + 0) k); rw [hk4]; unfold Of5; omega)) _

theorem CnAt.inb_ (h : CnAt w σ t k i o C v0 v1 v2 v3) (hg : w.grownBy w1 v1.ownBlock) (hn : w1.ownsRow 0 5 1 v' R.length (bs R)) (hat : v'.ownBlock = v1.ownBlock ∨ ∀ b, v'.ownBlock = some b → w.heap.size ≤ b) :
    CnAt (w1.setCell ⟨k, 2, none⟩ v') (mark1 σ w.heap.size v' (t + 1)) t k i o { C with inb := R } v0 v' v2 v3 ∧ Chg (Of5 t) σ w (mark1 σ w.heap.size v' (t + 1)) (w1.setCell ⟨k, 2, none⟩ v') := by
  have h1 := h.chg (mark1_chg (fun _ => False) σ w v' (t + 1)) (fun _ _ h => h)
  have hrow : ∀ q, v1.ownBlock = some q → mark1 σ w.heap.size v' (t + 1) q = t + 1 := fun q hq => h1.inb.2 q hq
  have hk4 : mark1 σ w.heap.size v' (t + 1) k = t + 4 := h1.blk.2
  have r0 : Row w1 (mark1 σ w.heap.size v' (t + 1)) (t + 1) 5 1 v' R.length (bs R) := by
    refine ⟨hn, fun b hb => ?_⟩
    rcases hat with he | he
    · exact hrow b (by rw [← he]; exact hb)
    · have := he b hb
      unfold mark1
      rw [if_neg (by omega), if_pos hb]
  refine ⟨⟨?_, (((h1.way.kept hg (fun q hq => by rw [hrow q hq]; omega)).set_ (p := ⟨k, 2, none⟩) (by rw [hk4]; omega) v')), ((r0.set_ (p := ⟨k, 2, none⟩) (by rw [hk4]; omega) v')), (((h1.out.kept hg (fun q hq => by rw [hrow q hq]; omega)).set_ (p := ⟨k, 2, none⟩) (by rw [hk4]; omega) v')), (((h1.heard.kept hg (fun q hq => by rw [hrow q hq]; omega)).set_ (p := ⟨k, 2, none⟩) (by rw [hk4]; omega) v'))⟩, ?_⟩
  · have := (h1.blk.kept hg (fun q hq => by rw [hrow q hq]; omega)).set_ 2 v'
    exact this
  · exact ((mark1_chg (Of5 t) σ w v' (t + 1)).grown hg (fun q hq => .inl (by rw [hrow q hq]; unfold Of5; omega))).setCell (.inl (by show Of5 t (mark1 σ w.heap.size v' (t + 1) k); rw [hk4]; unfold Of5; omega)) _

theorem CnAt.out_ (h : CnAt w σ t k i o C v0 v1 v2 v3) (hg : w.grownBy w1 v2.ownBlock) (hn : w1.ownsRow 0 5 1 v' R.length (bs R)) (hat : v'.ownBlock = v2.ownBlock ∨ ∀ b, v'.ownBlock = some b → w.heap.size ≤ b) :
    CnAt (w1.setCell ⟨k, 4, none⟩ v') (mark1 σ w.heap.size v' (t + 2)) t k i o { C with out := R } v0 v1 v' v3 ∧ Chg (Of5 t) σ w (mark1 σ w.heap.size v' (t + 2)) (w1.setCell ⟨k, 4, none⟩ v') := by
  have h1 := h.chg (mark1_chg (fun _ => False) σ w v' (t + 2)) (fun _ _ h => h)
  have hrow : ∀ q, v2.ownBlock = some q → mark1 σ w.heap.size v' (t + 2) q = t + 2 := fun q hq => h1.out.2 q hq
  have hk4 : mark1 σ w.heap.size v' (t + 2) k = t + 4 := h1.blk.2
  have r0 : Row w1 (mark1 σ w.heap.size v' (t + 2)) (t + 2) 5 1 v' R.length (bs R) := by
    refine ⟨hn, fun b hb => ?_⟩
    rcases hat with he | he
    · exact hrow b (by rw [← he]; exact hb)
    · have := he b hb
      unfold mark1
      rw [if_neg (by omega), if_pos hb]
  refine ⟨⟨?_, (((h1.way.kept hg (fun q hq => by rw [hrow q hq]; omega)).set_ (p := ⟨k, 4, none⟩) (by rw [hk4]; omega) v')), (((h1.inb.kept hg (fun q hq => by rw [hrow q hq]; omega)).set_ (p := ⟨k, 4, none⟩) (by rw [hk4]; omega) v')), ((r0.set_ (p := ⟨k, 4, none⟩) (by rw [hk4]; omega) v')), (((h1.heard.kept hg (fun q hq => by rw [hrow q hq]; omega)).set_ (p := ⟨k, 4, none⟩) (by rw [hk4]; omega) v'))⟩, ?_⟩
  · have := (h1.blk.kept hg (fun q hq => by rw [hrow q hq]; omega)).set_ 4 v'
    exact this
  · exact ((mark1_chg (Of5 t) σ w v' (t + 2)).grown hg (fun q hq => .inl (by rw [hrow q hq]; unfold Of5; omega))).setCell (.inl (by show Of5 t (mark1 σ w.heap.size v' (t + 2) k); rw [hk4]; unfold Of5; omega)) _

theorem CnAt.heard_ (h : CnAt w σ t k i o C v0 v1 v2 v3) (hg : w.grownBy w1 v3.ownBlock) (hn : w1.ownsRow 0 5 1 v' R.length (bs R)) (hat : v'.ownBlock = v3.ownBlock ∨ ∀ b, v'.ownBlock = some b → w.heap.size ≤ b) :
    CnAt (w1.setCell ⟨k, 6, none⟩ v') (mark1 σ w.heap.size v' (t + 3)) t k i o { C with heard := R } v0 v1 v2 v' ∧ Chg (Of5 t) σ w (mark1 σ w.heap.size v' (t + 3)) (w1.setCell ⟨k, 6, none⟩ v') := by
  have h1 := h.chg (mark1_chg (fun _ => False) σ w v' (t + 3)) (fun _ _ h => h)
  have hrow : ∀ q, v3.ownBlock = some q → mark1 σ w.heap.size v' (t + 3) q = t + 3 := fun q hq => h1.heard.2 q hq
  have hk4 : mark1 σ w.heap.size v' (t + 3) k = t + 4 := h1.blk.2
  have r0 : Row w1 (mark1 σ w.heap.size v' (t + 3)) (t + 3) 5 1 v' R.length (bs R) := by
    refine ⟨hn, fun b hb => ?_⟩
    rcases hat with he | he
    · exact hrow b (by rw [← he]; exact hb)
    · have := he b hb
      unfold mark1
      rw [if_neg (by omega), if_pos hb]
  refine ⟨⟨?_, (((h1.way.kept hg (fun q hq => by rw [hrow q hq]; omega)).set_ (p := ⟨k, 6, none⟩) (by rw [hk4]; omega) v')), (((h1.inb.kept hg (fun q hq => by rw [hrow q hq]; omega)).set_ (p := ⟨k, 6, none⟩) (by rw [hk4]; omega) v')), (((h1.out.kept hg (fun q hq => by rw [hrow q hq]; omega)).set_ (p := ⟨k, 6, none⟩) (by rw [hk4]; omega) v')), ((r0.set_ (p := ⟨k, 6, none⟩) (by rw [hk4]; omega) v'))⟩, ?_⟩
  · have := (h1.blk.kept hg (fun q hq => by rw [hrow q hq]; omega)).set_ 6 v'
    exact this
  · exact ((mark1_chg (Of5 t) σ w v' (t + 3)).grown hg (fun q hq => .inl (by rw [hrow q hq]; unfold Of5; omega))).setCell (.inl (by show Of5 t (mark1 σ w.heap.size v' (t + 3) k); rw [hk4]; unfold Of5; omega)) _

theorem told_row {v : Value} {n : Nat} {xs : List Value} {x : Nat} {p : Addr} {u : Value} (hv : w1.ownsRow w.heap.size 5 1 v n xs) (hne : v.ownBlock = none ∨ v.ownBlock ≠ v'.ownBlock) (hp : p.block < w.heap.size) : Row (w1.setCell p u) (mark1 σ w.heap.size v' x) 0 5 1 v n xs := by
  refine ⟨(own_mono hv (Nat.zero_le _)).kept (row := some p.block) ⟨rfl, rfl, rfl, by simp [World.setCell], fun q hq hne => Below.heap_setCell _ _ _ _ (fun e => hne (by rw [e]))⟩ ?_, fun b hb => ?_⟩
  · rcases hb : v.ownBlock with _ | b
    · exact .inl rfl
    · right
      intro he
      have := (hv.lt b hb).1
      have h2 := Option.some.inj he
      omega
  · have := (hv.lt b hb).1
    unfold mark1
    rw [if_neg (by omega), if_neg]
    intro he
    rcases hne with h0 | h0
    · rw [h0] at hb; cases hb
    · exact h0 (hb.trans he.symm)
end

def NS.put (N : NS) (c : Nat) (C : Cn) : NS := { N with cs := fun d => if d = c then some C else N.cs d }
theorem NS.put_same (N : NS) (c : Nat) (C : Cn) : (N.put c C).cs c = some C := by simp [NS.put]
theorem NS.put_other (N : NS) (c d : Nat) (C : Cn) (h : d ≠ c) : (N.put c C).cs d = N.cs d := by simp [NS.put, h]

section
variable {w w' : World} {σ σ' : Nat → Nat} {t g c : Nat} {N : NS} {ks : Nat → Nat} {C C' : Cn} {v0 v1 v2 v3 : Value}
theorem put_cells (hC : N.cs c = some C) : netCells (N.put c C') ks = netCells N ks := by
  unfold netCells
  have : (fun d => ptr ks (N.put c C').cs d) = fun d => ptr ks N.cs d := by
    funext d
    unfold ptr
    by_cases hd : d = c
    · subst hd; rw [NS.put_same, hC]; rfl
    · rw [NS.put_other _ _ _ _ hd]
  rw [show ptr ks (N.put c C').cs = ptr ks N.cs from this]
  rfl
theorem NetIn.put (h : NetIn w σ t g N ks) (hC : N.cs c = some C) (hch : Chg (Of5 (t + 5 * c)) σ w σ' w') (hc : CnAt w' σ' (t + 5 * c) (ks c) N.i N.o C' v0 v1 v2 v3)
    (g1 : C'.way.length ≤ 1048576) (g2 : (C'.inb.length : Int) ≤ N.i) (g3 : (C'.out.length : Int) ≤ N.o) (g4 : (C'.heard.length : Int) ≤ N.mv) : NetIn w' σ' t g (N.put c C') ks := by
  have hc1 := h.good.is c C hC
  refine ⟨⟨h.good.i1, h.good.i2, h.good.o1, h.good.o2, h.good.m0, ?_, ?_, ?_, ?_, ?_⟩, ?_, ?_⟩
  case refine_6 =>
    have := h.blk.chg hch (by unfold Of5; omega)
    rw [put_cells hC]
    exact this
  case refine_7 =>
    intro d D hd
    by_cases hdc : d = c
    · subst hdc
      rw [NS.put_same] at hd
      obtain rfl := Option.some.inj hd
      exact ⟨_, _, _, _, hc⟩
    · rw [NS.put_other _ _ _ _ hdc] at hd
      obtain ⟨u0, u1, u2, u3, hd'⟩ := h.conns d D hd
      exact ⟨u0, u1, u2, u3, hd'.chg hch fun j hj => by unfold Of5; omega⟩
  all_goals
    intro d D hd
    by_cases hdc : d = c
    · subst hdc
      rw [NS.put_same] at hd
      obtain rfl := Option.some.inj hd
      first | exact hc1 | exact g1 | exact g2 | exact g3 | exact g4
    · rw [NS.put_other _ _ _ _ hdc] at hd
      first | exact h.good.is d D hd | exact h.good.way d D hd | exact h.good.inb d D hd | exact h.good.out d D hd | exact h.good.heard d D hd

theorem NetIn.moved (h : NetIn w σ t g N ks) (m : Int) (hm : N.mv ≤ m) : NetIn (w.setCell ⟨g, 67, none⟩ (.int .i64 m)) σ t g { N with mv := m } ks := by
  refine ⟨⟨h.good.i1, h.good.i2, h.good.o1, h.good.o2, Int.le_trans h.good.m0 hm, h.good.is, h.good.way, h.good.inb, h.good.out, fun d D hd => Int.le_trans (h.good.heard d D hd) hm⟩, ?_, ?_⟩
  · have := h.blk.set_ 67 (.int .i64 m)
    have e : (netCells N ks).toArray.setIfInBounds 67 (.int .i64 m) = (netCells { N with mv := m } ks).toArray := by
      simp only [netCells, List.setIfInBounds_toArray]
      congr 1
    rw [e] at this
    exact this
  · intro d D hd
    obtain ⟨u0, u1, u2, u3, hd'⟩ := h.conns d D hd
    have := h.good.is d D hd
    have hg := h.blk.2
    have hne : ∀ j, j < 5 → σ (⟨g, 67, none⟩ : Addr).block ≠ t + 5 * d + j := fun j hj => by show σ g ≠ _; omega
    exact ⟨u0, u1, u2, u3, hd'.blk.far (hne 4 (by omega)) _, hd'.way.set_ (hne 0 (by omega)) _, hd'.inb.set_ (hne 1 (by omega)) _, hd'.out.set_ (hne 2 (by omega)) _, hd'.heard.set_ (hne 3 (by omega)) _⟩
theorem of5_of (hc : c ≤ 64) : ∀ x, Of5 (t + 5 * c) x → Of t x := by intro x; unfold Of5 Of; omega
end
end Go.Proofs.Ytalabfbnbiagiaa.C
