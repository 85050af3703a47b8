/-
  For the law NetAnswers: what was heard, written over; a region's end told once.
-/
import Derived.Test.YtalabfbnbiagiaaAns
set_option linter.unusedVariables false
set_option linter.unusedSimpArgs false
namespace Go.Proofs.Ytalabfbnbiagiaa.C
open Go.RowKit Go.Proofs.Ytalabfbnbiagiaa.K

/-- The last statement of its sequence, told as if another came behind (so that go_cut takes it). -/
theorem wp_last {P : Program} {c : Code} {Q : Exit → Act → World → Prop} {a : Act} {w : World} (h : ∀ K : Act → World → Prop, (∀ a w, Q .normal a w → K a w) → c.wp P (Exit.then K Q) a w) : c.wp P Q a w :=
  wp_mono (h (Q .normal) (fun _ _ h => h)) (fun e a w hq => by cases e <;> exact hq)

/-- What stays beside the net behind 'apart': the run's beginning; the block of what was heard, its rows. -/
structure AF (w0 : World) (σ : Nat → Nat) (w : World) (gh : Nat) (h : Nat → List Int) (v : Nat → Value) : Prop where
  st : St w0 σ w
  hb : MBlk w σ 7 gh 29 #[.slice none 0 0, v 1, v 2]
  r : ∀ d, d = 1 ∨ d = 2 → Row w σ (4 + d) 5 1 (v d) (h d).length (bs (h d))
section
variable {w0 w w' : World} {σ σ' : Nat → Nat} {gh : Nat} {h : Nat → List Int} {v : Nat → Value} {S : Nat → Prop}
theorem AF.net (a : AF w0 σ w gh h v) (c : Chg (Of 1000) σ w σ' w') : AF w0 σ' w' gh h v :=
  ⟨a.st.chg c of1000_0, a.hb.chg c (by unfold Of; omega), fun d hd => (a.r d hd).chg c (by unfold Of; omega)⟩
theorem AF.below (a : AF w0 σ w gh h v) (hb : Below w.heap.size w w') : AF w0 σ w' gh h v := ⟨a.st.below hb, a.hb.chg (Chg.of_below (fun _ => False) σ hb) (fun h => h), fun d hd => (a.r d hd).below hb⟩
theorem AI.apart {ku wu : Value} {ks ws : List TRow} (a : AI w0 σ w gh h ku wu v ks ws [] []) {g : Nat} {N : NS} (hN : NetAt w σ 1000 g N) (k : Keeps ks w w') : AF w0 σ w' gh h v ∧ NetAt w' σ 1000 g N := by
  have hc : Chg (fun x => x = 0) σ w σ w' := ⟨k.os, k.tape, k.output, k.size, fun _ _ => rfl, fun b hb hn => k.block b hb (fun p hp e => hn (a.tk p (by simpa using hp) b e))⟩
  refine ⟨⟨⟨a.st.bel.trans ⟨k.os, k.tape, k.output, k.size, fun b hb => k.block b (Nat.lt_of_lt_of_le hb a.st.size) (fun p hp e => ?_)⟩, a.st.zero⟩, a.hb.chg hc (by omega), fun d hd => (a.r d hd).chg hc (by omega)⟩, hN.chg hc (by intro x hx e; unfold Of at hx; omega)⟩
  have h1 := ((a.T.own p (by simp [hp])).lt b e).1
  omega
end

section
variable {w0 w w' w2 : World} {σ σ' : Nat → Nat} {gh : Nat} {h : Nat → List Int} {ku wu : Value} {v : Nat → Value} {ks ws pk pw : List TRow} {S : Nat → Prop}
def put_ (v : Nat → Value) (d : Nat) (u : Value) : Nat → Value := fun e => if e = d then u else v e
theorem AI.heard (a : AI w0 σ w gh h ku wu v ks ws [] []) {d n : Nat} (hd : d = 1 ∨ d = 2) (L : List Int) (hb : Below w.heap.size w w2) (u : Value) (hn : (h d ++ L).length = n) (ho : w2.ownsRow w.heap.size 5 1 u n (bs (h d ++ L))) :
    AI w0 (K.upd σ w.heap.size (4 + d)) (w2.setCell ⟨gh, d, none⟩ u) gh (more h d L) ku wu (put_ v d u) ks ws [] [] ∧ Chg (fun x => x = 7) σ w (K.upd σ w.heap.size (4 + d)) (w2.setCell ⟨gh, d, none⟩ u) := by
  have a1 := (a.upd (4 + d)).below hb
  have hc1 : Chg (fun x => x = 7) σ w (K.upd σ w.heap.size (4 + d)) w2 := ((Chg.refl _ σ w).upd (Nat.le_refl _) (4 + d)).below hb
  have hgh : K.upd σ w.heap.size (4 + d) gh = 7 := a1.hb.2
  have hc : Chg (fun x => x = 7) σ w (K.upd σ w.heap.size (4 + d)) (w2.setCell ⟨gh, d, none⟩ u) := hc1.setCell (p := ⟨gh, d, none⟩) (.inl hgh) u
  have hcs : Chg (fun x => x = 7) (K.upd σ w.heap.size (4 + d)) w2 (K.upd σ w.heap.size (4 + d)) (w2.setCell ⟨gh, d, none⟩ u) := (Chg.refl _ _ w2).setCell (p := ⟨gh, d, none⟩) (.inl hgh) u
  have hu : Row w2 (K.upd σ w.heap.size (4 + d)) (4 + d) 5 1 u n (bs (h d ++ L)) := Row.fresh ho (4 + d)
  refine ⟨⟨a1.st.chg hcs (by omega), a1.ku.chg hcs (by omega), a1.wu.chg hcs (by omega), ?_, fun e he => ?_, ⟨fun p hp => own_chg (a1.T.own p hp) hcs (fun b hb => ?_), a1.T.apart⟩, a1.tk, a1.tw⟩, hc⟩
  · have h1 := a1.hb.set_ d u
    rcases hd with rfl | rfl
    · exact h1
    · exact h1
  · by_cases hed : e = d
    · subst hed
      have := hu.chg hcs (by omega)
      unfold more put_
      rw [if_pos rfl, if_pos rfl, hn]
      exact this
    · unfold more put_
      rw [if_neg hed, if_neg hed]
      exact (a1.r e he).chg hcs (by omega)
  · rcases List.mem_append.1 hp with hp | hp
    · rw [a1.tk p hp b hb]; omega
    · rw [a1.tw p hp b hb]; omega

/-- Two copies more, laid behind want. -/
theorem AI.two (a : AI w0 σ w gh h ku wu v ks ws [] []) {g : Nat} {N : NS} (hN : NetAt w σ 1000 g N) {w1 w4 : World} {A1 A2 : Option Addr} {n c1 c2 : Nat} {L : List Int} (ho1 : w1.ownsRow w.heap.size 5 1 (.slice A1 n c1) n (bs L)) (hb1 : Below w.heap.size w w1)
    (ho2 : w2.ownsRow w1.heap.size 5 1 (.slice A2 n c2) n (bs L)) (hb2 : Below w1.heap.size w1 w2) (o : Obj) {wu' : Value} (ho : w4.ownsRow 0 29 1 wu' (ws.length + 2) (ws.map TRow.v ++ [.slice A1 n c1, .slice A2 n c2]))
    (hg : (w2.alloc o).grownBy w4 wu.ownBlock) (hat : wu'.ownBlock = wu.ownBlock ∨ wu'.ownBlock = some (w2.alloc o).heap.size) :
    ∃ σ', NetAt w4 σ' 1000 g N ∧ AI w0 σ' w4 gh h ku wu' v ks (ws ++ [⟨.slice A1 n c1, n, bs L⟩, ⟨.slice A2 n c2, n, bs L⟩]) [] [] := by
  have A1' := ((a.upd 4).below hb1).neww w.heap.size a.lt ⟨.slice A1 n c1, n, bs L⟩ a.st.size (Row.fresh ho1 4) (fun b hb => (ho1.lt b hb).1)
  have N1 := (hN.upd (Nat.le_refl _) 4).below hb1
  have A2' := ((A1'.upd 4).below hb2).neww w1.heap.size A1'.lt ⟨.slice A2 n c2, n, bs L⟩ A1'.st.size (Row.fresh ho2 4) (fun b hb => (ho2.lt b hb).1)
  have N2 := (N1.upd (Nat.le_refl _) 4).below hb2
  have hba : Below w2.heap.size w2 (w2.alloc o) := (Below.refl _ _).alloc (Nat.le_refl _) _
  obtain ⟨hA, hc⟩ := (A2'.below hba).pushw (wu' := wu') ho hg hat
  exact ⟨_, (N2.below hba).chg hc (by intro x hx e; unfold Of at hx; omega), hA⟩
end

end Go.Proofs.Ytalabfbnbiagiaa.C
