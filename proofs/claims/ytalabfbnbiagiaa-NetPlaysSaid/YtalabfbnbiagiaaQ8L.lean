/-
  The document's net: a connection stored whole (seven cells), and how much was moved.
-/
import Derived.Test.YtalabfbnbiagiaaQ7
set_option linter.unusedVariables false
set_option linter.unusedSimpArgs false
namespace Go.Proofs.Ytalabfbnbiagiaa.C
open Go.RowKit Go.Proofs.Ytalabfbnbiagiaa.K

/-- A connection told anew, and how much was moved. -/
theorem RefIn.put_mv {w w' : World} {σ σ' : Nat → Nat} {t g : Nat} {N : NS} {gl : Nat} {vv vv' : Nat → Nat → Value} (h : RefIn w σ t g N gl vv) {d : Nat} (hd : 1 ≤ d ∧ d ≤ 64) (D : Cn)
    (hrow : w'.rowIs gl 104 455 (lC (N.put d D) vv')) (hv : ∀ c, c ≠ d → vv' c = vv c) (c : Chg (fun x => x = t ∨ x = t + 2) σ w σ' w') (m' : Int) (hm' : N.mv ≤ m') (hblk : MBlk w' σ' t g 88 #[.int .i64 N.i, .int .i64 N.o, .slice (some ⟨gl, 0, none⟩) 65 65, .int .i64 m'])
    (r0 : Row w' σ' (t + 1) 5 1 (vv' d 0) D.way.length (bs D.way)) (r1 : Row w' σ' (t + 1) 5 1 (vv' d 1) D.inb.length (bs D.inb)) (r2 : Row w' σ' (t + 1) 5 1 (vv' d 2) D.out.length (bs D.out)) (r3 : Row w' σ' (t + 1) 5 1 (vv' d 3) D.heard.length (bs D.heard))
    (g0 : D.way.length ≤ 1048576) (g1 : (D.inb.length : Int) ≤ N.i) (g2 : (D.out.length : Int) ≤ N.o) (g3 : (D.heard.length : Int) ≤ m') : RefIn w' σ' t g { N.put d D with mv := m' } gl vv' := by
  have hg := h.good
  have key : ∀ c' C', (N.put d D).cs c' = some C' → (c' = d ∧ C' = D) ∨ (c' ≠ d ∧ N.cs c' = some C') := fun c' C' hc => by
    by_cases e : c' = d
    · subst e
      rw [NS.put_same] at hc
      exact .inl ⟨rfl, (Option.some.inj hc).symm⟩
    · rw [NS.put_other _ _ _ _ e] at hc
      exact .inr ⟨e, hc⟩
  refine ⟨⟨hg.i1, hg.i2, hg.o1, hg.o2, by have := hg.m0; show 0 ≤ m'; omega, fun c' C' hc => ?_, fun c' C' hc => ?_, fun c' C' hc => ?_, fun c' C' hc => ?_, fun c' C' hc => ?_⟩, hblk, hrow, (c.marks _ h.row.lt).trans h.tl, fun c' C' hc => ?_, fun c' C' hc => ?_, fun c' C' hc => ?_, fun c' C' hc => ?_, fun c' hc j => ?_⟩
  · rcases key c' C' hc with ⟨rfl, rfl⟩ | ⟨_, h2⟩
    · exact hd
    · exact hg.is c' C' h2
  · rcases key c' C' hc with ⟨rfl, rfl⟩ | ⟨_, h2⟩
    · exact g0
    · exact hg.way c' C' h2
  · rcases key c' C' hc with ⟨rfl, rfl⟩ | ⟨_, h2⟩
    · exact g1
    · exact hg.inb c' C' h2
  · rcases key c' C' hc with ⟨rfl, rfl⟩ | ⟨_, h2⟩
    · exact g2
    · exact hg.out c' C' h2
  · rcases key c' C' hc with ⟨rfl, rfl⟩ | ⟨_, h2⟩
    · exact g3
    · exact Int.le_trans (hg.heard c' C' h2) hm'
  · rcases key c' C' hc with ⟨rfl, rfl⟩ | ⟨h1, h2⟩
    · exact r0
    · rw [hv c' h1]; exact (h.way c' C' h2).chg c (by omega)
  · rcases key c' C' hc with ⟨rfl, rfl⟩ | ⟨h1, h2⟩
    · exact r1
    · rw [hv c' h1]; exact (h.inb c' C' h2).chg c (by omega)
  · rcases key c' C' hc with ⟨rfl, rfl⟩ | ⟨h1, h2⟩
    · exact r2
    · rw [hv c' h1]; exact (h.out c' C' h2).chg c (by omega)
  · rcases key c' C' hc with ⟨rfl, rfl⟩ | ⟨h1, h2⟩
    · exact r3
    · rw [hv c' h1]; exact (h.heard c' C' h2).chg c (by omega)
  · by_cases e : c' = d
    · subst e
      rw [NS.put_same] at hc
      cases hc
    · rw [NS.put_other _ _ _ _ e] at hc
      rw [hv c' e]
      exact h.nils c' hc j
theorem setCells7 (W : World) (G o : Nat) (a b c d e f g : Value) : W.setCells G o [a, b, c, d, e, f, g] = ((((((W.setCell ⟨G, o, none⟩ a).setCell ⟨G, o + 1, none⟩ b).setCell ⟨G, o + 2, none⟩ c).setCell ⟨G, o + 3, none⟩ d).setCell ⟨G, o + 4, none⟩ e).setCell ⟨G, o + 5, none⟩ f).setCell ⟨G, o + 6, none⟩ g := by
  simp only [World.setCells, Nat.add_assoc, Nat.reduceAdd]
theorem far_c {G g : Nat} (h : ¬ g = G) (W : World) (o k : Nat) (vs : List Value) : (W.setCells G o vs).drew.cell? ⟨g, k, none⟩ = W.cell? ⟨g, k, none⟩ := by
  rw [World.cell?_drew]
  exact World.cell?_setCells_out _ _ _ _ _ (fun e => absurd e h)
theorem far_f (W : World) (G o : Nat) (vs : List Value) (a : Addr) : (W.setCells G o vs).drew.frozen? a = W.frozen? a := by
  show (W.setCells G o vs).frozen? a = _
  exact World.frozen?_setCells _ _ _ _ _
theorem own_set {w : World} {B e sz n : Nat} {v : Value} {xs : List Value} (h : w.ownsRow B e sz v n xs) {p : Addr} (hp : ∀ b, v.ownBlock = some b → b ≠ p.block) (u : Value) : (w.setCell p u).ownsRow B e sz v n xs :=
  h.kept (row := some p.block) ⟨rfl, rfl, rfl, by simp [World.setCell], fun q hq hne => Below.heap_setCell _ _ _ _ (fun e => hne (by rw [e]))⟩ (by
    rcases hb : v.ownBlock with _ | b
    · exact .inl rfl
    · right
      intro he
      first | exact hp b hb (Option.some.inj he).symm | exact hp b hb (Option.some.inj he))


theorem RefIn.laid7 {w w7 : World} {σ : Nat → Nat} {t g : Nat} {N : NS} {gl : Nat} {vv : Nat → Nat → Value} (h : RefIn w σ t g N gl vv) {d : Nat} (hd : 1 ≤ d ∧ d ≤ 64) (D : Cn) (b1 b2 : Bool) (hb1 : D.closed = b1) (hb2 : D.cut = b2) (X : Nat → Value)
    (hbw : Below w.heap.size w w7) (gx : Nat) (hgx : w.heap.size ≤ gx) (m' : Int) (hm : N.mv ≤ m')
    (r0 : Row w7 (K.upd σ gx (t + 1)) (t + 1) 5 1 (X 0) D.way.length (bs D.way)) (r1 : Row w7 (K.upd σ gx (t + 1)) (t + 1) 5 1 (X 1) D.inb.length (bs D.inb)) (r2 : Row w7 (K.upd σ gx (t + 1)) (t + 1) 5 1 (X 2) D.out.length (bs D.out)) (r3 : Row w7 (K.upd σ gx (t + 1)) (t + 1) 5 1 (X 3) D.heard.length (bs D.heard))
    (g0 : D.way.length ≤ 1048576) (g1 : (D.inb.length : Int) ≤ N.i) (g2 : (D.out.length : Int) ≤ N.o) (g3 : (D.heard.length : Int) ≤ m') :
    RefAt ((w7.setCells gl (d * 7) [.bool true, .bool b1, .bool b2, X 0, X 1, X 2, X 3]).drew.setCell ⟨g, 3, none⟩ (.int .i64 m')) (K.upd σ gx (t + 1)) t g { N.put d D with mv := m' } ∧
      Chg (Od t) σ w (K.upd σ gx (t + 1)) ((w7.setCells gl (d * 7) [.bool true, .bool b1, .bool b2, X 0, X 1, X 2, X 3]).drew.setCell ⟨g, 3, none⟩ (.int .i64 m')) := by
  have h1 := (h.upd hgx (t + 1)).below hbw
  have hgg := h1.blk.1
  have hgl2 : ¬ gl = g := by intro e; have h1' := h.blk.2; have h2' := h.tl; rw [e] at h2'; omega
  have cw : Chg (fun x => x = t ∨ x = t + 2) (K.upd σ gx (t + 1)) w7 (K.upd σ gx (t + 1)) ((w7.setCells gl (d * 7) [.bool true, .bool b1, .bool b2, X 0, X 1, X 2, X 3]).drew.setCell ⟨g, 3, none⟩ (.int .i64 m')) := by
    rw [setCells7]
    refine Chg.setCell (p := ⟨g, 3, none⟩) (Chg.drewN ?_ 1) (.inl (.inl h1.blk.2)) _
    exact (((((((Chg.refl _ _ w7).setCell (p := ⟨gl, d * 7, none⟩) (.inl (.inr h1.tl)) _).setCell (p := ⟨gl, d * 7 + 1, none⟩) (.inl (.inr h1.tl)) _).setCell (p := ⟨gl, d * 7 + 2, none⟩) (.inl (.inr h1.tl)) _).setCell (p := ⟨gl, d * 7 + 3, none⟩) (.inl (.inr h1.tl)) _).setCell (p := ⟨gl, d * 7 + 4, none⟩) (.inl (.inr h1.tl)) _).setCell (p := ⟨gl, d * 7 + 5, none⟩) (.inl (.inr h1.tl)) _).setCell (p := ⟨gl, d * 7 + 6, none⟩) (.inl (.inr h1.tl)) _
  have hrow : ((w7.setCells gl (d * 7) [.bool true, .bool b1, .bool b2, X 0, X 1, X 2, X 3]).drew.setCell ⟨g, 3, none⟩ (.int .i64 m')).rowIs gl 104 455 (lC (N.put d D) (fun c j => if c = d then X j else vv c j)) := by
    rw [setCells7]
    have q := ((((((((h1.row.set (d * 7) (.bool true)).set (d * 7 + 1) (.bool b1)).set (d * 7 + 2) (.bool b2)).set (d * 7 + 3) (X 0)).set (d * 7 + 4) (X 1)).set (d * 7 + 5) (X 2)).set (d * 7 + 6) (X 3)).drew)
    refine World.rowIs.congr (rowc q (S := fun x => x = t) (σ := K.upd σ gx (t + 1)) (σ' := K.upd σ gx (t + 1)) (Chg.setCell (p := ⟨g, 3, none⟩) (Chg.refl _ _ _) (.inl h1.blk.2) _) (by rw [h1.tl]; omega)) (fun i _ => ?_)
    rw [lC_put N vv _ d _ (fun c' hc' => by funext j'; rw [if_neg hc'])]
    by_cases e : i / 7 = d
    · rw [if_pos e, hb1, hb2]
      have hi : i = d * 7 + i % 7 := by omega
      have h7 : i % 7 < 7 := Nat.mod_lt _ (by omega)
      generalize i % 7 = r at hi h7 ⊢
      subst hi
      rcases (show r = 0 ∨ r = 1 ∨ r = 2 ∨ r = 3 ∨ r = 4 ∨ r = 5 ∨ r = 6 by omega) with rfl | rfl | rfl | rfl | rfl | rfl | rfl
      all_goals simp
    · rw [if_neg e, if_neg (by omega), if_neg (by omega), if_neg (by omega), if_neg (by omega), if_neg (by omega), if_neg (by omega), if_neg (by omega)]
  refine ⟨⟨gl, fun c j => if c = d then X j else vv c j, h1.put_mv hd D hrow (fun c' hc' => by funext j'; rw [if_neg hc']) cw m' hm ?_ ?_ ?_ ?_ ?_ g0 g1 g2 g3⟩, (((Chg.of_below _ _ hbw).upd hgx (t + 1)).trans (cw.mono (fun x hx => by unfold Od; omega)))⟩
  · refine ⟨?_, h1.blk.2⟩
    have q1 : Blk (w7.setCells gl (d * 7) [.bool true, .bool b1, .bool b2, X 0, X 1, X 2, X 3]).drew g 88 #[.int .i64 N.i, .int .i64 N.o, .slice (some ⟨gl, 0, none⟩) 65 65, .int .i64 N.mv] := by
      have c1 : Chg (fun x => x = t + 2) (K.upd σ gx (t + 1)) w7 (K.upd σ gx (t + 1)) (w7.setCells gl (d * 7) [.bool true, .bool b1, .bool b2, X 0, X 1, X 2, X 3]).drew := by
        rw [setCells7]
        refine Chg.drewN ?_ 1
        exact (((((((Chg.refl _ _ w7).setCell (p := ⟨gl, d * 7, none⟩) (.inl h1.tl) _).setCell (p := ⟨gl, d * 7 + 1, none⟩) (.inl h1.tl) _).setCell (p := ⟨gl, d * 7 + 2, none⟩) (.inl h1.tl) _).setCell (p := ⟨gl, d * 7 + 3, none⟩) (.inl h1.tl) _).setCell (p := ⟨gl, d * 7 + 4, none⟩) (.inl h1.tl) _).setCell (p := ⟨gl, d * 7 + 5, none⟩) (.inl h1.tl) _).setCell (p := ⟨gl, d * 7 + 6, none⟩) (.inl h1.tl) _
      exact (c1.block g hgg.lt (by rw [h1.blk.2]; omega)).trans hgg
    exact q1.set_ 3 _
  all_goals simp only [if_true]
  · exact r0.chg cw (by omega)
  · exact r1.chg cw (by omega)
  · exact r2.chg cw (by omega)
  · exact r3.chg cw (by omega)
end Go.Proofs.Ytalabfbnbiagiaa.C
