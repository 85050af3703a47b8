/-
  The call of the law NetOwn.
-/
import Derived.Test.YtalabfbnbiagiaaLent
import Derived.Test.YtalabfbnbiagiaaC8
import Derived.Test.YtalabfbnbiagiaaOpenB
import Derived.Test.YtalabfbnbiagiaaApart
set_option linter.unusedVariables false
set_option linter.unusedSimpArgs false
namespace Go.Proofs.Ytalabfbnbiagiaa.C
open Go.RowKit Go.Proofs.Ytalabfbnbiagiaa.K

/-- A net with one connection. -/
def E (r : Int) (d : Nat) (C : Cn) (m : Int) : NS := { (NS.new r r).put d C with mv := m }
section
variable {r m : Int} {d : Nat} {C : Cn}
theorem E_cs : (E r d C m).cs d = some C := NS.put_same _ _ _
theorem E_err (hd : 1 ≤ d ∧ d ≤ 64) (u : Bool) (hx : C.cut = false) (hy : C.closed = false) : err (E r d C m) (d : Int) u = 0 := by
  unfold err
  rw [if_neg (by omega), Int.toNat_natCast, E_cs]
  simp [hx, hy]
theorem E_put (D : Cn) (m' : Int) : ({ (E r d C m).put d D with mv := m' } : NS) = E r d D m' := by
  unfold E
  have : (({ (NS.new r r).put d C with mv := m } : NS).put d D) = { (NS.new r r).put d D with mv := m } := by
    have := put_put (NS.new r r) d C D
    unfold NS.put at this ⊢
    simpa using this
  rw [this]
theorem E_open (hd : 1 ≤ d ∧ d ≤ 64) : (NS.new r r).open_ (d : Int) = (0, E r d ⟨[], [], [], [], false, false⟩ 0) := by
  have : err (NS.new r r) (d : Int) false = 44 := by unfold err; rw [if_neg (by omega)]; rfl
  unfold NS.open_
  rw [if_pos this, Int.toNat_natCast]
  rfl
theorem E_send (hd : 1 ≤ d ∧ d ≤ 64) (hx : C.cut = false) (hy : C.closed = false) (L : List Int) (hl : C.way.length + L.length ≤ 1048576) : (E r d C m).send (d : Int) L = (0, E r d { C with way := C.way ++ L } m) := by
  unfold NS.send
  rw [if_pos (E_err hd true hx hy), Int.toNat_natCast, E_cs]
  simp only [hl, if_true]
  exact congrArg (Prod.mk (0 : Int)) (E_put _ m)
theorem E_write (hd : 1 ≤ d ∧ d ≤ 64) (hx : C.cut = false) (hy : C.closed = false) (L : List Int) (hl : (C.out.length : Int) + (L.length : Int) ≤ r) : (E r d C m).write (d : Int) L = ((L.length : Int), 0, E r d { C with out := C.out ++ L } m) := by
  have hf : fit r C.out.length L.length = L.length := by unfold fit; rw [if_neg (by omega)]; omega
  unfold NS.write
  rw [if_pos (E_err hd true hx hy), Int.toNat_natCast, E_cs]
  show (((fit r C.out.length L.length : Nat) : Int), (0 : Int), (E r d C m).put d { C with out := C.out ++ L.take (fit r C.out.length L.length) }) = _
  rw [hf, List.take_length]
  exact congrArg (fun x => (((L.length : Nat) : Int), (0 : Int), x)) (E_put _ m)
theorem E_bring (hd : 1 ≤ d ∧ d ≤ 64) (hx : C.cut = false) (hy : C.closed = false) (most : Int) (hm : (C.way.length : Int) ≤ most) (hl : (C.inb.length : Int) + (C.way.length : Int) ≤ r) : (E r d C m).bring (d : Int) most = ((C.way.length : Int), 0, E r d { C with inb := C.inb ++ C.way, way := [] } (m + (C.way.length : Int))) := by
  have hf : (E r d C m).brings C most = C.way.length := by
    show fit r C.inb.length (min most.toNat C.way.length) = C.way.length
    unfold fit; rw [if_neg (by omega)]; omega
  unfold NS.bring
  rw [if_pos (E_err hd false hx hy), Int.toNat_natCast, E_cs]
  simp only [hf, List.take_length, List.drop_length]
  exact congrArg (fun x => (((C.way.length : Nat) : Int), (0 : Int), x)) (E_put _ _)
theorem E_fetch (hd : 1 ≤ d ∧ d ≤ 64) (hx : C.cut = false) (hy : C.closed = false) (most : Int) (hm : (C.out.length : Int) ≤ most) : (E r d C m).fetch (d : Int) most = ((C.out.length : Int), 0, E r d { C with heard := C.heard ++ C.out, out := [] } (m + (C.out.length : Int))) := by
  have hf : fetches C most = C.out.length := by unfold fetches; omega
  unfold NS.fetch
  rw [if_pos (E_err hd false hx hy), Int.toNat_natCast, E_cs]
  simp only [hf, List.take_length, List.drop_length]
  exact congrArg (fun x => (((C.out.length : Nat) : Int), (0 : Int), x)) (E_put _ _)
theorem E_take (hd : 1 ≤ d ∧ d ≤ 64) (hx : C.cut = false) (hy : C.closed = false) : (E r d C m).take (d : Int) = (C.inb, 0, E r d { C with inb := [] } m) := by
  unfold NS.take
  rw [if_pos (E_err hd true hx hy), Int.toNat_natCast, E_cs]
  exact congrArg (fun x => (C.inb, (0 : Int), x)) (E_put _ _)
end

/-- What stays beside the first net: the run's beginning, the second net, the row of all. -/
structure Beside (w0 : World) (σ : Nat → Nat) (w : World) (g2 : Nat) (M : NS) (v : Value) (L : List Int) : Prop where
  st : St w0 σ w
  net : NetAt w σ 2000 g2 M
  row : Row w σ 1 5 1 v L.length (bs L)
section
variable {w0 w w' : World} {σ σ' : Nat → Nat} {g2 : Nat} {M : NS} {v : Value} {L : List Int} {S : Nat → Prop}
theorem Beside.chg (h : Beside w0 σ w g2 M v L) (c : Chg S σ w σ' w') (h0 : ¬ S 0) (h1 : ¬ S 1) (h2 : ∀ x, Of 2000 x → ¬ S x) : Beside w0 σ' w' g2 M v L := ⟨h.st.chg c h0, h.net.chg c h2, h.row.chg c h1⟩
theorem Beside.below (h : Beside w0 σ w g2 M v L) (hb : Below w.heap.size w w') : Beside w0 σ w' g2 M v L := ⟨h.st.below hb, h.net.below hb, h.row.below hb⟩
theorem Beside.upd (h : Beside w0 σ w g2 M v L) (t : Nat) : Beside w0 (upd σ w.heap.size t) w g2 M v L := ⟨h.st.upd h.st.size t, h.net.upd (Nat.le_refl _) t, h.row.upd (Nat.le_refl _) t⟩
/-- What bears no mark and is the run's own may change. -/
theorem Beside.own0 (h : Beside w0 σ w g2 M v L) (c : Chg (fun x => x = 0) σ w σ w') (hb : ∀ b, b < w0.heap.size → w'.heap[b]? = w.heap[b]?) : Beside w0 σ w' g2 M v L :=
  ⟨⟨h.st.bel.trans ⟨c.os, c.tape, c.output, c.size, hb⟩, h.st.zero⟩, h.net.chg c (fun x hx e => by unfold Of at hx; omega), h.row.chg c (by omega)⟩
end
theorem of_ne (x : Nat) (h : Of 2000 x) : ¬ Of 1000 x := by unfold Of at *; omega
theorem of1000_0 : ¬ Of 1000 0 := by unfold Of; omega
theorem of1000_1 : ¬ Of 1000 1 := by unfold Of; omega

theorem own0_only {w w' : World} {σ : Nat → Nat} {g : Nat} (h : Only [g] w w') (hg : σ g = 0) : Chg (fun x => x = 0) σ w σ w' :=
  ⟨h.os, h.tape, h.output, h.size, fun _ _ => rfl, fun b hb hn => h.block b hb (by simp; rintro rfl; exact hn hg)⟩
theorem own0_set {w : World} {σ : Nat → Nat} {p : Addr} (u : Value) (hg : σ p.block = 0) : Chg (fun x => x = 0) σ w σ (w.setCell p u) := (Chg.refl _ σ w).setCell (.inl hg) u
theorem bb_chg {w w' : World} {σ σ' : Nat → Nat} {g : Nat} {L : List Int} {S : Nat → Prop} (h : BB w g L) (c : Chg S σ w σ' w') (hs : ¬ S (σ g)) : BB w' g L := (c.block g (Blk.lt h) hs).trans h
theorem lent_reads {w : World} {g : Nat} {L : List Int} (h : BB w g (lent L)) : Reads w (some ⟨g, 0, none⟩) (bs L) := by
  have := h.reads
  unfold lent lentAt at this
  rw [bs_append] at this
  have h2 := this.take (bs L).length
  rwa [List.take_left] at h2
end Go.Proofs.Ytalabfbnbiagiaa.C
