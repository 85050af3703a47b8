/-
  NetCarries: one live connection; what was sent, taken, written.
-/
import Derived.Test.YtalabfbnbiagiaaApartL
set_option linter.unusedVariables false
set_option linter.unusedSimpArgs false
namespace Go.Proofs.Ytalabfbnbiagiaa.C
open Go.RowKit Go.Proofs.Ytalabfbnbiagiaa.K

/-- Connection 7 is there, neither closed nor cut. -/
structure Live (N : NS) (i o : Nat) (C : Cn) : Prop where
  i : N.i = (i : Int)
  o : N.o = (o : Int)
  cs : N.cs 7 = some C
  x : C.cut = false
  y : C.closed = false
section
variable {N : NS} {i o : Nat} {C : Cn}
theorem Live.err (h : Live N i o C) (u : Bool) : err N 7 u = 0 := by
  unfold Go.Proofs.Ytalabfbnbiagiaa.C.err
  rw [if_neg (by omega), show ((7 : Int).toNat) = 7 from rfl, h.cs]
  simp [h.x, h.y]
theorem Live.send (h : Live N i o C) (L : List Int) (hl : C.way.length + L.length ≤ 1048576) : N.send 7 L = (0, N.put 7 { C with way := C.way ++ L }) ∧ Live (N.put 7 { C with way := C.way ++ L }) i o { C with way := C.way ++ L } := by
  refine ⟨?_, ⟨h.i, h.o, NS.put_same _ _ _, h.x, h.y⟩⟩
  unfold NS.send
  rw [if_pos (h.err true), show ((7 : Int).toNat) = 7 from rfl, h.cs]
  show (if C.way.length + L.length ≤ 1048576 then _ else _) = _
  rw [if_pos hl]
theorem Live.bring (h : Live N i o C) (most : Int) : N.bring 7 most = (((fit i C.inb.length (min most.toNat C.way.length) : Nat) : Int), 0, { N.put 7 { C with inb := C.inb ++ C.way.take (fit i C.inb.length (min most.toNat C.way.length)), way := C.way.drop (fit i C.inb.length (min most.toNat C.way.length)) } with mv := N.mv + ((fit i C.inb.length (min most.toNat C.way.length) : Nat) : Int) }) := by
  unfold NS.bring
  rw [if_pos (h.err false), show ((7 : Int).toNat) = 7 from rfl, h.cs]
  show (((N.brings C most : Nat) : Int), (0 : Int), _) = _
  unfold NS.brings
  rw [h.i]
theorem Live.take (h : Live N i o C) : N.take 7 = (C.inb, 0, N.put 7 { C with inb := [] }) := by
  unfold NS.take
  rw [if_pos (h.err true), show ((7 : Int).toNat) = 7 from rfl, h.cs]
theorem Live.write (h : Live N i o C) (L : List Int) : N.write 7 L = (((fit o C.out.length L.length : Nat) : Int), 0, N.put 7 { C with out := C.out ++ L.take (fit o C.out.length L.length) }) := by
  unfold NS.write
  rw [if_pos (h.err true), show ((7 : Int).toNat) = 7 from rfl, h.cs, h.o]
theorem Live.fetch (h : Live N i o C) (most : Int) : N.fetch 7 most = (((min most.toNat C.out.length : Nat) : Int), 0, { N.put 7 { C with heard := C.heard ++ C.out.take (min most.toNat C.out.length), out := C.out.drop (min most.toNat C.out.length) } with mv := N.mv + ((min most.toNat C.out.length : Nat) : Int) }) := by
  unfold NS.fetch
  rw [if_pos (h.err false), show ((7 : Int).toNat) = 7 from rfl, h.cs]
  rfl
theorem Live.heard (h : Live N i o C) : N.heard_ 7 = (C.heard, false) := by
  unfold NS.heard_
  rw [if_pos (h.err false), show ((7 : Int).toNat) = 7 from rfl, h.cs]
  simp [h.x, h.y]
theorem Live.under (h : Live N i o C) : N.under 7 = ((C.way.length : Int) + (C.inb.length : Int), (C.out.length : Int)) := by
  unfold NS.under
  rw [if_pos (h.err false), show ((7 : Int).toNat) = 7 from rfl, h.cs]
theorem Live.put (h : Live N i o C) (D : Cn) (m : Int) (hx : D.cut = false) (hy : D.closed = false) : Live { N.put 7 D with mv := m } i o D := ⟨h.i, h.o, NS.put_same N 7 D, hx, hy⟩
theorem Live.put0 (h : Live N i o C) (D : Cn) (hx : D.cut = false) (hy : D.closed = false) : Live (N.put 7 D) i o D := ⟨h.i, h.o, NS.put_same _ _ _, hx, hy⟩
end
/-- The net and the told rows in memory. -/
structure CW (w0 : World) (g : Nat) (w : World) (σ : Nat → Nat) (N : NS) (S T W : List Int) (vs vt vw : Value) : Prop where
  st : St w0 σ w
  net : NetAt w σ 1000 g N
  rs : Row w σ 1 5 1 vs S.length (bs S)
  rt : Row w σ 2 5 1 vt T.length (bs T)
  rw : Row w σ 3 5 1 vw W.length (bs W)
section
variable {w0 w w' : World} {σ σ' : Nat → Nat} {g : Nat} {N N' : NS} {S T W L : List Int} {vs vt vw v' : Value}
theorem CW.below (h : CW w0 g w σ N S T W vs vt vw) (hb : Below w.heap.size w w') : CW w0 g w' σ N S T W vs vt vw := ⟨h.st.below hb, h.net.below hb, h.rs.below hb, h.rt.below hb, h.rw.below hb⟩
theorem CW.upd (h : CW w0 g w σ N S T W vs vt vw) (t : Nat) : CW w0 g w (K.upd σ w.heap.size t) N S T W vs vt vw := ⟨h.st.upd h.st.size t, h.net.upd (Nat.le_refl _) t, h.rs.upd (Nat.le_refl _) t, h.rt.upd (Nat.le_refl _) t, h.rw.upd (Nat.le_refl _) t⟩
theorem CW.new (h : CW w0 g w σ N S T W vs vt vw) (ty : TypeId) (cs : Array Value) : CW w0 g (w.alloc (.cells cs ty)) (K.upd σ w.heap.size 0) N S T W vs vt vw ∧ MBlk (w.alloc (.cells cs ty)) (K.upd σ w.heap.size 0) 0 w.heap.size ty cs :=
  ⟨(h.upd 0).below ((Below.refl _ _).alloc (Nat.le_refl _) _), Blk.new _ _ _, upd_new (Nat.le_refl _)⟩
theorem CW.call (h : CW w0 g w σ N S T W vs vt vw) (h1 : NetAt w' σ' 1000 g N') (c : Chg (Of 1000) σ w σ' w') : CW w0 g w' σ' N' S T W vs vt vw :=
  ⟨h.st.chg c o10, h1, h.rs.chg c (by unfold Of; omega), h.rt.chg c (by unfold Of; omega), h.rw.chg c (by unfold Of; omega)⟩
theorem row_chgd {t : Nat} {v : Value} {n : Nat} {xs ys : List Value} {m : Nat} (h : Row w σ t 5 1 v n xs) (hg : w.grownBy w' v.ownBlock) : Chg (fun x => x = t) σ w (K.upd σ w.heap.size t) w' :=
  ((Chg.refl _ σ w).upd (Nat.le_refl _) t).grown hg (fun q hq => .inl (by
    show K.upd σ w.heap.size t q = t
    rw [upd_old (h.1.lt q hq).2]
    exact h.2 q hq))
theorem row_new {t : Nat} {v : Value} {n m : Nat} {xs ys : List Value} (h : Row w σ t 5 1 v n xs) (ho : w'.ownsRow 0 5 1 v' m ys) (hat : v'.ownBlock = v.ownBlock ∨ v'.ownBlock = some w.heap.size) : Row w' (K.upd σ w.heap.size t) t 5 1 v' m ys := by
  refine ⟨ho, fun b hb => ?_⟩
  rcases hat with h0 | h0
  · rw [h0] at hb
    rw [upd_old (h.1.lt b hb).2]
    exact h.2 b hb
  · rw [h0] at hb
    exact upd_new (by rw [← Option.some.inj hb]; exact Nat.le_refl _)
theorem CW.sent (h : CW w0 g w σ N S T W vs vt vw) (ho : w'.ownsRow 0 5 1 v' (S.length + L.length) (bs S ++ bs L)) (hg : w.grownBy w' vs.ownBlock) (hat : v'.ownBlock = vs.ownBlock ∨ v'.ownBlock = some w.heap.size) :
    CW w0 g w' (K.upd σ w.heap.size 1) N (S ++ L) T W v' vt vw ∧ Chg (fun x => x = 1) σ w (K.upd σ w.heap.size 1) w' := by
  have c := row_chgd (ys := []) (m := 0) h.rs hg
  refine ⟨⟨h.st.chg c (by omega), h.net.chg c (by intro x hx e; unfold Of at hx; omega), ?_, h.rt.chg c (by omega), h.rw.chg c (by omega)⟩, c⟩
  rw [List.length_append, bs_append]
  exact row_new h.rs ho hat
theorem CW.took (h : CW w0 g w σ N S T W vs vt vw) (ho : w'.ownsRow 0 5 1 v' (T.length + L.length) (bs T ++ bs L)) (hg : w.grownBy w' vt.ownBlock) (hat : v'.ownBlock = vt.ownBlock ∨ v'.ownBlock = some w.heap.size) :
    CW w0 g w' (K.upd σ w.heap.size 2) N S (T ++ L) W vs v' vw ∧ Chg (fun x => x = 2) σ w (K.upd σ w.heap.size 2) w' := by
  have c := row_chgd (ys := []) (m := 0) h.rt hg
  refine ⟨⟨h.st.chg c (by omega), h.net.chg c (by intro x hx e; unfold Of at hx; omega), h.rs.chg c (by omega), ?_, h.rw.chg c (by omega)⟩, c⟩
  rw [List.length_append, bs_append]
  exact row_new h.rt ho hat
theorem CW.wrote (h : CW w0 g w σ N S T W vs vt vw) (ho : w'.ownsRow 0 5 1 v' (W.length + L.length) (bs W ++ bs L)) (hg : w.grownBy w' vw.ownBlock) (hat : v'.ownBlock = vw.ownBlock ∨ v'.ownBlock = some w.heap.size) :
    CW w0 g w' (K.upd σ w.heap.size 3) N S T (W ++ L) vs vt v' ∧ Chg (fun x => x = 3) σ w (K.upd σ w.heap.size 3) w' := by
  have c := row_chgd (ys := []) (m := 0) h.rw hg
  refine ⟨⟨h.st.chg c (by omega), h.net.chg c (by intro x hx e; unfold Of at hx; omega), h.rs.chg c (by omega), h.rt.chg c (by omega), ?_⟩, c⟩
  rw [List.length_append, bs_append]
  exact row_new h.rw ho hat
end
/-- What the lists have to do with one another. -/
structure CL (N : NS) (i o k : Nat) (C : Cn) (S T W : List Int) : Prop where
  live : Live N i o C
  s : S = T ++ C.inb ++ C.way
  w : W = C.heard ++ C.out
  mv : N.mv = ((T.length + C.inb.length + C.heard.length : Nat) : Int)
  sb : S.length ≤ 100 * k
  wb : W.length ≤ 40 * k
theorem CL.sends {N : NS} {i o k : Nat} {C : Cn} {S T W : List Int} (h : CL N i o k C S T W) {L : List Int} (hl : L.length ≤ 100) (hk : k ≤ 150) : N.send 7 L = (0, N.put 7 { C with way := C.way ++ L }) ∧ CL (N.put 7 { C with way := C.way ++ L }) i o (k + 1) { C with way := C.way ++ L } (S ++ L) T W := by
  have h1 := h.sb
  have h2 := h.wb
  have h3 : C.way.length ≤ S.length := by rw [h.s]; simp; omega
  have hs := h.live.send L (by omega)
  exact ⟨hs.1, hs.2, by rw [h.s]; simp, h.w, h.mv, by rw [List.length_append]; omega, by omega⟩
theorem CL.brings {N : NS} {i o k : Nat} {C : Cn} {S T W : List Int} (h : CL N i o k C S T W) (hi : C.inb.length ≤ i) (most : Int) : ∃ (d : Nat) (D : Cn) (M : NS), N.bring 7 most = ((d : Int), 0, M) ∧ CL M i o (k + 1) D S T W ∧ D.inb.length = C.inb.length + d ∧ D.way.length + d = C.way.length ∧ D.heard = C.heard ∧ D.out = C.out ∧ D.inb.length ≤ i ∧ M.mv = N.mv + d ∧ (d : Int) ≤ max 0 most ∧ ((most ≤ (d : Int)) ∨ d = C.way.length ∨ C.inb.length + d = i) := by
  have h1 := h.sb
  have h2 := h.wb
  obtain ⟨d, hd⟩ : ∃ d, fit (i : Int) C.inb.length (min most.toNat C.way.length) = d := ⟨_, rfl⟩
  have hb := h.live.bring most
  rw [hd] at hb
  unfold fit at hd
  rw [if_neg (by omega), Int.toNat_natCast] at hd
  have hdw : d ≤ C.way.length := by omega
  refine ⟨d, { C with inb := C.inb ++ C.way.take d, way := C.way.drop d }, _, hb, ⟨h.live.put _ _ h.live.x h.live.y, ?_, h.w, ?_, by omega, by omega⟩, by simp; omega, by simp; omega, rfl, rfl, by simp; omega, rfl, by omega, by omega⟩
  · rw [h.s]
    simp [List.append_assoc]
  · show N.mv + (d : Int) = _
    rw [h.mv]
    simp
    omega
theorem CL.takes {N : NS} {i o k : Nat} {C : Cn} {S T W : List Int} (h : CL N i o k C S T W) : N.take 7 = (C.inb, 0, N.put 7 { C with inb := [] }) ∧ CL (N.put 7 { C with inb := [] }) i o (k + 1) { C with inb := [] } S (T ++ C.inb) W := by
  have h1 := h.sb
  have h2 := h.wb
  refine ⟨h.live.take, h.live.put0 _ h.live.x h.live.y, by rw [h.s]; simp, h.w, ?_, by omega, by omega⟩
  show N.mv = _
  rw [h.mv]
  simp
theorem CL.writes {N : NS} {i o k : Nat} {C : Cn} {S T W : List Int} (h : CL N i o k C S T W) (ho : C.out.length ≤ o) (ho2 : o ≤ 40) (L : List Int) : ∃ d : Nat, d ≤ L.length ∧ N.write 7 L = ((d : Int), 0, N.put 7 { C with out := C.out ++ L.take d }) ∧ CL (N.put 7 { C with out := C.out ++ L.take d }) i o (k + 1) { C with out := C.out ++ L.take d } S T (W ++ L.take d) ∧ C.out.length + d ≤ o ∧ (d : Int) = min (L.length : Int) ((o : Int) - (C.out.length : Int)) := by
  have h1 := h.sb
  have h2 := h.wb
  obtain ⟨d, hd⟩ : ∃ d, fit (o : Int) C.out.length L.length = d := ⟨_, rfl⟩
  have hb := h.live.write L
  rw [hd] at hb
  unfold fit at hd
  rw [if_neg (by omega), Int.toNat_natCast] at hd
  refine ⟨d, by omega, hb, ⟨h.live.put0 _ h.live.x h.live.y, h.s, by rw [h.w]; simp, h.mv, by omega, ?_⟩, by omega, by omega⟩
  rw [List.length_append, List.length_take]
  omega
theorem CL.fetches {N : NS} {i o k : Nat} {C : Cn} {S T W : List Int} (h : CL N i o k C S T W) (most : Int) : ∃ (d : Nat) (D : Cn) (M : NS), N.fetch 7 most = ((d : Int), 0, M) ∧ CL M i o (k + 1) D S T W ∧ D.heard.length = C.heard.length + d ∧ D.out.length + d = C.out.length ∧ D.inb = C.inb ∧ D.way = C.way ∧ M.mv = N.mv + d ∧ (d : Int) = max 0 (min most (C.out.length : Int)) := by
  have h1 := h.sb
  have h2 := h.wb
  obtain ⟨d, hd⟩ : ∃ d, min most.toNat C.out.length = d := ⟨_, rfl⟩
  have hb := h.live.fetch most
  rw [hd] at hb
  have hdw : d ≤ C.out.length := by omega
  refine ⟨d, { C with heard := C.heard ++ C.out.take d, out := C.out.drop d }, _, hb, ⟨h.live.put _ _ h.live.x h.live.y, h.s, ?_, ?_, by omega, by omega⟩, by simp; omega, by simp; omega, rfl, rfl, rfl, by omega⟩
  · rw [h.w]
    simp [List.append_assoc]
  · show N.mv + (d : Int) = _
    rw [h.mv]
    simp
    omega
theorem CL.stay {N : NS} {i o k : Nat} {C : Cn} {S T W : List Int} (h : CL N i o k C S T W) : CL N i o (k + 1) C S T W := ⟨h.live, h.s, h.w, h.mv, by have := h.sb; omega, by have := h.wb; omega⟩
end Go.Proofs.Ytalabfbnbiagiaa.C
