/-
  For the law NetAnswers: two connections of one net; what stays beside them.
-/
import Derived.Test.YtalabfbnbiagiaaApartW
import Derived.Test.YtalabfbnbiagiaaC8
import Derived.Test.YtalabfbnbiagiaaOpenB
set_option linter.unusedVariables false
set_option linter.unusedSimpArgs false
namespace Go.Proofs.Ytalabfbnbiagiaa.C
open Go.RowKit Go.Proofs.Ytalabfbnbiagiaa.K

def idle (h : List Int) : Cn := ⟨[], [], [], h, false, false⟩

section
variable {N : NS} {d : Nat} {C : Cn}
theorem G_err (hC : N.cs d = some C) (hd : 1 ≤ d ∧ d ≤ 64) (u : Bool) (hx : C.cut = false) (hy : C.closed = false) : err N (d : Int) u = 0 := by
  unfold err
  rw [if_neg (by omega), Int.toNat_natCast, hC]
  simp [hx, hy]
theorem G_send (hC : N.cs d = some C) (hd : 1 ≤ d ∧ d ≤ 64) (hx : C.cut = false) (hy : C.closed = false) (L : List Int) (hl : C.way.length + L.length ≤ 1048576) : N.send (d : Int) L = (0, N.put d { C with way := C.way ++ L }) := by
  unfold NS.send
  rw [if_pos (G_err hC hd true hx hy), Int.toNat_natCast, hC]
  simp only [hl, if_true]
theorem G_write (hC : N.cs d = some C) (hd : 1 ≤ d ∧ d ≤ 64) (hx : C.cut = false) (hy : C.closed = false) (L : List Int) (hl : (C.out.length : Int) + (L.length : Int) ≤ N.o) : N.write (d : Int) L = ((L.length : Int), 0, N.put d { C with out := C.out ++ L }) := by
  have hf : fit N.o C.out.length L.length = L.length := by unfold fit; rw [if_neg (by omega)]; omega
  unfold NS.write
  rw [if_pos (G_err hC hd true hx hy), Int.toNat_natCast, hC]
  show (((fit N.o C.out.length L.length : Nat) : Int), (0 : Int), N.put d { C with out := C.out ++ L.take (fit N.o C.out.length L.length) }) = _
  rw [hf, List.take_length]
theorem G_bring (hC : N.cs d = some C) (hd : 1 ≤ d ∧ d ≤ 64) (hx : C.cut = false) (hy : C.closed = false) (most : Int) (hm : (C.way.length : Int) ≤ most) (hl : (C.inb.length : Int) + (C.way.length : Int) ≤ N.i) : N.bring (d : Int) most = ((C.way.length : Int), 0, { N.put d { C with inb := C.inb ++ C.way, way := [] } with mv := N.mv + (C.way.length : Int) }) := by
  have hf : N.brings C most = C.way.length := by
    show fit N.i C.inb.length (min most.toNat C.way.length) = C.way.length
    unfold fit; rw [if_neg (by omega)]; omega
  unfold NS.bring
  rw [if_pos (G_err hC hd false hx hy), Int.toNat_natCast, hC]
  simp only [hf, List.take_length, List.drop_length]
theorem G_fetch (hC : N.cs d = some C) (hd : 1 ≤ d ∧ d ≤ 64) (hx : C.cut = false) (hy : C.closed = false) (most : Int) (hm : (C.out.length : Int) ≤ most) : N.fetch (d : Int) most = ((C.out.length : Int), 0, { N.put d { C with heard := C.heard ++ C.out, out := [] } with mv := N.mv + (C.out.length : Int) }) := by
  have hf : fetches C most = C.out.length := by unfold fetches; omega
  unfold NS.fetch
  rw [if_pos (G_err hC hd false hx hy), Int.toNat_natCast, hC]
  simp only [hf, List.take_length, List.drop_length]
theorem G_take (hC : N.cs d = some C) (hd : 1 ≤ d ∧ d ≤ 64) (hx : C.cut = false) (hy : C.closed = false) : N.take (d : Int) = (C.inb, 0, N.put d { C with inb := [] }) := by
  unfold NS.take
  rw [if_pos (G_err hC hd true hx hy), Int.toNat_natCast, hC]
end

/-- Two connections with nothing under way. -/
structure Two (N : NS) (h : Nat → List Int) (m : Int) : Prop where
  i : N.i = 200
  o : N.o = 200
  mv : N.mv = m
  cs : ∀ d, d = 1 ∨ d = 2 → N.cs d = some (idle (h d))
def more (h : Nat → List Int) (d : Nat) (L : List Int) : Nat → List Int := fun e => if e = d then h d ++ L else h e
theorem Two.turn {N : NS} {h : Nat → List Int} {m : Int} (hT : Two N h m) (d : Nat) (L : List Int) {C1 C2 C3 C4 : Cn} {a b : Int} :
    Two (NS.put { NS.put { NS.put (NS.put (NS.put N d C1) d C2) d C3 with mv := a } d C4 with mv := b } d (idle (h d ++ L))) (more h d L) b := by
  refine ⟨hT.i, hT.o, rfl, fun e he => ?_⟩
  unfold more
  by_cases hed : e = d
  · subst hed
    rw [NS.put_same, if_pos rfl]
  · rw [NS.put_other _ _ _ _ hed, if_neg hed]
    show (NS.put { NS.put (NS.put (NS.put N d C1) d C2) d C3 with mv := a } d C4).cs e = _
    rw [NS.put_other _ _ _ _ hed]
    show (NS.put (NS.put (NS.put N d C1) d C2) d C3).cs e = _
    rw [NS.put_other _ _ _ _ hed, NS.put_other _ _ _ _ hed, NS.put_other _ _ _ _ hed]
    exact hT.cs e he

theorem own_chg {S : Nat → Prop} {σ σ' : Nat → Nat} {w w' : World} {B e sz n : Nat} {v : Value} {xs : List Value} (h : w.ownsRow B e sz v n xs) (c : Chg S σ w σ' w') (hb : ∀ b, v.ownBlock = some b → ¬ S (σ b)) : w'.ownsRow B e sz v n xs := by
  refine ⟨h.1, ?_⟩
  rcases h.2 with h2 | ⟨g, cap, cur, hv', hg, hh, r⟩
  · exact Or.inl h2
  · have hlt := (Array.getElem?_eq_some_iff.1 hh).1
    exact Or.inr ⟨g, cap, cur, hv', hg, (c.block g hlt (hb g (by subst hv'; rfl))).trans hh, r⟩

/-- What stays beside the net: the run's beginning; the rows all (ku) and want (wu) with their rows ks, ws and those that are still to be laid behind (pk, pw); the block of what was heard. -/
structure AI (w0 : World) (σ : Nat → Nat) (w : World) (gh : Nat) (h : Nat → List Int) (ku wu : Value) (v : Nat → Value) (ks ws pk pw : List TRow) : Prop where
  st : St w0 σ w
  ku : Row w σ 1 29 1 ku ks.length (ks.map TRow.v)
  wu : Row w σ 2 29 1 wu ws.length (ws.map TRow.v)
  hb : MBlk w σ 7 gh 29 #[.slice none 0 0, v 1, v 2]
  r : ∀ d, d = 1 ∨ d = 2 → Row w σ (4 + d) 5 1 (v d) (h d).length (bs (h d))
  T : TRows w w0.heap.size 5 1 ((ks ++ pk) ++ (ws ++ pw))
  tk : ∀ p ∈ ks ++ pk, ∀ b, p.v.ownBlock = some b → σ b = 0
  tw : ∀ p ∈ ws ++ pw, ∀ b, p.v.ownBlock = some b → σ b = 4

theorem TRows.add {w : World} {B e sz n0 : Nat} {rs : List TRow} (h : TRows w B e sz rs) (p : TRow) (hp : w.ownsRow B e sz p.v p.n p.xs) (hlt : ∀ q ∈ rs, ∀ b, q.v.ownBlock = some b → b < n0) (hge : ∀ b, p.v.ownBlock = some b → n0 ≤ b) : TRows w B e sz (rs ++ [p]) := by
  refine ⟨fun q hq => ?_, ?_⟩
  · rcases List.mem_append.1 hq with hq | hq
    · exact h.own q hq
    · obtain rfl : q = p := by simpa using hq
      exact hp
  · rw [List.pairwise_append]
    refine ⟨h.apart, List.pairwise_singleton _ _, fun a ha b hb' => ?_⟩
    obtain rfl : b = p := by simpa using hb'
    rcases hv : a.v.ownBlock with _ | g
    · exact .inl rfl
    · right
      intro he
      have h1 := hlt a ha g hv
      have h2 := hge g he.symm
      omega
theorem raise {w : World} {B B' e sz n : Nat} {v : Value} {xs : List Value} (h : w.ownsRow B e sz v n xs) (hb : ∀ g, v.ownBlock = some g → B' ≤ g) : w.ownsRow B' e sz v n xs := by
  refine ⟨h.1, ?_⟩
  rcases h.2 with h0 | ⟨g, cap, cur, hv, _, r⟩
  · exact .inl h0
  · exact .inr ⟨g, cap, cur, hv, hb g (by rw [hv]; rfl), r⟩

section
variable {w0 w w' : World} {σ σ' : Nat → Nat} {gh : Nat} {h : Nat → List Int} {ku wu : Value} {v : Nat → Value} {ks ws pk pw : List TRow} {S : Nat → Prop}
theorem AI.lt (a : AI w0 σ w gh h ku wu v ks ws pk pw) : ∀ p ∈ (ks ++ pk) ++ (ws ++ pw), ∀ b, p.v.ownBlock = some b → b < w.heap.size := fun p hp b hb => ((a.T.own p hp).lt b hb).2
theorem AI.chg (a : AI w0 σ w gh h ku wu v ks ws pk pw) (c : Chg S σ w σ' w') (hS : ∀ x, x < 8 → ¬ S x) : AI w0 σ' w' gh h ku wu v ks ws pk pw := by
  have hlt := a.lt
  have htag : ∀ p ∈ (ks ++ pk) ++ (ws ++ pw), ∀ b, p.v.ownBlock = some b → ¬ S (σ b) := by
    intro p hp b hb
    rcases List.mem_append.1 hp with hp | hp
    · rw [a.tk p hp b hb]; exact hS 0 (by omega)
    · rw [a.tw p hp b hb]; exact hS 4 (by omega)
  exact ⟨a.st.chg c (hS 0 (by omega)), a.ku.chg c (hS 1 (by omega)), a.wu.chg c (hS 2 (by omega)), a.hb.chg c (hS 7 (by omega)), fun d hd => (a.r d hd).chg c (hS _ (by omega)),
    ⟨fun p hp => own_chg (a.T.own p hp) c (htag p hp), a.T.apart⟩, fun p hp b hb => (c.marks b (hlt p (List.mem_append_left _ hp) b hb)).trans (a.tk p hp b hb), fun p hp b hb => (c.marks b (hlt p (List.mem_append_right _ hp) b hb)).trans (a.tw p hp b hb)⟩
theorem AI.net (a : AI w0 σ w gh h ku wu v ks ws pk pw) (c : Chg (Of 1000) σ w σ' w') : AI w0 σ' w' gh h ku wu v ks ws pk pw := a.chg c (by intro x hx e; unfold Of at e; omega)
theorem AI.below (a : AI w0 σ w gh h ku wu v ks ws pk pw) (hb : Below w.heap.size w w') : AI w0 σ w' gh h ku wu v ks ws pk pw := a.chg (Chg.of_below (fun _ => False) σ hb) (fun _ _ h => h)
theorem AI.upd (a : AI w0 σ w gh h ku wu v ks ws pk pw) (t : Nat) : AI w0 (upd σ w.heap.size t) w gh h ku wu v ks ws pk pw := a.chg ((Chg.refl (fun _ => False) σ w).upd (Nat.le_refl _) t) (fun _ _ h => h)
/-- The block that Lend made changes. -/
theorem own8 {g : Nat} (ho : Only [g] w w') (hg : σ g = 8) : Chg (fun x => x = 8) σ w σ w' := ⟨ho.os, ho.tape, ho.output, ho.size, fun _ _ => rfl, fun b hb hn => ho.block b hb (by simp; rintro rfl; exact hn hg)⟩
theorem AI.lent8 (a : AI w0 σ w gh h ku wu v ks ws pk pw) {g : Nat} (ho : Only [g] w w') (hg : σ g = 8) : AI w0 σ w' gh h ku wu v ks ws pk pw := a.chg (own8 ho hg) (by intro x hx e; omega)
/-- A told row more. -/
theorem AI.newk (a : AI w0 σ w gh h ku wu v ks ws pk pw) (n0 : Nat) (hn0 : ∀ p ∈ (ks ++ pk) ++ (ws ++ pw), ∀ b, p.v.ownBlock = some b → b < n0) (p : TRow) (hw : w0.heap.size ≤ n0) (hp : Row w σ 0 5 1 p.v p.n p.xs) (hge : ∀ b, p.v.ownBlock = some b → n0 ≤ b) : AI w0 σ w gh h ku wu v ks ws (pk ++ [p]) pw := by
  have hT := TRows.add a.T p (raise hp.1 fun b hb => Nat.le_trans hw (hge b hb)) hn0 hge
  refine ⟨a.st, a.ku, a.wu, a.hb, a.r, hT.perm ?_, ?_, a.tw⟩
  · have := (List.perm_append_comm (l₁ := ws ++ pw) (l₂ := [p])).append_left (ks ++ pk)
    simpa only [List.append_assoc] using this
  · intro q hq b hb
    rw [← List.append_assoc] at hq
    rcases List.mem_append.1 hq with hq | hq
    · exact a.tk q hq b hb
    · obtain rfl : q = p := by simpa using hq
      exact hp.2 b hb
theorem AI.neww (a : AI w0 σ w gh h ku wu v ks ws pk pw) (n0 : Nat) (hn0 : ∀ p ∈ (ks ++ pk) ++ (ws ++ pw), ∀ b, p.v.ownBlock = some b → b < n0) (p : TRow) (hw : w0.heap.size ≤ n0) (hp : Row w σ 4 5 1 p.v p.n p.xs) (hge : ∀ b, p.v.ownBlock = some b → n0 ≤ b) : AI w0 σ w gh h ku wu v ks ws pk (pw ++ [p]) := by
  have hT := TRows.add a.T p (raise hp.1 fun b hb => Nat.le_trans hw (hge b hb)) hn0 hge
  refine ⟨a.st, a.ku, a.wu, a.hb, a.r, by simpa only [List.append_assoc] using hT, a.tk, ?_⟩
  intro q hq b hb
  rw [← List.append_assoc] at hq
  rcases List.mem_append.1 hq with hq | hq
  · exact a.tw q hq b hb
  · obtain rfl : q = p := by simpa using hq
    exact hp.2 b hb
/-- The told rows are laid behind all. -/
theorem AI.pushk (a : AI w0 σ w gh h ku wu v ks ws pk pw) {ku' : Value} (ho : w'.ownsRow 0 29 1 ku' (ks.length + pk.length) (ks.map TRow.v ++ pk.map TRow.v)) (hg : w.grownBy w' ku.ownBlock) (hat : ku'.ownBlock = ku.ownBlock ∨ ku'.ownBlock = some w.heap.size) :
    AI w0 (K.upd σ w.heap.size 1) w' gh h ku' wu v (ks ++ pk) ws [] pw ∧ Chg (fun x => x = 1) σ w (K.upd σ w.heap.size 1) w' := by
  have hc : Chg (fun x => x = 1) σ w (K.upd σ w.heap.size 1) w' := ((Chg.refl _ σ w).upd (Nat.le_refl _) 1).grown hg (fun q hq => .inl (by show K.upd σ w.heap.size 1 q = 1; rw [upd_old (a.ku.1.lt q hq).2]; exact a.ku.2 q hq))
  have hlt := a.lt
  have hold : ∀ {p : TRow}, p ∈ (ks ++ pk) ++ (ws ++ pw) → ∀ b, p.v.ownBlock = some b → K.upd σ w.heap.size 1 b = σ b := fun hp b hb => upd_old (hlt _ hp b hb)
  refine ⟨⟨a.st.chg hc (by omega), ⟨by simpa using ho, fun b hb => ?_⟩, a.wu.chg hc (by omega), a.hb.chg hc (by omega), fun d hd => (a.r d hd).chg hc (by omega), ?_, ?_, ?_⟩, hc⟩
  · rcases hat with h0 | h0
    · rw [h0] at hb
      rw [upd_old (a.ku.1.lt b hb).2]
      exact a.ku.2 b hb
    · rw [h0] at hb
      exact upd_new (by rw [← Option.some.inj hb]; exact Nat.le_refl _)
  · rw [List.append_nil]
    exact ⟨fun p hp => own_chg (a.T.own p hp) hc (fun b hb => by
      rcases List.mem_append.1 hp with hp | hp
      · rw [a.tk p hp b hb]; omega
      · rw [a.tw p hp b hb]; omega), a.T.apart⟩
  · intro p hp b hb
    rw [List.append_nil] at hp
    rw [hold (List.mem_append_left _ hp) b hb]
    exact a.tk p hp b hb
  · intro p hp b hb
    rw [hold (List.mem_append_right _ hp) b hb]
    exact a.tw p hp b hb
theorem AI.pushw (a : AI w0 σ w gh h ku wu v ks ws pk pw) {wu' : Value} (ho : w'.ownsRow 0 29 1 wu' (ws.length + pw.length) (ws.map TRow.v ++ pw.map TRow.v)) (hg : w.grownBy w' wu.ownBlock) (hat : wu'.ownBlock = wu.ownBlock ∨ wu'.ownBlock = some w.heap.size) :
    AI w0 (K.upd σ w.heap.size 2) w' gh h ku wu' v ks (ws ++ pw) pk [] ∧ Chg (fun x => x = 2) σ w (K.upd σ w.heap.size 2) w' := by
  have hc : Chg (fun x => x = 2) σ w (K.upd σ w.heap.size 2) w' := ((Chg.refl _ σ w).upd (Nat.le_refl _) 2).grown hg (fun q hq => .inl (by show K.upd σ w.heap.size 2 q = 2; rw [upd_old (a.wu.1.lt q hq).2]; exact a.wu.2 q hq))
  have hlt := a.lt
  have hold : ∀ {p : TRow}, p ∈ (ks ++ pk) ++ (ws ++ pw) → ∀ b, p.v.ownBlock = some b → K.upd σ w.heap.size 2 b = σ b := fun hp b hb => upd_old (hlt _ hp b hb)
  refine ⟨⟨a.st.chg hc (by omega), a.ku.chg hc (by omega), ⟨by simpa using ho, fun b hb => ?_⟩, a.hb.chg hc (by omega), fun d hd => (a.r d hd).chg hc (by omega), ?_, ?_, ?_⟩, hc⟩
  · rcases hat with h0 | h0
    · rw [h0] at hb
      rw [upd_old (a.wu.1.lt b hb).2]
      exact a.wu.2 b hb
    · rw [h0] at hb
      exact upd_new (by rw [← Option.some.inj hb]; exact Nat.le_refl _)
  · rw [List.append_nil]
    exact ⟨fun p hp => own_chg (a.T.own p hp) hc (fun b hb => by
      rcases List.mem_append.1 hp with hp | hp
      · rw [a.tk p hp b hb]; omega
      · rw [a.tw p hp b hb]; omega), a.T.apart⟩
  · intro p hp b hb
    rw [hold (List.mem_append_left _ hp) b hb]
    exact a.tk p hp b hb
  · intro p hp b hb
    rw [List.append_nil] at hp
    rw [hold (List.mem_append_right _ hp) b hb]
    exact a.tw p hp b hb
end

theorem copied_c (w : World) (A : Option Addr) (n c : Nat) (L : List Int) (hL : L.length = n) (hn : n ≤ 1099511627776) (hr : Reads w A (bs L)) :
    Calls Try.prog 26 #[.slice A n c] w fun e w' => ∃ u, e = .returned u ∧ w'.ownsRow w.heap.size 5 1 u n (bs L) ∧ Below w.heap.size w w' := by
  obtain ⟨i1, hi1, hy0, hy1, hy2⟩ := info_parts info5'
  go_enter Try.func26, Try.ntmps26
  go_wp2_with (at_builtin; refine wpList_append_reads (by rfl) _ _ 29 (by rfl) w.heap.size 5 i1 _ 1 1 Try.underlying29 hi1 hy0 hy1 hy2 rfl (by omega) (.slice none 0 0) 0 [] (by rfl) (World.ownsRow_nil _ _ _ _) A n c (bs L) (by rfl) ?c1 hr (bs_one L) ?c4 ?c5 (Nat.le_refl _) ?_)
  case c1 => rw [bs_length, hL, Nat.mul_one]
  case c4 => unfold maxLen; omega
  case c5 => omega
  intro v' w1 hown hgrow hat
  go_wp2
  go_ret
  exact ⟨v', rfl, by simpa using hown, (Below.refl _ _).grown hgrow (Nat.le_refl _) (by intro x e; cases e)⟩
end Go.Proofs.Ytalabfbnbiagiaa.C
