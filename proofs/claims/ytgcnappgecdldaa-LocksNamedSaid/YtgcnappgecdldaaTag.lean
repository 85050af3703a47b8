/-
  Memory with marks: every block bears a mark (a ghost); a call says which marks' blocks it may change. Rows and blocks with other marks stay. Many objects at once are kept apart by their marks.
-/
import Derived.Test.YtgcnappgecdldaaKit
import Derived.Maps.AppendAt
import Derived.Deep.Upon
import Derived.Deep.Slices
set_option linter.unusedVariables false
namespace Go.Proofs.Ytgcnappgecdldaa.K
open Go.RowKit

/-- Only blocks with a mark in S (and what is new) may differ; marks stay. -/
structure Chg (S : Nat → Prop) (σ : Nat → Nat) (w : World) (σ' : Nat → Nat) (w' : World) : Prop where
  os : w'.os = w.os
  tape : w'.tape = w.tape
  output : w'.output = w.output
  size : w.heap.size ≤ w'.heap.size
  marks : ∀ b, b < w.heap.size → σ' b = σ b
  block : ∀ b, b < w.heap.size → ¬ S (σ b) → w'.heap[b]? = w.heap[b]?

/-- What is new from here on bears the mark t. -/
def upd (σ : Nat → Nat) (n t : Nat) : Nat → Nat := fun b => if b < n then σ b else t

section
variable {S S' : Nat → Prop} {σ σ' σ1 σ2 : Nat → Nat} {w w' w1 w2 : World} {g t n m sz : Nat} {e ty : TypeId} {v : Value} {xs : List Value} {cs : Array Value}

theorem upd_old (h : g < n) : upd σ n t g = σ g := by simp [upd, h]
theorem upd_new (h : n ≤ g) : upd σ n t g = t := by simp [upd, Nat.not_lt.2 h]

theorem Chg.refl (S : Nat → Prop) (σ : Nat → Nat) (w : World) : Chg S σ w σ w := ⟨rfl, rfl, rfl, Nat.le_refl _, fun _ _ => rfl, fun _ _ _ => rfl⟩
theorem Chg.trans (h : Chg S σ w σ1 w1) (k : Chg S σ1 w1 σ2 w2) : Chg S σ w σ2 w2 :=
  ⟨k.os.trans h.os, k.tape.trans h.tape, k.output.trans h.output, Nat.le_trans h.size k.size, fun b hb => (k.marks b (Nat.lt_of_lt_of_le hb h.size)).trans (h.marks b hb),
    fun b hb hn => (k.block b (Nat.lt_of_lt_of_le hb h.size) (by rw [h.marks b hb]; exact hn)).trans (h.block b hb hn)⟩
theorem Chg.mono (h : Chg S σ w σ' w') (hs : ∀ t, S t → S' t) : Chg S' σ w σ' w' := ⟨h.os, h.tape, h.output, h.size, h.marks, fun b hb hn => h.block b hb fun hm => hn (hs _ hm)⟩
theorem Chg.below (h : Chg S σ w σ1 w1) (k : Below w1.heap.size w1 w2) : Chg S σ w σ1 w2 :=
  ⟨k.os.trans h.os, k.tape.trans h.tape, k.output.trans h.output, Nat.le_trans h.size k.size, h.marks, fun b hb hn => (k.block b (Nat.lt_of_lt_of_le hb h.size)).trans (h.block b hb hn)⟩
theorem Chg.of_below (S : Nat → Prop) (σ : Nat → Nat) (h : Below w.heap.size w w') : Chg S σ w σ w' := (Chg.refl S σ w).below h
theorem Chg.upd (h : Chg S σ w σ1 w1) (hn : w.heap.size ≤ n) (t : Nat) : Chg S σ w (upd σ1 n t) w1 :=
  ⟨h.os, h.tape, h.output, h.size, fun b hb => (upd_old (Nat.lt_of_lt_of_le hb hn)).trans (h.marks b hb), h.block⟩
theorem Chg.drewN (h : Chg S σ w σ1 w1) (n : Nat) : Chg S σ w σ1 (w1.drewN n) := ⟨h.os, h.tape, h.output, h.size, h.marks, h.block⟩
theorem Chg.alloc (h : Chg S σ w σ1 w1) (o : Obj) : Chg S σ w σ1 (w1.alloc o) := h.below ((Below.refl _ _).alloc (Nat.le_refl _) _)
theorem Chg.setCell (h : Chg S σ w σ1 w1) {p : Addr} (hp : S (σ1 p.block) ∨ w.heap.size ≤ p.block) (u : Value) : Chg S σ w σ1 (w1.setCell p u) :=
  ⟨h.os, h.tape, h.output, by simpa [World.setCell] using h.size, h.marks, fun b hb hn => (Below.heap_setCell w1 p u b (by
    rintro rfl
    rcases hp with hp | hp
    · rw [h.marks _ hb] at hp; exact hn hp
    · omega)).trans (h.block b hb hn)⟩
theorem Chg.grown (h : Chg S σ w σ1 w1) {row : Option Nat} (k : w1.grownBy w2 row) (hr : ∀ g, row = some g → S (σ1 g) ∨ w.heap.size ≤ g) : Chg S σ w σ1 w2 :=
  ⟨k.os.trans h.os, k.tape.trans h.tape, k.output.trans h.output, Nat.le_trans h.size k.size, h.marks, fun b hb hn => (k.block b (Nat.lt_of_lt_of_le hb h.size) (by
    intro e
    rcases hr b e.symm with hp | hp
    · rw [h.marks _ hb] at hp; exact hn hp
    · omega)).trans (h.block b hb hn)⟩

/-- A row of one's own whose block bears the mark t. -/
def Row (w : World) (σ : Nat → Nat) (t : Nat) (e : TypeId) (sz : Nat) (v : Value) (n : Nat) (xs : List Value) : Prop := w.ownsRow 0 e sz v n xs ∧ ∀ b, v.ownBlock = some b → σ b = t
/-- A block that is known whole and bears the mark t. -/
def MBlk (w : World) (σ : Nat → Nat) (t g : Nat) (ty : TypeId) (cs : Array Value) : Prop := Blk w g ty cs ∧ σ g = t

theorem Row.nil (w : World) (σ : Nat → Nat) (t : Nat) (e : TypeId) (sz : Nat) : Row w σ t e sz (.slice none 0 0) 0 [] := ⟨World.ownsRow_nil _ _ _ _, by intro b h; cases h⟩
theorem Row.chg (h : Row w σ t e sz v n xs) (c : Chg S σ w σ' w') (ht : ¬ S t) : Row w' σ' t e sz v n xs := by
  refine ⟨⟨h.1.1, ?_⟩, fun b hb => (c.marks b (h.1.lt b hb).2).trans (h.2 b hb)⟩
  rcases h.1.2 with h2 | ⟨g, cap, cur, hv', hg, hh, r⟩
  · exact Or.inl h2
  · have hlt := (Array.getElem?_eq_some_iff.1 hh).1
    have := h.2 g (by subst hv'; rfl)
    exact Or.inr ⟨g, cap, cur, hv', hg, (c.block g hlt (by rw [this]; exact ht)).trans hh, r⟩
theorem Row.below (h : Row w σ t e sz v n xs) (hb : Below w.heap.size w w') : Row w' σ t e sz v n xs := ⟨own_below h.1 hb, h.2⟩
theorem Row.upd (h : Row w σ t e sz v n xs) (hn : w.heap.size ≤ m) (t' : Nat) : Row w (upd σ m t') t e sz v n xs := ⟨h.1, fun b hb => (upd_old (Nat.lt_of_lt_of_le (h.1.lt b hb).2 hn)).trans (h.2 b hb)⟩
theorem Row.fresh {B : Nat} (h : w.ownsRow B e sz v n xs) (t : Nat) : Row w (K.upd σ B t) t e sz v n xs := ⟨own_mono h (Nat.zero_le _), fun b hb => upd_new (h.lt b hb).1⟩
theorem Row.kept (h : Row w σ t e sz v n xs) {row : Option Nat} (k : w.grownBy w' row) (hr : ∀ g, row = some g → σ g ≠ t) : Row w' σ t e sz v n xs :=
  ⟨h.1.kept k (by
    rcases hb : v.ownBlock with _ | g
    · exact .inl rfl
    · right
      intro he
      exact hr g he.symm (h.2 g hb)), h.2⟩
theorem Row.set_ (h : Row w σ t e sz v n xs) {p : Addr} (hp : σ p.block ≠ t) (u : Value) : Row (w.setCell p u) σ t e sz v n xs :=
  h.kept (row := some p.block) ⟨rfl, rfl, rfl, by simp [World.setCell], fun q hq hne => Below.heap_setCell _ _ _ _ (fun e => hne (by rw [e]))⟩ (by intro g e; cases e; exact hp)
theorem Row.slice (h : Row w σ t e sz v n xs) : ∃ A c, v = .slice A n c := own_slice h.1
theorem Row.form (h : Row w σ t e sz v n xs) (hn : 0 < n) : ∃ g cap, v = .slice (some ⟨g, 0, none⟩) n cap ∧ σ g = t ∧ g < w.heap.size := by
  obtain ⟨g, cap, rfl, _, hl⟩ := own_form h.1 hn
  exact ⟨g, cap, rfl, h.2 g rfl, hl⟩
theorem MBlk.chg (h : MBlk w σ t g ty cs) (c : Chg S σ w σ' w') (ht : ¬ S t) : MBlk w' σ' t g ty cs := ⟨(c.block g h.1.lt (by rw [h.2]; exact ht)).trans h.1, (c.marks g h.1.lt).trans h.2⟩
theorem MBlk.below (h : MBlk w σ t g ty cs) (hb : Below w.heap.size w w') : MBlk w' σ t g ty cs := ⟨h.1.below' hb, h.2⟩
theorem MBlk.upd (h : MBlk w σ t g ty cs) (hn : w.heap.size ≤ m) (t' : Nat) : MBlk w (upd σ m t') t g ty cs := ⟨h.1, (upd_old (Nat.lt_of_lt_of_le h.1.lt hn)).trans h.2⟩
theorem MBlk.set_ (h : MBlk w σ t g ty cs) (i : Nat) (u : Value) : MBlk (w.setCell ⟨g, i, none⟩ u) σ t g ty (cs.setIfInBounds i u) := ⟨h.1.set_ i u, h.2⟩
theorem MBlk.far (h : MBlk w σ t g ty cs) {p : Addr} (hp : σ p.block ≠ t) (u : Value) : MBlk (w.setCell p u) σ t g ty cs := ⟨h.1.far (by rintro rfl; exact hp h.2) u, h.2⟩
theorem MBlk.kept (h : MBlk w σ t g ty cs) {row : Option Nat} (k : w.grownBy w' row) (hr : ∀ q, row = some q → σ q ≠ t) : MBlk w' σ t g ty cs :=
  ⟨(k.block g h.1.lt (by intro e; exact hr g e.symm h.2)).trans h.1, h.2⟩

/-- The run began in w0; what was there then is untouched and bears no mark. -/
structure St (w0 : World) (σ : Nat → Nat) (w : World) : Prop where
  bel : Below w0.heap.size w0 w
  zero : ∀ b, b < w0.heap.size → σ b = 0
theorem St.first (w : World) : St w (fun _ => 0) w := ⟨Below.refl _ _, fun _ _ => rfl⟩
theorem St.size {w0 : World} (h : St w0 σ w) : w0.heap.size ≤ w.heap.size := h.bel.size
theorem St.chg {w0 : World} (h : St w0 σ w) (c : Chg S σ w σ' w') (h0 : ¬ S 0) : St w0 σ' w' :=
  ⟨h.bel.trans ⟨c.os, c.tape, c.output, c.size, fun b hb => c.block b (Nat.lt_of_lt_of_le hb h.size) (by rw [h.zero b hb]; exact h0)⟩, fun b hb => (c.marks b (Nat.lt_of_lt_of_le hb h.size)).trans (h.zero b hb)⟩
theorem St.below {w0 : World} (h : St w0 σ w) (k : Below w.heap.size w w') : St w0 σ w' := ⟨Below.then_ h.bel h.size k, h.zero⟩
theorem St.upd {w0 : World} (h : St w0 σ w) (hn : w0.heap.size ≤ n) (t : Nat) : St w0 (upd σ n t) w := ⟨h.bel, fun b hb => (upd_old (Nat.lt_of_lt_of_le hb hn)).trans (h.zero b hb)⟩
end

theorem blk_add (a : Addr) (j : Nat) : (a.add j).block = a.block := by unfold Addr.add; split <;> rfl
/-- A slice whose cells are known (nothing is said of a slice without cells). -/
def Reads (w : World) (A : Option Addr) (xs : List Value) : Prop := ∀ j u, xs[j]? = some u → ∃ ad, A = some ad ∧ w.cell? (ad.add j) = some u
section
variable {w w' : World} {A : Option Addr} {xs : List Value}
theorem Reads.nil (w : World) (A : Option Addr) : Reads w A [] := by intro j u h; simp at h
theorem Reads.of_row {B : Nat} {e : TypeId} {sz n cap : Nat} (h : w.ownsRow B e sz (.slice A n cap) n xs) : Reads w A xs := by
  intro j u hu
  rcases h.2 with ⟨hv, hn⟩ | ⟨g, cap', cur, hv, _⟩
  · have : xs = [] := List.eq_nil_of_length_eq_zero (by rw [h.1, hn, Nat.zero_mul])
    subst this
    simp at hu
  · cases hv
    exact ⟨_, rfl, h.cells (g := g) rfl j u hu⟩
theorem Reads.take (h : Reads w A xs) (n : Nat) : Reads w A (xs.take n) := by
  intro j u hu
  rw [List.getElem?_take] at hu
  split at hu
  · exact h j u hu
  · cases hu
theorem Reads.drop (h : Reads w A xs) (n : Nat) : Reads w (A.map (·.add n)) (xs.drop n) := by
  intro j u hu
  rw [List.getElem?_drop] at hu
  obtain ⟨ad, rfl, hc⟩ := h (n + j) u hu
  refine ⟨ad.add n, rfl, ?_⟩
  rw [← Go.Deep.add_add] at hc
  exact hc
theorem Reads.lt (h : Reads w A xs) {j : Nat} {u : Value} (hu : xs[j]? = some u) : ∃ ad, A = some ad ∧ ad.block < w.heap.size := by
  obtain ⟨ad, rfl, hc⟩ := h j u hu
  refine ⟨ad, rfl, ?_⟩
  have := World.block_lt_of_cell? w _ hc
  rwa [blk_add] at this
theorem Reads.below (h : Reads w A xs) (hb : Below w.heap.size w w') : Reads w' A xs := by
  intro j u hu
  obtain ⟨ad, rfl, hc⟩ := h j u hu
  exact ⟨ad, rfl, (hb.cell (World.block_lt_of_cell? w _ hc)).trans hc⟩
theorem Reads.kept (h : Reads w A xs) {row : Option Nat} (k : w.grownBy w' row) (hr : ∀ ad, A = some ad → some ad.block ≠ row) : Reads w' A xs := by
  intro j u hu
  obtain ⟨ad, rfl, hc⟩ := h j u hu
  refine ⟨ad, rfl, k.cell hc ?_⟩
  rw [blk_add]
  exact hr ad rfl
end

/-- An append of whatever lies there to read (nothing at all, too) onto a row of one's own. -/
theorem run_append_reads {P : Program} (w : World) (base : Nat) (t ty e : TypeId) (i : TypeInfo) (z : Value) (size bytes : Nat) (ht : P.underlying t = some (.slice e)) (hi : P.info? e = some i) (hz : i.zero = some z)
    (hsize : i.size = size) (hby : i.bytes = bytes) (hzs : z.cells.size = size) (hsz : 0 < size)
    (v : Value) (n : Nat) (xs : List Value) (hown : w.ownsRow base e size v n xs)
    (A : Option Addr) (m c : Nat) (news : List Value) (hl : news.length = m * size) (hnews : Reads w A news) (h1 : ∀ u ∈ news, u.oneCell' = true)
    (h63 : n + m ≤ maxLen) (hbytes : (n + m) * bytes ≤ 140737488355328) (hbase : base ≤ w.heap.size) :
    ∃ v' w', (Builtin.append_ #[t, t] ty #[v, .slice A m c]).run P w = .ok v' w' ∧ w'.ownsRow base e size v' (n + m) (xs ++ news) ∧ w.grownBy w' v.ownBlock ∧ (v'.ownBlock = v.ownBlock ∨ v'.ownBlock = some w.heap.size) := by
  rcases A with _ | ad
  · have hm : m = 0 := by
      rcases Nat.eq_zero_or_pos m with h0 | h0
      · exact h0
      · exfalso
        have hp : 0 < news.length := by rw [hl]; exact Nat.mul_pos h0 hsz
        obtain ⟨ad, h, _⟩ := hnews 0 _ (List.getElem?_eq_getElem hp)
        cases h
    subst hm
    have hx : news = [] := List.eq_nil_of_length_eq_zero (by rw [hl, Nat.zero_mul])
    subst hx
    obtain ⟨B, cp, rfl⟩ := own_slice hown
    have hnc : n ≤ cp := by
      rcases hown.2 with ⟨hv, hn⟩ | ⟨g, cap, cur, hv, _, _, hc, _⟩
      · omega
      · cases hv; exact hc
    refine ⟨.slice B n cp, w, ?_, by simpa using hown, ⟨rfl, rfl, rfl, Nat.le_refl _, fun _ _ _ => rfl⟩, .inl rfl⟩
    exact run_append_nothing w t t ty e i ht hi B n cp hnc _ (Src.ofNil w ht c)
  · obtain ⟨v', w', hr, h2, h3, _, h5⟩ := run_append_own_at (P := P) w base t ty e i z size bytes ht hi hz hsize hby hzs hsz v n xs hown ad m c news hl (fun j u hu => by
      obtain ⟨ad', he, hc⟩ := hnews j u hu
      cases he
      exact hc) h1 h63 hbytes hbase
    exact ⟨v', w', hr, h2, h3, h5⟩

theorem wpList_append_reads {P : Program} {w : World} {ops : Array Oper} {rest : List Oper} {o : Oper} {a : Act} {Q : Exit → Act → World → Prop} (hgd : o.guard = none) (s x : Operand) (t : TypeId)
    (ho : o.op = .call { callee := .builtin .append, args := #[s, x], argTypes := #[t, t] })
    (base : Nat) (e : TypeId) (i : TypeInfo) (z : Value) (size bytes : Nat) (ht : P.underlying t = some (.slice e)) (hi : P.info? e = some i) (hz : i.zero = some z)
    (hsize : i.size = size) (hby : i.bytes = bytes) (hzs : z.cells.size = size) (hsz : 0 < size)
    (v : Value) (n : Nat) (xs : List Value) (hs : a.eval s = v) (hown : w.ownsRow base e size v n xs)
    (A : Option Addr) (m c : Nat) (news : List Value) (hx : a.eval x = .slice A m c) (hl : news.length = m * size) (hnews : Reads w A news) (h1 : ∀ u ∈ news, u.oneCell' = true)
    (h63 : n + m ≤ maxLen) (hbytes : (n + m) * bytes ≤ 140737488355328) (hbase : base ≤ w.heap.size)
    (h : ∀ v' w', w'.ownsRow base e size v' (n + m) (xs ++ news) → w.grownBy w' v.ownBlock → (v'.ownBlock = v.ownBlock ∨ v'.ownBlock = some w.heap.size) → wpList P ops Q rest (a.put o.dst v') w') : wpList P ops Q (o :: rest) a w := by
  refine wpList_plain hgd fun K hK => ?_
  obtain ⟨v', w', hr, h2, h3, h4⟩ := run_append_reads (P := P) w base t o.type e i z size bytes ht hi hz hsize hby hzs hsz v n xs hown A m c news hl hnews h1 h63 hbytes hbase
  unfold Oper.wp execOp
  simp only [ho, resolve, invoke, builtin, Sem.run_bind, Sem.run_pure, Result.andThen_ok, List.map_toArray, List.map_cons, List.map_nil, hs, hx, hr]
  exact hK _ _ (h v' w' h2 h3 h4)

/-- The same at a step of a region that draws its order. -/
theorem step_append_reads {P : Program} {w : World} {ops : Array Oper} {o : Oper} {a : Act} {K : Act → World → Prop} {Q : Exit → Act → World → Prop} {E : Prop} (hgd : o.guard = none) (s x : Operand) (t : TypeId)
    (ho : o.op = .call { callee := .builtin .append, args := #[s, x], argTypes := #[t, t] })
    (base : Nat) (e : TypeId) (i : TypeInfo) (z : Value) (size bytes : Nat) (ht : P.underlying t = some (.slice e)) (hi : P.info? e = some i) (hz : i.zero = some z)
    (hsize : i.size = size) (hby : i.bytes = bytes) (hzs : z.cells.size = size) (hsz : 0 < size)
    (v : Value) (n : Nat) (xs : List Value) (hs : a.eval s = v) (hown : w.ownsRow base e size v n xs)
    (A : Option Addr) (m c : Nat) (news : List Value) (hx : a.eval x = .slice A m c) (hl : news.length = m * size) (hnews : Reads w A news) (h1 : ∀ u ∈ news, u.oneCell' = true)
    (h63 : n + m ≤ maxLen) (hbytes : (n + m) * bytes ≤ 140737488355328) (hbase : base ≤ w.heap.size)
    (h : ∀ v' w', w'.ownsRow base e size v' (n + m) (xs ++ news) → w.grownBy w' v.ownBlock → (v'.ownBlock = v.ownBlock ∨ v'.ownBlock = some w.heap.size) → K (a.put o.dst v') w') :
    if Region.wanted o (yielded ops a.tmps) = true then Oper.wp P o a w K Q else E := by
  have hw : Region.wanted o (yielded ops a.tmps) = true := by simp [Region.wanted, hgd]
  rw [if_pos hw]
  obtain ⟨v', w', hr, h2, h3, h4⟩ := run_append_reads (P := P) w base t o.type e i z size bytes ht hi hz hsize hby hzs hsz v n xs hown A m c news hl hnews h1 h63 hbytes hbase
  unfold Oper.wp execOp
  simp only [ho, resolve, invoke, builtin, Sem.run_bind, Sem.run_pure, Result.andThen_ok, List.map_toArray, List.map_cons, List.map_nil, hs, hx, hr]
  exact h v' w' h2 h3 h4
end Go.Proofs.Ytgcnappgecdldaa.K
