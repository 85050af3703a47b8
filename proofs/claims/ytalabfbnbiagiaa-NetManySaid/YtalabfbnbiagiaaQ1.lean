/-
  The document's net in memory; is, gone, part, join.
-/
import Derived.Test.YtalabfbnbiagiaaApartL
import Derived.Deep.DeepCutAuto
set_option linter.unusedVariables false
set_option linter.unusedSimpArgs false
namespace Go.Proofs.Ytalabfbnbiagiaa.C
open Go.RowKit Go.Proofs.Ytalabfbnbiagiaa.K

def closedOf (N : NS) (c : Nat) : Bool := match N.cs c with | none => false | some C => C.closed
def cutOf (N : NS) (c : Nat) : Bool := match N.cs c with | none => false | some C => C.cut
/-- A connection's cells: whether it is there, closed, cut; its rows. -/
def lC (N : NS) (vv : Nat → Nat → Value) : Nat → Value := fun k =>
  if k % 7 = 0 then .bool (N.cs (k / 7)).isSome else if k % 7 = 1 then .bool (closedOf N (k / 7)) else if k % 7 = 2 then .bool (cutOf N (k / 7)) else vv (k / 7) (k % 7 - 3)
theorem lC0 (N : NS) (vv : Nat → Nat → Value) (c : Nat) : lC N vv (c * 7) = .bool (N.cs c).isSome := by
  unfold lC; rw [if_pos (by omega), show c * 7 / 7 = c by omega]
theorem lC1 (N : NS) (vv : Nat → Nat → Value) (c : Nat) : lC N vv (c * 7 + 1) = .bool (closedOf N c) := by
  unfold lC; rw [if_neg (by omega), if_pos (by omega), show (c * 7 + 1) / 7 = c by omega]
theorem lC2 (N : NS) (vv : Nat → Nat → Value) (c : Nat) : lC N vv (c * 7 + 2) = .bool (cutOf N c) := by
  unfold lC; rw [if_neg (by omega), if_neg (by omega), if_pos (by omega), show (c * 7 + 2) / 7 = c by omega]
theorem lCv (N : NS) (vv : Nat → Nat → Value) (c j : Nat) (hj : j < 4) : lC N vv (c * 7 + (3 + j)) = vv c j := by
  unfold lC; rw [if_neg (by omega), if_neg (by omega), if_neg (by omega), show (c * 7 + (3 + j)) / 7 = c by omega, show (c * 7 + (3 + j)) % 7 - 3 = j by omega]

structure RefIn (w : World) (σ : Nat → Nat) (t g : Nat) (N : NS) (gl : Nat) (vv : Nat → Nat → Value) : Prop where
  good : Good N
  blk : MBlk w σ t g 88 #[.int .i64 N.i, .int .i64 N.o, .slice (some ⟨gl, 0, none⟩) 65 65, .int .i64 N.mv]
  row : w.rowIs gl 104 455 (lC N vv)
  tl : σ gl = t + 2
  way : ∀ c C, N.cs c = some C → Row w σ (t + 1) 5 1 (vv c 0) C.way.length (bs C.way)
  inb : ∀ c C, N.cs c = some C → Row w σ (t + 1) 5 1 (vv c 1) C.inb.length (bs C.inb)
  out : ∀ c C, N.cs c = some C → Row w σ (t + 1) 5 1 (vv c 2) C.out.length (bs C.out)
  heard : ∀ c C, N.cs c = some C → Row w σ (t + 1) 5 1 (vv c 3) C.heard.length (bs C.heard)
  nils : ∀ c, N.cs c = none → ∀ j, vv c j = .slice none 0 0
def RefAt (w : World) (σ : Nat → Nat) (t g : Nat) (N : NS) : Prop := ∃ gl vv, RefIn w σ t g N gl vv
/-- The marks of the document's net. -/
def Od (t : Nat) : Nat → Prop := fun x => t ≤ x ∧ x < t + 3
section
variable {w w' : World} {σ σ' : Nat → Nat} {t g : Nat} {N : NS} {gl : Nat} {vv : Nat → Nat → Value} {S : Nat → Prop}
theorem rowc {b : Nat} {ty : TypeId} {n : Nat} {f : Nat → Value} (h : w.rowIs b ty n f) (c : Chg S σ w σ' w') (hs : ¬ S (σ b)) : w'.rowIs b ty n f := h.of_block (c.block b h.lt hs)
theorem RefIn.chg (h : RefIn w σ t g N gl vv) (c : Chg S σ w σ' w') (hs : ∀ x, Od t x → ¬ S x) : RefIn w' σ' t g N gl vv :=
  ⟨h.good, h.blk.chg c (hs _ ⟨by omega, by omega⟩), rowc h.row c (by rw [h.tl]; exact hs _ ⟨by omega, by omega⟩), (c.marks _ h.row.lt).trans h.tl,
    fun d C hd => (h.way d C hd).chg c (hs _ ⟨by omega, by omega⟩), fun d C hd => (h.inb d C hd).chg c (hs _ ⟨by omega, by omega⟩), fun d C hd => (h.out d C hd).chg c (hs _ ⟨by omega, by omega⟩), fun d C hd => (h.heard d C hd).chg c (hs _ ⟨by omega, by omega⟩), h.nils⟩
theorem RefIn.below (h : RefIn w σ t g N gl vv) (hb : Below w.heap.size w w') : RefIn w' σ t g N gl vv := h.chg (Chg.of_below (fun _ => False) σ hb) (fun _ _ h => h)
theorem RefIn.upd (h : RefIn w σ t g N gl vv) {n : Nat} (hn : w.heap.size ≤ n) (x : Nat) : RefIn w (K.upd σ n x) t g N gl vv := h.chg ((Chg.refl (fun _ => False) σ w).upd hn x) (fun _ _ h => h)
theorem RefAt.chg (h : RefAt w σ t g N) (c : Chg S σ w σ' w') (hs : ∀ x, Od t x → ¬ S x) : RefAt w' σ' t g N := by
  obtain ⟨gl, vv, h⟩ := h
  exact ⟨gl, vv, h.chg c hs⟩
theorem RefAt.below (h : RefAt w σ t g N) (hb : Below w.heap.size w w') : RefAt w' σ t g N := h.chg (Chg.of_below (fun _ => False) σ hb) (fun _ _ h => h)
theorem RefAt.upd (h : RefAt w σ t g N) {n : Nat} (hn : w.heap.size ≤ n) (x : Nat) : RefAt w (K.upd σ n x) t g N := h.chg ((Chg.refl (fun _ => False) σ w).upd hn x) (fun _ _ h => h)
theorem RefIn.c0 (h : RefIn w σ t g N gl vv) : w.cell? ⟨g, 0, none⟩ = some (.int .i64 N.i) := by rw [h.blk.1.cell]; rfl
theorem RefIn.c1 (h : RefIn w σ t g N gl vv) : w.cell? ⟨g, 1, none⟩ = some (.int .i64 N.o) := by rw [h.blk.1.cell]; rfl
theorem RefIn.c2 (h : RefIn w σ t g N gl vv) : w.cell? ⟨g, 2, none⟩ = some (.slice (some ⟨gl, 0, none⟩) 65 65) := by rw [h.blk.1.cell]; rfl
theorem RefIn.c3 (h : RefIn w σ t g N gl vv) : w.cell? ⟨g, 3, none⟩ = some (.int .i64 N.mv) := by rw [h.blk.1.cell]; rfl
theorem RefIn.l0 (h : RefIn w σ t g N gl vv) {c : Nat} (hc : c < 65) : w.cell? ⟨gl, c * 7, none⟩ = some (.bool (N.cs c).isSome) := by rw [h.row.cell (by omega), lC0]
theorem RefIn.l1 (h : RefIn w σ t g N gl vv) {c : Nat} (hc : c < 65) : w.cell? ⟨gl, c * 7 + 1, none⟩ = some (.bool (closedOf N c)) := by rw [h.row.cell (by omega), lC1]
theorem RefIn.l2 (h : RefIn w σ t g N gl vv) {c : Nat} (hc : c < 65) : w.cell? ⟨gl, c * 7 + 2, none⟩ = some (.bool (cutOf N c)) := by rw [h.row.cell (by omega), lC2]
theorem RefIn.lv (h : RefIn w σ t g N gl vv) {c : Nat} (hc : c < 65) (j : Nat) (hj : j < 4) : w.cell? ⟨gl, c * 7 + (3 + j), none⟩ = some (vv c j) := by rw [h.row.cell (by omega), lCv _ _ _ _ hj]
/-- Of each connection, there or not, the rows are slices. -/
theorem RefIn.vs (h : RefIn w σ t g N gl vv) (c j : Nat) (hj : j < 4) : ∃ A n cp, vv c j = .slice A n cp ∧ n ≤ cp := by
  rcases hN : N.cs c with _ | C
  · exact ⟨none, 0, 0, h.nils c hN j, Nat.le_refl _⟩
  · have key : ∀ {v : Value} {n : Nat} {xs : List Value}, Row w σ (t + 1) 5 1 v n xs → ∃ A n cp, v = .slice A n cp ∧ n ≤ cp := fun h => by
      obtain ⟨A, cp, rfl⟩ := h.slice
      exact ⟨A, _, cp, rfl, own_cap h.1⟩
    rcases j with _ | _ | _ | _ | j
    · exact key (h.way c C hN)
    · exact key (h.inb c C hN)
    · exact key (h.out c C hN)
    · exact key (h.heard c C hN)
    · omega
end

theorem q_is (w : World) (c : Int) : Calls Try.prog 61 #[.int .i64 c] w fun e w' => e = .returned (.bool (decide (1 ≤ c ∧ c ≤ 64))) ∧ w = w' := by
  by_cases h1 : 1 ≤ c
  · by_cases h2 : c ≤ 64
    · rw [show decide (1 ≤ c ∧ c ≤ 64) = true by simp [h1, h2]]
      go_enter Try.func61, Try.ntmps61
      go_wp2
      go_ret
      exact ⟨rfl, rfl⟩
    · rw [show decide (1 ≤ c ∧ c ≤ 64) = false by simp; omega]
      go_enter Try.func61, Try.ntmps61
      go_wp2
      go_ret
      exact ⟨rfl, rfl⟩
  · rw [show decide (1 ≤ c ∧ c ≤ 64) = false by simp; omega]
    go_enter Try.func61, Try.ntmps61
    go_wp2
    go_ret
    exact ⟨rfl, rfl⟩
theorem q_part (w : World) (a b c : Int) : Calls Try.prog 64 #[.int .i64 a, .int .i64 b, .int .i64 c] w fun e w' => e = .returned (.int .i64 (max 0 (min (min a b) c))) ∧ w = w' := by
  by_cases h1 : b < a
  · by_cases h2 : c < b
    · by_cases h3 : c < 0
      · rw [show max 0 (min (min a b) c) = 0 by omega]
        go_enter Try.func64, Try.ntmps64
        go_wp2
        go_ret
        exact ⟨rfl, rfl⟩
      · rw [show max 0 (min (min a b) c) = c by omega]
        go_enter Try.func64, Try.ntmps64
        go_wp2
        go_ret
        exact ⟨rfl, rfl⟩
    · by_cases h3 : b < 0
      · rw [show max 0 (min (min a b) c) = 0 by omega]
        go_enter Try.func64, Try.ntmps64
        go_wp2
        go_ret
        exact ⟨rfl, rfl⟩
      · rw [show max 0 (min (min a b) c) = b by omega]
        go_enter Try.func64, Try.ntmps64
        go_wp2
        go_ret
        exact ⟨rfl, rfl⟩
  · by_cases h2 : c < a
    · by_cases h3 : c < 0
      · rw [show max 0 (min (min a b) c) = 0 by omega]
        go_enter Try.func64, Try.ntmps64
        go_wp2
        go_ret
        exact ⟨rfl, rfl⟩
      · rw [show max 0 (min (min a b) c) = c by omega]
        go_enter Try.func64, Try.ntmps64
        go_wp2
        go_ret
        exact ⟨rfl, rfl⟩
    · by_cases h3 : a < 0
      · rw [show max 0 (min (min a b) c) = 0 by omega]
        go_enter Try.func64, Try.ntmps64
        go_wp2
        go_ret
        exact ⟨rfl, rfl⟩
      · rw [show max 0 (min (min a b) c) = a by omega]
        go_enter Try.func64, Try.ntmps64
        go_wp2
        go_ret
        exact ⟨rfl, rfl⟩
theorem q_join (w : World) (A : Option Addr) (n c : Nat) (L : List Int) (hL : L.length = n) (hr : Reads w A (bs L)) (B : Option Addr) (m d : Nat) (M : List Int) (hM : M.length = m) (hr2 : Reads w B (bs M)) (hnm : n + m ≤ 1099511627776) :
    Calls Try.prog 63 #[.slice A n c, .slice B m d] w fun e w' => ∃ u, e = .returned u ∧ w'.ownsRow w.heap.size 5 1 u (n + m) (bs (L ++ M)) ∧ Below w.heap.size w w' := by
  obtain ⟨i1, hi1, hy0, hy1, hy2⟩ := info_parts info5'
  have Hr2 := Lib.hid hr2
  clear hr2
  go_enter Try.func63, Try.ntmps63
  go_wp2_with (at_builtin; refine wpList_append_reads (by rfl) _ _ 29 (by rfl) w.heap.size 5 i1 _ 1 1 Try.underlying29 hi1 hy0 hy1 hy2 rfl (by omega) (.slice none 0 0) 0 [] (by rfl) (World.ownsRow_nil _ _ _ _) A n c (bs L) (by rfl) ?c1 hr (bs_one L) ?c4 ?c5 (Nat.le_refl _) ?_)
  case c1 => rw [bs_length, hL, Nat.mul_one]
  case c4 => unfold maxLen; omega
  case c5 => omega
  intro v' w1 hown hgrow hat
  try rw [Nat.zero_add] at hown
  try rw [List.nil_append] at hown
  obtain ⟨A1, c1, rfl⟩ := own_slice hown
  have hb1 : Below w.heap.size w w1 := (Below.refl _ _).grown hgrow (Nat.le_refl _) (by intro x e; cases e)
  have H1 := Lib.hid (And.intro hown hb1)
  clear hown hb1 hat hgrow hr
  go_wp2_with (at_builtin; refine wpList_append_reads (by rfl) _ _ 29 (by rfl) w.heap.size 5 i1 _ 1 1 Try.underlying29 hi1 hy0 hy1 hy2 rfl (by omega) (.slice A1 n c1) n (bs L) (by rfl) H1.out.1 B m d (bs M) (by rfl) ?c1 (Hr2.out.below H1.out.2) (bs_one M) ?c4 ?c5 H1.out.2.size ?_)
  case c1 => rw [bs_length, hM, Nat.mul_one]
  case c4 => unfold maxLen; omega
  case c5 => omega
  intro v2 w2 hown2 hgrow2 hat2
  go_wp2
  go_ret
  exact ⟨v2, rfl, by rw [bs_append]; exact hown2, H1.out.2.grown hgrow2 H1.out.2.size (fun x e => (H1.out.1.lt x e).1)⟩
end Go.Proofs.Ytalabfbnbiagiaa.C
