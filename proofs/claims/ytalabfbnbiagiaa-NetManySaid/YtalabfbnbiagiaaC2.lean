/-
  A net in memory: what it holds; get and live.
-/
import Derived.Test.YtalabfbnbiagiaaC1
set_option linter.unusedVariables false
set_option linter.unusedSimpArgs false
namespace Go.Proofs.Ytalabfbnbiagiaa.C
open Go.RowKit Go.Proofs.Ytalabfbnbiagiaa.K

/-- A connection: what is on its way, in its buffers, heard. -/
structure Cn where
  way : List Int
  inb : List Int
  out : List Int
  heard : List Int
  closed : Bool
  cut : Bool
/-- A net. -/
structure NS where
  i : Int
  o : Int
  cs : Nat → Option Cn
  mv : Int

def ptr (ks : Nat → Nat) (cs : Nat → Option Cn) (c : Nat) : Value := .pointer (if (cs c).isSome then some ⟨ks c, 0, none⟩ else none)
def netCells (N : NS) (ks : Nat → Nat) : List Value := .int .i64 N.i :: .int .i64 N.o :: ((List.range 65).map (ptr ks N.cs) ++ [.int .i64 N.mv])
def cnCells (v0 v1 v2 v3 : Value) (i o : Int) (a b : Bool) : Array Value := #[v0, .int .i64 (-1), v1, .int .i64 i, v2, .int .i64 o, v3, .bool a, .bool b]

structure CnAt (w : World) (σ : Nat → Nat) (t k : Nat) (i o : Int) (C : Cn) (v0 v1 v2 v3 : Value) : Prop where
  blk : MBlk w σ (t + 4) k 81 (cnCells v0 v1 v2 v3 i o C.closed C.cut)
  way : Row w σ t 5 1 v0 C.way.length (bs C.way)
  inb : Row w σ (t + 1) 5 1 v1 C.inb.length (bs C.inb)
  out : Row w σ (t + 2) 5 1 v2 C.out.length (bs C.out)
  heard : Row w σ (t + 3) 5 1 v3 C.heard.length (bs C.heard)

structure Good (N : NS) : Prop where
  i1 : 1 ≤ N.i
  i2 : N.i ≤ 131072
  o1 : 1 ≤ N.o
  o2 : N.o ≤ 131072
  m0 : 0 ≤ N.mv
  is : ∀ c C, N.cs c = some C → 1 ≤ c ∧ c ≤ 64
  way : ∀ c C, N.cs c = some C → C.way.length ≤ 1048576
  inb : ∀ c C, N.cs c = some C → (C.inb.length : Int) ≤ N.i
  out : ∀ c C, N.cs c = some C → (C.out.length : Int) ≤ N.o
  heard : ∀ c C, N.cs c = some C → (C.heard.length : Int) ≤ N.mv

structure NetIn (w : World) (σ : Nat → Nat) (t g : Nat) (N : NS) (ks : Nat → Nat) : Prop where
  good : Good N
  blk : MBlk w σ (t + 4) g 73 (netCells N ks).toArray
  conns : ∀ c C, N.cs c = some C → ∃ v0 v1 v2 v3, CnAt w σ (t + 5 * c) (ks c) N.i N.o C v0 v1 v2 v3
def NetAt (w : World) (σ : Nat → Nat) (t g : Nat) (N : NS) : Prop := ∃ ks, NetIn w σ t g N ks

/-- The marks of a net. -/
def Of (t : Nat) : Nat → Prop := fun x => t ≤ x ∧ x < t + 330

section
variable {w w' : World} {σ σ' : Nat → Nat} {t k g : Nat} {i o : Int} {C : Cn} {N : NS} {ks : Nat → Nat} {S : Nat → Prop} {v0 v1 v2 v3 : Value}
theorem CnAt.chg (h : CnAt w σ t k i o C v0 v1 v2 v3) (c : Chg S σ w σ' w') (hs : ∀ j, j < 5 → ¬ S (t + j)) : CnAt w' σ' t k i o C v0 v1 v2 v3 :=
  ⟨h.blk.chg c (hs 4 (by omega)), h.way.chg c (hs 0 (by omega)), h.inb.chg c (hs 1 (by omega)), h.out.chg c (hs 2 (by omega)), h.heard.chg c (hs 3 (by omega))⟩
theorem NetIn.chg (h : NetIn w σ t g N ks) (c : Chg S σ w σ' w') (hs : ∀ x, Of t x → ¬ S x) : NetIn w' σ' t g N ks := by
  refine ⟨h.good, h.blk.chg c (hs _ ⟨by omega, by omega⟩), fun d C hd => ?_⟩
  obtain ⟨v0, v1, v2, v3, hc⟩ := h.conns d C hd
  have := h.good.is d C hd
  exact ⟨v0, v1, v2, v3, hc.chg c fun j hj => hs _ ⟨by omega, by omega⟩⟩
theorem NetAt.chg (h : NetAt w σ t g N) (c : Chg S σ w σ' w') (hs : ∀ x, Of t x → ¬ S x) : NetAt w' σ' t g N := by
  obtain ⟨ks, h⟩ := h
  exact ⟨ks, h.chg c hs⟩
theorem NetAt.below (h : NetAt w σ t g N) (hb : Below w.heap.size w w') : NetAt w' σ t g N := h.chg (Chg.of_below (fun _ => False) σ hb) (fun _ _ h => h)
theorem NetAt.upd (h : NetAt w σ t g N) {n : Nat} (hn : w.heap.size ≤ n) (x : Nat) : NetAt w (upd σ n x) t g N := h.chg ((Chg.refl (fun _ => False) σ w).upd hn x) (fun _ _ h => h)

theorem tab_get (ks : Nat → Nat) (cs : Nat → Option Cn) (c : Nat) (hc : c < 65) : ((List.range 65).map (ptr ks cs))[c]? = some (ptr ks cs c) := by
  simp [hc]
theorem NetIn.cell0 (h : NetIn w σ t g N ks) : w.cell? ⟨g, 0, none⟩ = some (.int .i64 N.i) := by rw [h.blk.1.cell 0]; rfl
theorem NetIn.cell1 (h : NetIn w σ t g N ks) : w.cell? ⟨g, 1, none⟩ = some (.int .i64 N.o) := by rw [h.blk.1.cell 1]; rfl
theorem NetIn.cellc (h : NetIn w σ t g N ks) (c : Nat) (hc : c < 65) : w.cell? ⟨g, 2 + c, none⟩ = some (ptr ks N.cs c) := by
  rw [h.blk.1.cell]
  simp only [netCells, List.getElem?_toArray]
  rw [show 2 + c = c + 1 + 1 by omega, List.getElem?_cons_succ, List.getElem?_cons_succ, List.getElem?_append_left (by simp; omega), tab_get ks N.cs c hc]
theorem NetIn.cellm (h : NetIn w σ t g N ks) : w.cell? ⟨g, 67, none⟩ = some (.int .i64 N.mv) := by
  rw [h.blk.1.cell]
  simp only [netCells, List.getElem?_toArray]
  rw [List.getElem?_cons_succ, List.getElem?_cons_succ, List.getElem?_append_right (by simp)]
  simp
end

/-- What a call of a connection answers that may not be. -/
def err (N : NS) (c : Int) (use : Bool) : Int :=
  if c < 1 ∨ 64 < c then 1 else match N.cs c.toNat with
    | none => 44
    | some C => if use && (C.cut || C.closed) then 44 else 0

theorem get_c (w : World) (σ : Nat → Nat) (t g : Nat) (N : NS) (ks : Nat → Nat) (h : NetIn w σ t g N ks) (c : Int) (hw : (Lit.int .i64 c).wf = true) (r : Int) (hr : err N c false = r) (p : Option Addr) (hp : (if r = 0 then some (⟨ks c.toNat, 0, none⟩ : Addr) else none) = p) :
    Calls Try.prog 37 #[.pointer (some ⟨g, 0, none⟩), .int .i64 c] w fun e w' => e = .returned (.tuple #[.pointer p, .int .i64 r]) ∧ w = w' := by
  by_cases hb : c < 1 ∨ 64 < c
  · obtain rfl : r = 1 := by rw [← hr]; simp [err, hb]
    obtain rfl : p = none := by rw [← hp]; simp
    rcases hb with hb | hb
    · go_enter Try.func37, Try.ntmps37
      go_wp2
      go_ret2
      exact ⟨rfl, rfl⟩
    · have hb1 : ¬ c < 1 := by omega
      go_enter Try.func37, Try.ntmps37
      go_wp2
      go_ret2
      exact ⟨rfl, rfl⟩
  · obtain ⟨d, rfl⟩ := Int.eq_ofNat_of_zero_le (show 0 ≤ c by omega)
    have h1 : ¬ (d : Int) < 1 := by omega
    have h2 : ¬ (64 : Int) < (d : Int) := by omega
    have h3 : (d : Int) < 65 := by omega
    have h4 : (0 : Int) ≤ (d : Int) := by omega
    have hcell := h.cellc d (by omega)
    have er : r = match N.cs d with | none => 44 | some C => 0 := by
      rw [← hr]
      unfold err
      rw [if_neg hb]
      simp only [Int.toNat_natCast]
      cases N.cs d <;> simp
    unfold ptr at hcell
    rcases hN : N.cs d with _ | C
    · rw [hN] at er hcell
      simp only at er
      subst er
      obtain rfl : p = none := by rw [← hp]; simp
      simp only [Option.isSome_none, Bool.false_eq_true, if_false] at hcell
      clear hw hr hp hb
      go_enter Try.func37, Try.ntmps37
      go_wp2
      go_ret2
      exact ⟨rfl, rfl⟩
    · rw [hN] at er hcell
      simp only at er
      subst er
      obtain rfl : p = some ⟨ks d, 0, none⟩ := by rw [← hp]; simp
      simp only [Option.isSome_some, if_true] at hcell
      clear hw hr hp hb
      go_enter Try.func37, Try.ntmps37
      go_wp2
      go_ret2
      exact ⟨rfl, rfl⟩

set_option maxRecDepth 100000 in
theorem live_c (w : World) (σ : Nat → Nat) (t g : Nat) (N : NS) (ks : Nat → Nat) (h : NetIn w σ t g N ks) (c : Int) (hw : (Lit.int .i64 c).wf = true) (r : Int) (hr : err N c true = r) (p : Option Addr) (hp : (if r = 0 then some (⟨ks c.toNat, 0, none⟩ : Addr) else none) = p) :
    Calls Try.prog 38 #[.pointer (some ⟨g, 0, none⟩), .int .i64 c] w fun e w' => e = .returned (.tuple #[.pointer p, .int .i64 r]) ∧ w = w' := by
  by_cases he : err N c false = 0
  · have hc : ¬ (c < 1 ∨ 64 < c) := by intro hc; simp [err, hc] at he
    obtain ⟨C, hC⟩ : ∃ C, N.cs c.toNat = some C := by
      rcases hN : N.cs c.toNat with _ | C
      · simp [err, hc, hN] at he
      · exact ⟨C, rfl⟩
    obtain ⟨v0, v1, v2, v3, hcn⟩ := h.conns _ C hC
    have e3 : w.cell? ⟨ks c.toNat, 7, none⟩ = some (.bool C.closed) := by rw [hcn.blk.1.cell]; rfl
    have e4 : w.cell? ⟨ks c.toNat, 8, none⟩ = some (.bool C.cut) := by rw [hcn.blk.1.cell]; rfl
    have er : r = if C.cut || C.closed then 44 else 0 := by
      rw [← hr]; simp [err, hc, hC]
    have hg := get_c w σ t g N ks h c hw 0 he _ rfl
    simp only [if_true] at hg
    generalize ks c.toNat = kb at *
    cases hx : C.cut <;> cases hy : C.closed <;> simp [hx, hy] at er <;> subst er <;> simp at hp <;> subst hp <;> rw [hx] at e4 <;> rw [hy] at e3 <;> clear hcn hr hx hy he
    all_goals
      go_enter Try.func38, Try.ntmps38
      go_wp2_with fail
      refine hg.mono ?_
      rintro e w1 ⟨rfl, rfl⟩
      go_wp2
      go_ret2
      exact ⟨rfl, rfl⟩
  · obtain ⟨r1, hr1⟩ : ∃ r1, err N c false = r1 := ⟨_, rfl⟩
    rw [hr1] at he
    have hrr : r = r1 := by
      rw [← hr, ← hr1]
      unfold err at *
      split
      · rfl
      · cases hN : N.cs c.toNat with
        | none => rfl
        | some C => exfalso; rw [if_neg (by assumption), hN] at hr1; simp at hr1; omega
    subst hrr
    rw [if_neg he] at hp
    subst hp
    have hg := get_c w σ t g N ks h c hw r hr1 _ (if_neg he)
    clear hr hr1
    go_enter Try.func38, Try.ntmps38
    go_wp2_with fail
    refine hg.mono ?_
    rintro e w1 ⟨rfl, rfl⟩
    go_wp2
    go_ret2
    exact ⟨rfl, rfl⟩
end Go.Proofs.Ytalabfbnbiagiaa.C
