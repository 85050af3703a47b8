/-
  Locks: a manager in memory; New, Waits.
-/
import Derived.Test.YtgcnappgecdldaaL3
set_option linter.unusedVariables false
set_option linter.unusedSimpArgs false
namespace Go.Proofs.Ytgcnappgecdldaa.C
open Go.RowKit Go.Proofs.Ytgcnappgecdldaa.K Go.Maps

/-- A manager: how many locks; the claims that have theirs; those that wait. -/
structure Mgr where
  m : Int
  has : List Clm
  queue : List Clm
def cvs (l : List Clm) : List Value := l.flatMap fun c => [.int .i64 c.task, .map (some c.blk)]
theorem cvs_length (l : List Clm) : (cvs l).length = l.length * 2 := by
  induction l with
  | nil => rfl
  | cons c r ih =>
    show (([.int .i64 c.task, .map (some c.blk)] : List Value) ++ cvs r).length = _
    rw [List.length_append, ih]
    show 2 + r.length * 2 = (r.length + 1) * 2
    omega
theorem cvs_append (l r : List Clm) : cvs (l ++ r) = cvs l ++ cvs r := List.flatMap_append
theorem cvs_one (l : List Clm) : ∀ u ∈ cvs l, u.oneCell' = true := by
  intro u hu
  unfold cvs at hu
  rw [List.mem_flatMap] at hu
  obtain ⟨c, _, h⟩ := hu
  simp at h
  rcases h with rfl | rfl <;> rfl
theorem cvs_at (l : List Clm) : ∀ i (h : i < l.length), (cvs l)[i * 2]? = some (.int .i64 l[i].task) ∧ (cvs l)[i * 2 + 1]? = some (.map (some l[i].blk)) := by
  induction l with
  | nil => intro i h; simp at h
  | cons c l ih =>
    intro i h
    have e : cvs (c :: l) = .int .i64 c.task :: .map (some c.blk) :: cvs l := rfl
    rcases i with _ | i
    · rw [e]; exact ⟨rfl, rfl⟩
    · have hl : i < l.length := by simpa using h
      obtain ⟨h0, h1⟩ := ih i hl
      rw [e, show (i + 1) * 2 = i * 2 + 1 + 1 by omega, show i * 2 + 1 + 1 + 1 = (i * 2 + 1) + 1 + 1 by omega]
      simp only [List.getElem?_cons_succ, List.getElem_cons_succ]
      exact ⟨h0, h1⟩
theorem SetAt.chg {w w' : World} {σ σ' : Nat → Nat} {S : Nat → Prop} {b : Nat} {D : Dt} (h : SetAt w b D) (c : Chg S σ w σ' w') (hs : ¬ S (σ b)) : SetAt w' b D := by
  obtain ⟨n, hn, es, clock, hb, r⟩ := h.own
  exact ⟨⟨n, hn, es, clock, (c.block b h.lt hs).trans hb, r⟩, h.pos⟩

structure MgrIn (w : World) (σ : Nat → Nat) (t g : Nat) (M : Mgr) (vh vq : Value) : Prop where
  blk : MBlk w σ t g 77 #[.int .i64 M.m, vh, vq]
  has : Row w σ (t + 1) 86 2 vh M.has.length (cvs M.has)
  queue : Row w σ (t + 2) 86 2 vq M.queue.length (cvs M.queue)
  sets : ∀ c, c ∈ M.has ∨ c ∈ M.queue → SetAt w c.blk c.set ∧ σ c.blk = t + 3
  m1 : 1 ≤ M.m
  m2 : M.m ≤ 1024
  hl : M.has.length ≤ 100000
  ql : M.queue.length ≤ 100000
def MgrAt (w : World) (σ : Nat → Nat) (t g : Nat) (M : Mgr) : Prop := ∃ vh vq, MgrIn w σ t g M vh vq
/-- The marks of a manager. -/
def Om (t : Nat) : Nat → Prop := fun x => t ≤ x ∧ x < t + 4
section
variable {w w' : World} {σ σ' : Nat → Nat} {t g : Nat} {M : Mgr} {vh vq : Value} {S : Nat → Prop}
theorem MgrIn.chg (h : MgrIn w σ t g M vh vq) (c : Chg S σ w σ' w') (hs : ∀ x, Om t x → ¬ S x) : MgrIn w' σ' t g M vh vq :=
  ⟨h.blk.chg c (hs _ ⟨by omega, by omega⟩), h.has.chg c (hs _ ⟨by omega, by omega⟩), h.queue.chg c (hs _ ⟨by omega, by omega⟩), fun d hd => by
    obtain ⟨h1, h2⟩ := h.sets d hd
    exact ⟨h1.chg c (by rw [h2]; exact hs _ ⟨by omega, by omega⟩), (c.marks _ h1.lt).trans h2⟩, h.m1, h.m2, h.hl, h.ql⟩
theorem MgrIn.below (h : MgrIn w σ t g M vh vq) (hb : Below w.heap.size w w') : MgrIn w' σ t g M vh vq := h.chg (Chg.of_below (fun _ => False) σ hb) (fun _ _ h => h)
theorem MgrIn.upd (h : MgrIn w σ t g M vh vq) {n : Nat} (hn : w.heap.size ≤ n) (x : Nat) : MgrIn w (K.upd σ n x) t g M vh vq := h.chg ((Chg.refl (fun _ => False) σ w).upd hn x) (fun _ _ h => h)
theorem MgrAt.chg (h : MgrAt w σ t g M) (c : Chg S σ w σ' w') (hs : ∀ x, Om t x → ¬ S x) : MgrAt w' σ' t g M := by
  obtain ⟨a, b, h⟩ := h
  exact ⟨a, b, h.chg c hs⟩
theorem MgrAt.below (h : MgrAt w σ t g M) (hb : Below w.heap.size w w') : MgrAt w' σ t g M := h.chg (Chg.of_below (fun _ => False) σ hb) (fun _ _ h => h)
/-- Claims in a row of one's own can be read. -/
theorem row_claims {tt n cp : Nat} {A : Option Addr} {l : List Clm} (h : Row w σ tt 86 2 (.slice A n cp) l.length (cvs l)) (hs : ∀ c ∈ l, SetAt w c.blk c.set) : ClmsAt w A l := by
  refine ⟨fun h0 => ?_, hs⟩
  obtain ⟨g, cap, e, _, hg⟩ := own_form h.1 h0
  cases e
  refine ⟨g, 0, rfl, hg, fun i hi => ?_⟩
  obtain ⟨c0, c1⟩ := cvs_at l i hi
  rw [Nat.zero_add]
  exact ⟨(World.ownsRow.cellAt h.1 (i * 2) (by omega)).trans c0, (World.ownsRow.cellAt h.1 (i * 2 + 1) (by omega)).trans c1⟩
theorem MgrIn.c0 (h : MgrIn w σ t g M vh vq) : w.cell? ⟨g, 0, none⟩ = some (.int .i64 M.m) := by rw [h.blk.1.cell]; rfl
theorem MgrIn.c1 (h : MgrIn w σ t g M vh vq) : w.cell? ⟨g, 1, none⟩ = some vh := by rw [h.blk.1.cell]; rfl
theorem MgrIn.c2 (h : MgrIn w σ t g M vh vq) : w.cell? ⟨g, 2, none⟩ = some vq := by rw [h.blk.1.cell]; rfl
end

set_option maxRecDepth 100000 in
theorem new_mgr (w : World) (m : Int) (h1 : 1 ≤ m) (h2 : m ≤ 1024) (σ : Nat → Nat) (t : Nat) :
    Calls Try.prog 13 #[.int .i64 m] w fun e w' => ∃ g, e = .returned (.tuple #[.pointer (some ⟨g, 0, none⟩), .int .i64 0]) ∧ w.heap.size ≤ g ∧ MgrAt w' (K.upd σ w.heap.size t) t g ⟨m, [], []⟩ ∧ Below w.heap.size w w' := by
  have e1 : ¬ m < 1 := by omega
  have e2 : ¬ (1024 : Int) < m := by omega
  go_enter Try.func13, Try.ntmps13
  go_wp2
  go_ret2
  refine ⟨w.heap.size, rfl, Nat.le_refl _, ⟨.slice none 0 0, .slice none 0 0, ⟨?_, upd_new (Nat.le_refl _)⟩, Row.nil _ _ _ _ _, Row.nil _ _ _ _ _, fun c hc => by simp at hc, h1, h2, Nat.zero_le _, Nat.zero_le _⟩, (Below.refl _ _).alloc (Nat.le_refl _) _⟩
  exact Blk.new w 77 #[.int .i64 m, .slice none 0 0, .slice none 0 0]

set_option maxRecDepth 100000 in
theorem waits_c (w : World) (σ : Nat → Nat) (t g : Nat) (M : Mgr) (h : MgrAt w σ t g M) (task : Int) :
    Calls Try.prog 33 #[.pointer (some ⟨g, 0, none⟩), .int .i64 task] w fun e w' => e = .returned (.bool (M.queue.any (fun c => c.task == task))) ∧ Below w.heap.size w w' := by
  obtain ⟨vh, vq, h⟩ := h
  obtain ⟨Aq, cq, rfl⟩ := h.queue.slice
  obtain ⟨i, hi⟩ : ∃ i, place M.queue (fun c => c.task == task) = i := ⟨_, rfl⟩
  have hf := find_c w Aq M.queue.length cq M.queue rfl (by have := h.ql; omega) (row_claims h.queue (fun c hc => (h.sets c (.inr hc)).1)) task i hi
  have hd := place_any M.queue (fun c => c.task == task)
  rw [hi] at hd
  have c2 := h.c2
  have Hf := Lib.hid hf
  rw [← hd]
  clear h hf hd hi
  generalize M.queue.length = n at c2 Hf
  go_enter Try.func33, Try.ntmps33
  go_wp2_with fail
  refine Hf.out.mono ?_
  rintro e w2 ⟨rfl, hb2⟩
  go_wp2
  go_ret
  exact ⟨by first | rfl | simp, hb2⟩
end Go.Proofs.Ytgcnappgecdldaa.C
