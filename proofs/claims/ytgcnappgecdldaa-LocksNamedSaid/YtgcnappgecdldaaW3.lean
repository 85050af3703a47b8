/-
  Locks: LocksWide's list of asks in memory.
-/
import Derived.Test.YtgcnappgecdldaaW2
set_option linter.unusedVariables false
set_option linter.unusedSimpArgs false
namespace Go.Proofs.Ytgcnappgecdldaa.C
open Go.RowKit Go.Proofs.Ytgcnappgecdldaa.K Go.Maps

/-- A list of asks in memory: its row bears the mark 5, the rows of its sets the mark 6. -/
structure Rw (wr : World) (σ : Nat → Nat) (n : Nat) (al : List Ak) (v : Value) (m : Int) : Prop where
  len : al.length = n
  row : Row wr σ 5 35 3 v n (avs al)
  sets : ∀ a ∈ al, Row wr σ 6 32 2 a.v a.n (lks a.L) ∧ a.L.length = a.n ∧ a.n ≤ 1024
  low : ∀ a ∈ al, ∀ p ∈ a.L, 0 ≤ p.1 ∧ p.1 < m
section
variable {w w' wr : World} {σ σ' : Nat → Nat} {n g cap : Nat} {A : Option Addr} {al : List Ak} {v v' : Value} {m : Int} {S : Nat → Prop}
theorem Rw.chg (h : Rw w σ n al v m) (c : Chg S σ w σ' w') (h5 : ¬ S 5) (h6 : ¬ S 6) : Rw w' σ' n al v m :=
  ⟨h.len, h.row.chg c h5, fun a ha => ⟨(h.sets a ha).1.chg c h6, (h.sets a ha).2⟩, h.low⟩
theorem Rw.below (h : Rw w σ n al v m) (hb : Below w.heap.size w w') : Rw w' σ n al v m := h.chg (Chg.of_below (fun _ => False) σ hb) (fun h => h) (fun h => h)
theorem Rw.upd (h : Rw w σ n al v m) {k : Nat} (hn : w.heap.size ≤ k) (x : Nat) : Rw w (K.upd σ k x) n al v m := h.chg ((Chg.refl (fun _ => False) σ w).upd hn x) (fun h => h) (fun h => h)
theorem Rw.nil (w : World) (σ : Nat → Nat) (m : Int) : Rw w σ 0 [] (.slice none 0 0) m := ⟨rfl, Row.nil _ _ _ _ _, fun a ha => by simp at ha, fun a ha => by simp at ha⟩
theorem Rw.one (h : Rw w σ n al v m) : ∀ c ∈ al, c.v.oneCell' = true := fun c hc => by
  obtain ⟨A, k, e⟩ := (h.sets c hc).1.slice
  rw [e]
  rfl
theorem row_lks {t n c : Nat} {A : Option Addr} {L : List (Int × Bool)} (h : Row w σ t 32 2 (.slice A n c) n (lks L)) (hl : L.length = n) : LksAt w A L := by
  refine ⟨fun h0 => ?_⟩
  obtain ⟨g, cap, e, _, hg⟩ := own_form h.1 (by omega)
  cases e
  refine ⟨g, 0, rfl, hg, fun i hi => ?_⟩
  obtain ⟨c0, c1⟩ := lks_at L i hi
  rw [Nat.zero_add]
  exact ⟨(World.ownsRow.cellAt h.1 (i * 2) (by omega)).trans c0, (World.ownsRow.cellAt h.1 (i * 2 + 1) (by omega)).trans c1⟩
/-- One ask of the list, in memory. -/
theorem Rw.at_ (h : Rw w σ n al (.slice A n cap) m) (i : Nat) (hi : i < al.length) : ∃ g, A = some ⟨g, 0, none⟩ ∧ g < w.heap.size ∧ w.cell? ⟨g, i * 3, none⟩ = some (.int .i64 al[i].task) ∧ w.cell? ⟨g, i * 3 + 1, none⟩ = some al[i].v ∧ w.cell? ⟨g, i * 3 + 2, none⟩ = some (.bool al[i].yes) ∧
    (∃ B c, al[i].v = .slice B al[i].n c ∧ LksAt w B al[i].L ∧ Row w σ 6 32 2 (.slice B al[i].n c) al[i].n (lks al[i].L)) := by
  have hl := h.len
  obtain ⟨g, cap, e, _, hg⟩ := own_form h.row.1 (by omega)
  cases e
  obtain ⟨c0, c1, c2⟩ := avs_at al i hi
  obtain ⟨hr, he, _⟩ := h.sets al[i] (List.getElem_mem hi)
  obtain ⟨B, c, hv⟩ := hr.slice
  rw [hv] at hr
  exact ⟨g, rfl, hg, (World.ownsRow.cellAt h.row.1 (i * 3) (by omega)).trans c0, (World.ownsRow.cellAt h.row.1 (i * 3 + 1) (by omega)).trans c1, (World.ownsRow.cellAt h.row.1 (i * 3 + 2) (by omega)).trans c2, B, c, hv, row_lks hr he, hr⟩
theorem Rw.add (h : Rw w σ n al v m) (a : Ak) (hs : Row w σ 6 32 2 a.v a.n (lks a.L)) (hl : a.L.length = a.n) (hn : a.n ≤ 1024) (hlow : ∀ p ∈ a.L, 0 ≤ p.1 ∧ p.1 < m)
    (ho : w'.ownsRow 0 35 3 v' (n + 1) (avs al ++ [.int .i64 a.task, a.v, .bool a.yes])) (hg : w.grownBy w' v.ownBlock) (hat : v'.ownBlock = v.ownBlock ∨ v'.ownBlock = some w.heap.size) :
    Rw w' (K.upd σ w.heap.size 5) (n + 1) (al ++ [a]) v' m ∧ Chg (fun x => x = 5) σ w (K.upd σ w.heap.size 5) w' := by
  have cg := row_chgd h.row hg
  refine ⟨⟨by simp [h.len], ?_, fun b hb => ?_, fun b hb => ?_⟩, cg⟩
  · have := row_new h.row ho hat
    rw [avs_append]
    exact this
  · rcases List.mem_append.1 hb with hb | hb
    · exact ⟨(h.sets b hb).1.chg cg (by omega), (h.sets b hb).2⟩
    · simp at hb
      subst hb
      exact ⟨hs.chg cg (by omega), hl, hn⟩
  · rcases List.mem_append.1 hb with hb | hb
    · exact h.low b hb
    · simp at hb
      subst hb
      exact hlow
theorem avs_set (l : List Ak) : ∀ i (h : i < l.length), (avs l).set (i * 3 + 2) (.bool true) = avs (granted l i h) := by
  induction l with
  | nil => intro i h; simp at h
  | cons c r ih =>
    intro i h
    rcases i with _ | i
    · rfl
    · have hl : i < r.length := by simpa using h
      have e : granted (c :: r) (i + 1) h = c :: granted r i hl := rfl
      rw [e, avs_cons, avs_cons, show (i + 1) * 3 + 2 = (i * 3 + 2) + 1 + 1 + 1 by omega]
      simp only [List.set_cons_succ]
      rw [ih i hl]
theorem mem_granted {al : List Ak} {i : Nat} {hi : i < al.length} {a : Ak} (h : a ∈ granted al i hi) : ∃ b ∈ al, a.v = b.v ∧ a.n = b.n ∧ a.L = b.L := by
  rw [granted_split] at h
  rcases List.mem_append.1 h with h | h
  · exact ⟨a, List.mem_of_mem_take h, rfl, rfl, rfl⟩
  · rcases List.mem_cons.1 h with h | h
    · subst h; exact ⟨al[i], List.getElem_mem hi, rfl, rfl, rfl⟩
    · exact ⟨a, List.mem_of_mem_drop h, rfl, rfl, rfl⟩
theorem Rw.grant (h : Rw w σ n al (.slice (some ⟨g, 0, none⟩) n cap) m) (i : Nat) (hi : i < al.length) :
    Rw (w.setCell ⟨g, i * 3 + 2, none⟩ (.bool true)) σ n (granted al i hi) (.slice (some ⟨g, 0, none⟩) n cap) m ∧ Chg (fun x => x = 5) σ w σ (w.setCell ⟨g, i * 3 + 2, none⟩ (.bool true)) := by
  have c : Chg (fun x => x = 5) σ w σ (w.setCell ⟨g, i * 3 + 2, none⟩ (.bool true)) := (Chg.refl _ _ w).setCell (p := ⟨g, i * 3 + 2, none⟩) (.inl (h.row.2 g rfl)) _
  refine ⟨⟨by rw [show (granted al i hi).length = al.length by simp [granted]]; exact h.len, ⟨?_, h.row.2⟩, fun a ha => ?_, fun a ha => ?_⟩, c⟩
  · have := (World.ownsRow.stored h.row.1 (i * 3 + 2) (.bool true)).1
    rw [avs_set al i hi] at this
    exact this
  · obtain ⟨b, hb, e1, e2, e3⟩ := mem_granted ha
    rw [e1, e2, e3]
    exact ⟨(h.sets b hb).1.chg c (by omega), (h.sets b hb).2⟩
  · obtain ⟨b, hb, e1, e2, e3⟩ := mem_granted ha
    rw [e3]
    exact h.low b hb
theorem Rw.del (h : Rw w σ n al v m) (k : Nat) (hk : k < n) (hb : Below w.heap.size w w') (ho : w'.ownsRow w.heap.size 35 3 v' (n - 1) (avs (al.eraseIdx k))) :
    Rw w' (K.upd σ w.heap.size 5) (n - 1) (al.eraseIdx k) v' m := by
  have hsub : (al.eraseIdx k).Sublist al := List.eraseIdx_sublist ..
  have h1 := (h.upd (Nat.le_refl _) 5).below hb
  exact ⟨by rw [List.length_eraseIdx, if_pos (by rw [h.len]; exact hk), h.len], Row.fresh ho 5, fun a ha => h1.sets a (hsub.mem ha), fun a ha => h.low a (hsub.mem ha)⟩
end

/-- The law's state between two calls. -/
structure Wm (w0 wr : World) (σ : Nat → Nat) (g : Nat) (m : Int) (n : Nat) (al : List Ak) (M : Mgr) (v : Value) : Prop where
  row : Rw wr σ n al v m
  mgr : MgrAt wr σ 1000 g M
  mm : M.m = m
  st : St w0 σ wr
  inv : WInv M al
  some_ : Some_ al
section
variable {w0 w w' wr : World} {σ σ' : Nat → Nat} {n g : Nat} {al : List Ak} {v : Value} {m : Int} {S : Nat → Prop} {M : Mgr}
theorem Wm.below (h : Wm w0 w σ g m n al M v) (hb : Below w.heap.size w w') : Wm w0 w' σ g m n al M v := ⟨h.row.below hb, h.mgr.below hb, h.mm, h.st.below hb, h.inv, h.some_⟩
theorem Wm.upd (h : Wm w0 w σ g m n al M v) {k : Nat} (hn : w.heap.size ≤ k) (x : Nat) : Wm w0 w (K.upd σ k x) g m n al M v :=
  ⟨h.row.upd hn x, h.mgr.chg ((Chg.refl (fun _ => False) σ w).upd hn x) (fun _ _ h => h), h.mm, h.st.upd (Nat.le_trans h.st.size hn) x, h.inv, h.some_⟩
end
end Go.Proofs.Ytgcnappgecdldaa.C
