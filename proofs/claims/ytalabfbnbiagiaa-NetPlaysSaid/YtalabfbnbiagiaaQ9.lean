/-
  The document's net: New.
-/
import Derived.Test.YtalabfbnbiagiaaQ3
set_option linter.unusedVariables false
set_option linter.unusedSimpArgs false
namespace Go.Proofs.Ytalabfbnbiagiaa.C
open Go.RowKit Go.Proofs.Ytalabfbnbiagiaa.K

theorem info104' : (Try.prog.info? 104).map (fun i => (i.zero, i.size, i.bytes)) = some (some (.agg #[.bool false, .bool false, .bool false, .slice none 0 0, .slice none 0 0, .slice none 0 0, .slice none 0 0]), 7, 104) := by kernel_rfl
def zc : Array Value := #[.bool false, .bool false, .bool false, .slice none 0 0, .slice none 0 0, .slice none 0 0, .slice none 0 0]
theorem row_made (w : World) (z : Array Value) (n n' : Nat) (hnn : n = n') (ty : TypeId) (f : Nat → Value) (h : ∀ i, i < n → z[i % z.size]? = some (f i)) : (w.alloc (.cells (madeCells z n) ty)).rowIs w.heap.size ty n' f := by
  subst hnn
  have := World.rowIs_alloc w (madeCells z n) ty f (fun i hi => by
    rw [size_madeCells] at hi
    have h1 := h i hi
    rw [← h1]
    simp [madeCells, hi]
    have h2 := (Array.getElem?_eq_some_iff.1 h1).1
    simp [h2])
  rwa [size_madeCells] at this
theorem zc_row (w : World) (i o : Int) : (w.alloc (.cells (madeCells zc 455) 104)).rowIs w.heap.size 104 455 (lC (NS.new i o) (fun _ _ => .slice none 0 0)) := by
  refine row_made w zc 455 455 rfl 104 _ (fun k hk => ?_)
  rw [show zc.size = 7 from rfl]
  have h7 : k % 7 < 7 := Nat.mod_lt _ (by omega)
  unfold lC
  by_cases h0 : k % 7 = 0
  · rw [h0]; rfl
  · by_cases h1 : k % 7 = 1
    · rw [h1]; rfl
    · by_cases h2 : k % 7 = 2
      · rw [h2]; rfl
      · rw [if_neg h0, if_neg h1, if_neg h2]
        have : k % 7 = 3 ∨ k % 7 = 4 ∨ k % 7 = 5 ∨ k % 7 = 6 := by omega
        rcases this with e | e | e | e <;> rw [e] <;> rfl

set_option maxRecDepth 100000 in
theorem q_new_no (w : World) (i o : Int) (h : ¬ (1 ≤ i ∧ i ≤ 131072 ∧ 1 ≤ o ∧ o ≤ 131072)) :
    Calls Try.prog 31 #[.int .i64 i, .int .i64 o] w fun e w' => e = .returned (.tuple #[.pointer none, .int .i64 1]) ∧ w = w' := by
  have hc : i < 1 ∨ (¬ i < 1 ∧ 131072 < i) ∨ (¬ i < 1 ∧ ¬ 131072 < i ∧ o < 1) ∨ (¬ i < 1 ∧ ¬ 131072 < i ∧ ¬ o < 1 ∧ 131072 < o) := by omega
  clear h
  rcases hc with h1 | ⟨h1, h2⟩ | ⟨h1, h2, h3⟩ | ⟨h1, h2, h3, h4⟩
  all_goals
    go_enter Try.func31, Try.ntmps31
    go_wp2
    go_ret2
    exact ⟨rfl, rfl⟩

set_option maxRecDepth 100000 in
theorem q_new_yes (w : World) (i o : Int) (h : 1 ≤ i ∧ i ≤ 131072 ∧ 1 ≤ o ∧ o ≤ 131072) (σ : Nat → Nat) (t : Nat) :
    Calls Try.prog 31 #[.int .i64 i, .int .i64 o] w fun e w' => ∃ g, e = .returned (.tuple #[.pointer (some ⟨g, 0, none⟩), .int .i64 0]) ∧ w.heap.size ≤ g ∧ ∃ σ', RefAt w' σ' t g (NS.new i o) ∧ Chg (fun _ => False) σ w σ' w' := by
  have hg := new_good (i := i) (o := o) h
  obtain ⟨h1, h2, h3, h4⟩ := h
  obtain ⟨i1, hi1, ha0, ha1, ha2⟩ := info_parts info104'
  have hm : ∀ W : World, (Instr.makeSlice 86 (.int .i64 65) (.int .i64 65)).run Try.prog W = .ok (.slice (some ⟨W.heap.size, 0, none⟩) 65 65) (W.alloc (.cells (madeCells zc 455) 104)) := fun W => by
    have := run_make_rowN (P := Try.prog) 86 104 i1 _ Try.underlying86 hi1 ha0 .i64 .i64 65 65 (Nat.le_refl _) (by rw [ha2]; omega) (by omega) W
    rw [ha1] at this
    exact this
  have e1 : ¬ i < 1 := by omega
  have e2 : ¬ (131072 : Int) < i := by omega
  have e3 : ¬ o < 1 := by omega
  have e4 : ¬ (131072 : Int) < o := by omega
  have Hg := Lib.hid hg
  clear h1 h2 h3 h4 hg hi1 ha0 ha1 ha2
  have hzc := fun W : World => zc_row W i o
  have Hzc := Lib.hid hzc
  clear hzc
  go_enter Try.func31, Try.ntmps31
  go_wp2
  go_ret2
  have hb1 : Below w.heap.size w (w.alloc (.cells (madeCells zc 455) 104)) := (Below.refl _ _).alloc (Nat.le_refl _) _
  have hb2 := hb1.alloc hb1.size (.cells #[.int .i64 i, .int .i64 o, .slice (some ⟨w.heap.size, 0, none⟩) 65 65, .int .i64 0] 88)
  refine ⟨w.heap.size + 1, rfl, by omega, upd (upd σ w.heap.size (t + 2)) (w.heap.size + 1) t, ⟨w.heap.size, fun _ _ => .slice none 0 0, ⟨Hg.out, ⟨?_, upd_new (Nat.le_refl _)⟩, (Hzc.out w).alloc _, ?_, fun c C hc => (by cases hc), fun c C hc => (by cases hc), fun c C hc => (by cases hc), fun c C hc => (by cases hc), fun c _ j => rfl⟩⟩, ?_⟩
  · have := Blk.new (w.alloc (.cells (madeCells zc 455) 104)) 88 #[.int .i64 i, .int .i64 o, .slice (some ⟨w.heap.size, 0, none⟩) 65 65, .int .i64 0]
    rw [World.size_alloc] at this
    exact this
  · rw [upd_old (by omega), upd_new (Nat.le_refl _)]
  · have c0 := (Chg.of_below (fun _ => False) σ hb2)
    exact (c0.upd (Nat.le_refl _) (t + 2)).upd (Nat.le_succ _) t
end Go.Proofs.Ytalabfbnbiagiaa.C
