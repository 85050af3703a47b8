/-
  Locks: spoil: numbers that were told are written over, and grown.
-/
import Derived.Test.YtgcnappgecdldaaQ1
set_option linter.unusedVariables false
set_option linter.unusedSimpArgs false
namespace Go.Proofs.Ytgcnappgecdldaa.C
open Go.RowKit Go.Proofs.Ytgcnappgecdldaa.K Go.Maps

theorem row_frozen {w : World} {σ : Nat → Nat} {t e sz n g cap m : Nat} {xs : List Value} (h : Row w σ t e sz (.slice (some ⟨g, 0, none⟩) m cap) n xs) (j : Nat) : w.frozen? ⟨g, j, none⟩ = false := by
  rcases h.1.2 with ⟨h', _⟩ | ⟨g', cap', cur, h', _, hg, _⟩
  · cases h'
  · cases h'
    exact (show Blk w g e cur from hg).frozen j
theorem row_store {w : World} {σ : Nat → Nat} {t e sz n g cap : Nat} {xs : List Value} (h : Row w σ t e sz (.slice (some ⟨g, 0, none⟩) n cap) n xs) (j : Nat) (u : Value) :
    Row (w.setCell ⟨g, j, none⟩ u) σ t e sz (.slice (some ⟨g, 0, none⟩) n cap) n (xs.set j u) ∧ Chg (fun x => x = t) σ w σ (w.setCell ⟨g, j, none⟩ u) :=
  ⟨⟨(World.ownsRow.stored h.1 j u).1, h.2⟩, (Chg.refl _ _ w).setCell (p := ⟨g, j, none⟩) (.inl (h.2 g rfl)) u⟩

set_option maxRecDepth 100000 in
set_option maxHeartbeats 1600000 in
theorem spoil_c (w : World) (σ : Nat → Nat) (t : Nat) (v : Value) (n : Nat) (xs : List Int) (hn : n ≤ 1000000) (h : Row w σ t 3 1 v n (xs.map (Value.int .i64))) :
    Calls Try.prog 35 #[v] w fun e w' => e = .returned (.tuple #[]) ∧ ∃ σ', Chg (fun x => x = t) σ w σ' w' := by
  obtain ⟨A, cp, rfl⟩ := h.slice
  obtain ⟨i3, hi3, hy0, hy1, hy2⟩ := info_parts2 info3p
  have HI3 := Lib.hid (And.intro hi3 (And.intro hy0 (And.intro hy1 hy2)))
  have H := Lib.hid h
  clear h hi3 hy0 hy1 hy2
  go_enter Try.func35, Try.ntmps35
  go_wp2_with fail
  go_loopw [2] (fun vi wr => ∃ (k : Nat) (ys : List Int), vi = .int .i64 k ∧ k ≤ n ∧ Row wr σ t 3 1 (.slice A n cp) n (ys.map (Value.int .i64)) ∧ Chg (fun x => x = t) σ w σ wr) (fun vi _ => n - (intOf vi).toNat)
  case atStart => exact ⟨0, xs, rfl, Nat.zero_le _, H.out, Chg.refl _ _ _⟩
  case round =>
    rename World => wa
    obtain ⟨k, ys, rfl, hk, hr, hc⟩ := hrel
    have HR := Lib.hid (And.intro hr hc)
    clear hr hc H
    by_cases hkn : k < n
    · have k0 : (0 : Int) ≤ (k : Int) := by omega
      have k1 : (k : Int) < (n : Int) := by omega
      obtain ⟨g, cap, e, _, hg⟩ := HR.out.1.form (by omega)
      obtain ⟨rfl, rfl⟩ : A = some ⟨g, 0, none⟩ ∧ cp = cap := by cases e; exact ⟨rfl, rfl⟩
      clear e
      have hl : (ys.map (Value.int .i64)).length = n * 1 := HR.out.1.1.1
      have hkl : k < (ys.map (Value.int .i64)).length := by omega
      have d0 : wa.cell? ⟨g, k, none⟩ = some (ys.map (Value.int .i64))[k] := (World.ownsRow.cellAt HR.out.1.1 k (by omega)).trans (List.getElem?_eq_getElem hkl)
      have f0 := row_frozen HR.out.1 k
      have hst := row_store HR.out.1 k (.int .i64 (-41))
      have HS := Lib.hid (And.intro (show Row (wa.setCell ⟨g, k, none⟩ (.int .i64 (-41))) σ t 3 1 (.slice (some ⟨g, 0, none⟩) n cp) n ((ys.set k (-41)).map (Value.int .i64)) from by rw [List.map_set]; exact hst.1) (HR.out.2.trans hst.2))
      clear hst hl
      generalize (ys.map (Value.int .i64))[k] = u at d0
      clear hkl
      go_wp2_with fail
      go_roundw
      case rel => exact ⟨k + 1, ys.set k (-41), by go_num, by omega, HS.out.1, HS.out.2⟩
      case measure => simp [intOf]; omega
    · obtain rfl : n = k := by omega
      have k1 : ¬ (n : Int) < (n : Int) := by omega
      obtain ⟨hi3, hy0, hy1, hy2⟩ := HI3.out
      go_wp2_with (first | (at_builtin; refine wpList_append_reads (by rfl) _ _ 23 (by rfl) 0 3 i3 _ 1 8 Try.underlying23 hi3 hy0 hy1 hy2 rfl (by omega) (.slice A n cp) n (ys.map (Value.int .i64)) (by rfl) ?c0 (some ⟨wa.heap.size, 0, none⟩) 2 2 [.int .i64 42, .int .i64 43] (by rfl) rfl ?c2 (by intro u hu; simp at hu; rcases hu with rfl | rfl <;> rfl) ?c4 ?c5 (Nat.zero_le _) ?_) | fail)
      case c0 => exact own_below HR.out.1.1 ((Below.refl _ _).alloc (Nat.le_refl _) _)
      case c2 => exact reads_new2 wa #[.int .i64 42, .int .i64 43] 3
      case c4 => unfold maxLen; omega
      case c5 => omega
      intro v' w9 ho9 hg9 hat9
      have hba := (Below.refl wa.heap.size wa).alloc (Nat.le_refl _) (.cells #[.int .i64 42, .int .i64 43] 3)
      have hat9' : v'.ownBlock = (Value.slice A n cp).ownBlock ∨ v'.ownBlock = some (wa.alloc (.cells #[.int .i64 42, .int .i64 43] 3)).heap.size := by simpa using hat9
      have hrw := HR.out.1.below hba
      have cg := row_chgd hrw hg9
      have hrn := row_new hrw ho9 hat9'
      have cg2 := (HR.out.2.below hba).trans cg
      clear hrw cg hba hat9 hat9' ho9 hg9 hi3 hy0 hy1 hy2
      generalize K.upd σ (wa.alloc (.cells #[.int .i64 42, .int .i64 43] 3)).heap.size t = σ9 at hrn cg2
      obtain ⟨g9, cap9, rfl, _, hgl⟩ := hrn.form (by omega)
      have hl : (ys.map (Value.int .i64) ++ ([.int .i64 42, .int .i64 43] : List Value)).length = (n + 2) * 1 := hrn.1.1
      have hkl : 0 < (ys.map (Value.int .i64) ++ ([.int .i64 42, .int .i64 43] : List Value)).length := by omega
      have d0 : w9.cell? ⟨g9, 0, none⟩ = some (ys.map (Value.int .i64) ++ ([.int .i64 42, .int .i64 43] : List Value))[0] := (World.ownsRow.cellAt hrn.1 0 (by omega)).trans (List.getElem?_eq_getElem hkl)
      have f0 := row_frozen hrn 0
      have hst := row_store hrn 0 (.int .i64 44)
      have HS := Lib.hid (cg2.trans hst.2)
      have z0 : (0 : Int) < ((n + 2 : Nat) : Int) := by omega
      have z1 : (0 : Int) < (n : Int) + 2 := by omega
      clear hst hl hrn cg2 HR
      generalize (ys.map (Value.int .i64) ++ ([.int .i64 42, .int .i64 43] : List Value))[0] = u at d0
      clear hkl
      go_wp2_with fail
      go_end0
      exact ⟨rfl, σ9, HS.out⟩
end Go.Proofs.Ytgcnappgecdldaa.C
