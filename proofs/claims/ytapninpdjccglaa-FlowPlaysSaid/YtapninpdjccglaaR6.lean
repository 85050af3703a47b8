/-
  The document's flow: New.
-/
import Derived.Test.YtapninpdjccglaaR4
set_option linter.unusedVariables false
set_option linter.unusedSimpArgs false
namespace Go.Proofs.Ytapninpdjccglaa.C
open Go.RowKit Go.Proofs.Ytapninpdjccglaa.K

theorem rinfo45 : (Try.prog.info? 45).map (fun i => (i.zero, i.size, i.bytes)) = some (some (.slice none 0 0), 1, 24) := by kernel_rfl
theorem rinfo86 : (Try.prog.info? 86).map (fun i => (i.zero, i.size, i.bytes)) = some (some (.slice none 0 0), 1, 24) := by kernel_rfl
theorem rinfo3 : (Try.prog.info? 3).map (fun i => (i.zero, i.size, i.bytes)) = some (some (.int .i64 0), 1, 8) := by kernel_rfl
theorem rnew_no (w : World) (s o m : Int) (h : ¬ okNew s o m) :
    Calls Try.prog 11 #[.int .i64 s, .int .i64 o, .int .i64 m] w fun e w' => e = .returned (.tuple #[.pointer none, .int .i64 1]) ∧ w = w' := by
  unfold okNew at h
  have hc : s < 1 ∨ (¬ s < 1 ∧ 8 < s) ∨ (¬ s < 1 ∧ ¬ 8 < s ∧ o < 1) ∨ (¬ s < 1 ∧ ¬ 8 < s ∧ ¬ o < 1 ∧ 8 < o) ∨ (¬ s < 1 ∧ ¬ 8 < s ∧ ¬ o < 1 ∧ ¬ 8 < o ∧ m < 1) ∨ (¬ s < 1 ∧ ¬ 8 < s ∧ ¬ o < 1 ∧ ¬ 8 < o ∧ ¬ m < 1 ∧ 64 < m) := by omega
  clear h
  rcases hc with h1 | ⟨h1, h2⟩ | ⟨h1, h2, h3⟩ | ⟨h1, h2, h3, h4⟩ | ⟨h1, h2, h3, h4, h5⟩ | ⟨h1, h2, h3, h4, h5, h6⟩
  all_goals
    go_enter Try.func11, Try.ntmps11
    go_wp2
    go_ret2
    exact ⟨rfl, rfl⟩
theorem rows_of (w : World) (n : Nat) (t : TypeId) (v : Value) (h1 : v.cells.size = 1) (h0 : v.cells[0]? = some v) : (w.alloc (.cells (madeCells v.cells (n * 1)) t)).rowIs w.heap.size t n (fun _ => v) :=
  row_made w v.cells (n * 1) n (Nat.mul_one n) t (fun _ => v) (fun i hi => by
    rw [h1, Nat.mod_one]
    exact h0)
/-- The new flow's marks. -/
theorem ref_made {w w' : World} {σ : Nat → Nat} {t g gq gb gn s o m : Nat} (hk : okNew s o m) (hb : Below w.heap.size w w') (hq : w'.rowIs gq 45 s (fun _ => .slice none 0 0)) (hbx : w'.rowIs gb 86 o (fun _ => .slice none 0 0)) (hn : w'.rowIs gn 3 s (fun _ => .int .i64 0))
    (hg : Blk w' g 66 #[.int .i64 m, .slice (some ⟨gq, 0, none⟩) s s, .slice (some ⟨gb, 0, none⟩) o o, .slice (some ⟨gn, 0, none⟩) s s]) (h1 : w.heap.size ≤ gq) (h2 : w.heap.size ≤ gb) (h3 : w.heap.size ≤ gn) (h4 : w.heap.size ≤ g) (n1 : gq ≠ gb) (n2 : gq ≠ gn) (n3 : gb ≠ gn) (n4 : g ≠ gq) (n5 : g ≠ gb) (n6 : g ≠ gn) :
    ∃ σ', RefAt w' σ' t g (FS.new s o m) ∧ Chg (fun _ => False) σ w σ' w' := by
  refine ⟨fun b => if b < w.heap.size then σ b else if b = gq then t + 1 else if b = gb then t + 2 else if b = gn then t + 3 else t, ⟨gq, gb, gn, fun _ => .slice none 0 0, fun _ => .slice none 0 0, ⟨?_, ⟨hg, ?_⟩, hq, ?_, hbx, ?_, hn, ?_, fun i _ => SRow.nil _ _ _ _ _, fun j _ => SRow.nil _ _ _ _ _⟩⟩, ⟨hb.os, hb.tape, hb.output, hb.size, fun b hb' => by simp [hb'], fun b hb' _ => hb.block b hb'⟩⟩
  · unfold okNew at hk
    exact ⟨by show 1 ≤ s; omega, by show s ≤ 8; omega, by show 1 ≤ o; omega, by show o ≤ 8; omega, by show 1 ≤ m; omega, by show m ≤ 64; omega, fun i _ => Nat.zero_le _, fun i _ => Nat.zero_le _, fun j _ => Nat.zero_le _⟩
  · show (if g < w.heap.size then σ g else if g = gq then t + 1 else if g = gb then t + 2 else if g = gn then t + 3 else t) = t
    rw [if_neg (by omega), if_neg n4, if_neg n5, if_neg n6]
  · show (if gq < w.heap.size then σ gq else if gq = gq then t + 1 else _) = t + 1
    rw [if_neg (by omega), if_pos rfl]
  · show (if gb < w.heap.size then σ gb else if gb = gq then t + 1 else if gb = gb then t + 2 else _) = t + 2
    rw [if_neg (by omega), if_neg (Ne.symm n1), if_pos rfl]
  · show (if gn < w.heap.size then σ gn else if gn = gq then t + 1 else if gn = gb then t + 2 else if gn = gn then t + 3 else t) = t + 3
    rw [if_neg (by omega), if_neg (Ne.symm n2), if_neg (Ne.symm n3), if_pos rfl]

set_option maxRecDepth 100000 in
set_option maxHeartbeats 1600000 in
theorem rnew_yes (w : World) (σ : Nat → Nat) (t : Nat) (s o m : Nat) (hk : okNew s o m) :
    Calls Try.prog 11 #[.int .i64 s, .int .i64 o, .int .i64 m] w fun e w' => ∃ g σ', e = .returned (.tuple #[.pointer (some ⟨g, 0, none⟩), .int .i64 0]) ∧ RefAt w' σ' t g (FS.new s o m) ∧ Chg (fun _ => False) σ w σ' w' ∧ w.heap.size ≤ g := by
  have Hok := Lib.hid hk
  unfold okNew at hk
  obtain ⟨h1, h2, h3, h4, h5, h6⟩ := hk
  have e1 : ¬ (s : Int) < 1 := by omega
  have e2 : ¬ (8 : Int) < (s : Int) := by omega
  have e3 : ¬ (o : Int) < 1 := by omega
  have e4 : ¬ (8 : Int) < (o : Int) := by omega
  have e5 : ¬ (m : Int) < 1 := by omega
  have e6 : ¬ (64 : Int) < (m : Int) := by omega
  obtain ⟨j1, hj1, ha0, ha1, ha2⟩ := info_of rinfo45
  obtain ⟨j2, hj2, hb0, hb1, hb2⟩ := info_of rinfo86
  obtain ⟨j3, hj3, hc0, hc1, hc2⟩ := info_of rinfo3
  have hm1 := fun W => run_make_rowN (P := Try.prog) 42 45 j1 _ Try.underlying42 hj1 ha0 .i64 .i64 s s (Nat.le_refl _) (by rw [ha2]; omega) (by omega) W
  have hm2 := fun W => run_make_rowN (P := Try.prog) 63 86 j2 _ Try.underlying63 hj2 hb0 .i64 .i64 o o (Nat.le_refl _) (by rw [hb2]; omega) (by omega) W
  have hm3 := fun W => run_make_rowN (P := Try.prog) 64 3 j3 _ Try.underlying64 hj3 hc0 .i64 .i64 s s (Nat.le_refl _) (by rw [hc2]; omega) (by omega) W
  rw [ha1] at hm1
  rw [hb1] at hm2
  rw [hc1] at hm3
  have hd1 := fun W => rows_of W s 45 (.slice none 0 0) rfl rfl
  have hd2 := fun W => rows_of W o 86 (.slice none 0 0) rfl rfl
  have hd3 := fun W => rows_of W s 3 (.int .i64 0) rfl rfl
  rw [Nat.mul_one] at hm1 hm2 hm3
  simp only [Nat.mul_one] at hd1 hd2 hd3
  obtain ⟨M1, hM1⟩ : ∃ M, Obj.cells (madeCells (Value.slice none 0 0).cells s) 45 = M := ⟨_, rfl⟩
  obtain ⟨M2, hM2⟩ : ∃ M, Obj.cells (madeCells (Value.slice none 0 0).cells o) 86 = M := ⟨_, rfl⟩
  obtain ⟨M3, hM3⟩ : ∃ M, Obj.cells (madeCells (Value.int .i64 0).cells s) 3 = M := ⟨_, rfl⟩
  simp only [hM1] at hm1 hd1
  simp only [hM2] at hm2 hd2
  simp only [hM3] at hm3 hd3
  have HD := Lib.hid (And.intro hd1 (And.intro hd2 hd3))
  clear h1 h2 h3 h4 h5 h6 hj1 hj2 hj3 ha0 ha1 ha2 hb0 hb1 hb2 hc0 hc1 hc2 hM1 hM2 hM3 hd1 hd2 hd3
  go_enter Try.func11, Try.ntmps11
  go_wp2_with fail
  go_region
  all_goals
    go_wp2
    go_ret2
    first
      | (obtain ⟨σ', hr, hc⟩ := ref_made (σ := σ) (t := t) (w := w) (w' := ((((w.alloc M1).alloc M2).alloc M3).alloc (.cells #[.int .i64 m, .slice (some ⟨w.heap.size, 0, none⟩) s s, .slice (some ⟨w.heap.size + 1, 0, none⟩) o o, .slice (some ⟨w.heap.size + 1 + 1, 0, none⟩) s s] 66)).drew) (g := w.heap.size + 1 + 1 + 1) (gq := w.heap.size) (gb := w.heap.size + 1) (gn := w.heap.size + 1 + 1) Hok.out (by exact (((((Below.refl _ _).alloc (Nat.le_refl _) _).alloc (by simp) _).alloc (by simp; omega) _).alloc (by simp; omega) _).drew) (by have h := HD.out.1 w; (try simp only [World.size_alloc] at h);  exact (((h.alloc _).alloc _).alloc _).drew) (by have h := HD.out.2.1 (w.alloc M1); (try simp only [World.size_alloc] at h);  exact ((h.alloc _).alloc _).drew) (by have h := HD.out.2.2 ((w.alloc M1).alloc M2); (try simp only [World.size_alloc] at h);  exact (h.alloc _).drew) (by have h := Blk.new (((w.alloc M1).alloc M2).alloc M3) 66 #[.int .i64 m, .slice (some ⟨w.heap.size, 0, none⟩) s s, .slice (some ⟨w.heap.size + 1, 0, none⟩) o o, .slice (some ⟨w.heap.size + 1 + 1, 0, none⟩) s s]; (try simp only [World.size_alloc] at h);  exact h.drew) (by omega) (by omega) (by omega) (by omega) (by omega) (by omega) (by omega) (by omega) (by omega) (by omega); exact ⟨w.heap.size + 1 + 1 + 1, σ', rfl, hr, hc, by omega⟩)
      | (obtain ⟨σ', hr, hc⟩ := ref_made (σ := σ) (t := t) (w := w) (w' := ((((w.alloc M1).alloc M3).alloc M2).alloc (.cells #[.int .i64 m, .slice (some ⟨w.heap.size, 0, none⟩) s s, .slice (some ⟨w.heap.size + 1 + 1, 0, none⟩) o o, .slice (some ⟨w.heap.size + 1, 0, none⟩) s s] 66)).drew) (g := w.heap.size + 1 + 1 + 1) (gq := w.heap.size) (gb := w.heap.size + 1 + 1) (gn := w.heap.size + 1) Hok.out (by exact (((((Below.refl _ _).alloc (Nat.le_refl _) _).alloc (by simp) _).alloc (by simp; omega) _).alloc (by simp; omega) _).drew) (by have h := HD.out.1 w; (try simp only [World.size_alloc] at h);  exact (((h.alloc _).alloc _).alloc _).drew) (by have h := HD.out.2.1 ((w.alloc M1).alloc M3); (try simp only [World.size_alloc] at h);  exact (h.alloc _).drew) (by have h := HD.out.2.2 (w.alloc M1); (try simp only [World.size_alloc] at h);  exact ((h.alloc _).alloc _).drew) (by have h := Blk.new (((w.alloc M1).alloc M3).alloc M2) 66 #[.int .i64 m, .slice (some ⟨w.heap.size, 0, none⟩) s s, .slice (some ⟨w.heap.size + 1 + 1, 0, none⟩) o o, .slice (some ⟨w.heap.size + 1, 0, none⟩) s s]; (try simp only [World.size_alloc] at h);  exact h.drew) (by omega) (by omega) (by omega) (by omega) (by omega) (by omega) (by omega) (by omega) (by omega) (by omega); exact ⟨w.heap.size + 1 + 1 + 1, σ', rfl, hr, hc, by omega⟩)
      | (obtain ⟨σ', hr, hc⟩ := ref_made (σ := σ) (t := t) (w := w) (w' := ((((w.alloc M2).alloc M1).alloc M3).alloc (.cells #[.int .i64 m, .slice (some ⟨w.heap.size + 1, 0, none⟩) s s, .slice (some ⟨w.heap.size, 0, none⟩) o o, .slice (some ⟨w.heap.size + 1 + 1, 0, none⟩) s s] 66)).drew) (g := w.heap.size + 1 + 1 + 1) (gq := w.heap.size + 1) (gb := w.heap.size) (gn := w.heap.size + 1 + 1) Hok.out (by exact (((((Below.refl _ _).alloc (Nat.le_refl _) _).alloc (by simp) _).alloc (by simp; omega) _).alloc (by simp; omega) _).drew) (by have h := HD.out.1 (w.alloc M2); (try simp only [World.size_alloc] at h);  exact ((h.alloc _).alloc _).drew) (by have h := HD.out.2.1 w; (try simp only [World.size_alloc] at h);  exact (((h.alloc _).alloc _).alloc _).drew) (by have h := HD.out.2.2 ((w.alloc M2).alloc M1); (try simp only [World.size_alloc] at h);  exact (h.alloc _).drew) (by have h := Blk.new (((w.alloc M2).alloc M1).alloc M3) 66 #[.int .i64 m, .slice (some ⟨w.heap.size + 1, 0, none⟩) s s, .slice (some ⟨w.heap.size, 0, none⟩) o o, .slice (some ⟨w.heap.size + 1 + 1, 0, none⟩) s s]; (try simp only [World.size_alloc] at h);  exact h.drew) (by omega) (by omega) (by omega) (by omega) (by omega) (by omega) (by omega) (by omega) (by omega) (by omega); exact ⟨w.heap.size + 1 + 1 + 1, σ', rfl, hr, hc, by omega⟩)
      | (obtain ⟨σ', hr, hc⟩ := ref_made (σ := σ) (t := t) (w := w) (w' := ((((w.alloc M2).alloc M3).alloc M1).alloc (.cells #[.int .i64 m, .slice (some ⟨w.heap.size + 1 + 1, 0, none⟩) s s, .slice (some ⟨w.heap.size, 0, none⟩) o o, .slice (some ⟨w.heap.size + 1, 0, none⟩) s s] 66)).drew) (g := w.heap.size + 1 + 1 + 1) (gq := w.heap.size + 1 + 1) (gb := w.heap.size) (gn := w.heap.size + 1) Hok.out (by exact (((((Below.refl _ _).alloc (Nat.le_refl _) _).alloc (by simp) _).alloc (by simp; omega) _).alloc (by simp; omega) _).drew) (by have h := HD.out.1 ((w.alloc M2).alloc M3); (try simp only [World.size_alloc] at h);  exact (h.alloc _).drew) (by have h := HD.out.2.1 w; (try simp only [World.size_alloc] at h);  exact (((h.alloc _).alloc _).alloc _).drew) (by have h := HD.out.2.2 (w.alloc M2); (try simp only [World.size_alloc] at h);  exact ((h.alloc _).alloc _).drew) (by have h := Blk.new (((w.alloc M2).alloc M3).alloc M1) 66 #[.int .i64 m, .slice (some ⟨w.heap.size + 1 + 1, 0, none⟩) s s, .slice (some ⟨w.heap.size, 0, none⟩) o o, .slice (some ⟨w.heap.size + 1, 0, none⟩) s s]; (try simp only [World.size_alloc] at h);  exact h.drew) (by omega) (by omega) (by omega) (by omega) (by omega) (by omega) (by omega) (by omega) (by omega) (by omega); exact ⟨w.heap.size + 1 + 1 + 1, σ', rfl, hr, hc, by omega⟩)
      | (obtain ⟨σ', hr, hc⟩ := ref_made (σ := σ) (t := t) (w := w) (w' := ((((w.alloc M3).alloc M1).alloc M2).alloc (.cells #[.int .i64 m, .slice (some ⟨w.heap.size + 1, 0, none⟩) s s, .slice (some ⟨w.heap.size + 1 + 1, 0, none⟩) o o, .slice (some ⟨w.heap.size, 0, none⟩) s s] 66)).drew) (g := w.heap.size + 1 + 1 + 1) (gq := w.heap.size + 1) (gb := w.heap.size + 1 + 1) (gn := w.heap.size) Hok.out (by exact (((((Below.refl _ _).alloc (Nat.le_refl _) _).alloc (by simp) _).alloc (by simp; omega) _).alloc (by simp; omega) _).drew) (by have h := HD.out.1 (w.alloc M3); (try simp only [World.size_alloc] at h);  exact ((h.alloc _).alloc _).drew) (by have h := HD.out.2.1 ((w.alloc M3).alloc M1); (try simp only [World.size_alloc] at h);  exact (h.alloc _).drew) (by have h := HD.out.2.2 w; (try simp only [World.size_alloc] at h);  exact (((h.alloc _).alloc _).alloc _).drew) (by have h := Blk.new (((w.alloc M3).alloc M1).alloc M2) 66 #[.int .i64 m, .slice (some ⟨w.heap.size + 1, 0, none⟩) s s, .slice (some ⟨w.heap.size + 1 + 1, 0, none⟩) o o, .slice (some ⟨w.heap.size, 0, none⟩) s s]; (try simp only [World.size_alloc] at h);  exact h.drew) (by omega) (by omega) (by omega) (by omega) (by omega) (by omega) (by omega) (by omega) (by omega) (by omega); exact ⟨w.heap.size + 1 + 1 + 1, σ', rfl, hr, hc, by omega⟩)
      | (obtain ⟨σ', hr, hc⟩ := ref_made (σ := σ) (t := t) (w := w) (w' := ((((w.alloc M3).alloc M2).alloc M1).alloc (.cells #[.int .i64 m, .slice (some ⟨w.heap.size + 1 + 1, 0, none⟩) s s, .slice (some ⟨w.heap.size + 1, 0, none⟩) o o, .slice (some ⟨w.heap.size, 0, none⟩) s s] 66)).drew) (g := w.heap.size + 1 + 1 + 1) (gq := w.heap.size + 1 + 1) (gb := w.heap.size + 1) (gn := w.heap.size) Hok.out (by exact (((((Below.refl _ _).alloc (Nat.le_refl _) _).alloc (by simp) _).alloc (by simp; omega) _).alloc (by simp; omega) _).drew) (by have h := HD.out.1 ((w.alloc M3).alloc M2); (try simp only [World.size_alloc] at h);  exact (h.alloc _).drew) (by have h := HD.out.2.1 (w.alloc M3); (try simp only [World.size_alloc] at h);  exact ((h.alloc _).alloc _).drew) (by have h := HD.out.2.2 w; (try simp only [World.size_alloc] at h);  exact (((h.alloc _).alloc _).alloc _).drew) (by have h := Blk.new (((w.alloc M3).alloc M2).alloc M1) 66 #[.int .i64 m, .slice (some ⟨w.heap.size + 1 + 1, 0, none⟩) s s, .slice (some ⟨w.heap.size + 1, 0, none⟩) o o, .slice (some ⟨w.heap.size, 0, none⟩) s s]; (try simp only [World.size_alloc] at h);  exact h.drew) (by omega) (by omega) (by omega) (by omega) (by omega) (by omega) (by omega) (by omega) (by omega) (by omega); exact ⟨w.heap.size + 1 + 1 + 1, σ', rfl, hr, hc, by omega⟩)
      | fail
end Go.Proofs.Ytapninpdjccglaa.C
