/-
  New.
-/
import Derived.Test.YtapninpdjccglaaG2
set_option linter.unusedVariables false
set_option linter.unusedSimpArgs false
namespace Go.Proofs.Ytapninpdjccglaa.C
open Go.RowKit Go.Proofs.Ytapninpdjccglaa.K

def FS.new (s o m : Nat) : FS := ⟨s, o, m, fun _ => [], fun _ => 0, fun _ => []⟩
def okNew (s o m : Int) : Prop := 1 ≤ s ∧ s ≤ 8 ∧ 1 ≤ o ∧ o ≤ 8 ∧ 1 ≤ m ∧ m ≤ 64
set_option maxRecDepth 100000 in
theorem new_no (w : World) (s o m : Int) (h : ¬ okNew s o m) :
    Calls Try.prog 10 #[.int .i64 s, .int .i64 o, .int .i64 m] w fun e w' => e = .returned (.tuple #[.pointer none, .int .i64 1]) ∧ w = w' := by
  unfold okNew at h
  have hc : s < 1 ∨ (¬ s < 1 ∧ 8 < s) ∨ (¬ s < 1 ∧ ¬ 8 < s ∧ o < 1) ∨ (¬ s < 1 ∧ ¬ 8 < s ∧ ¬ o < 1 ∧ 8 < o) ∨ (¬ s < 1 ∧ ¬ 8 < s ∧ ¬ o < 1 ∧ ¬ 8 < o ∧ m < 1) ∨ (¬ s < 1 ∧ ¬ 8 < s ∧ ¬ o < 1 ∧ ¬ 8 < o ∧ ¬ m < 1 ∧ 64 < m) := by omega
  clear h
  rcases hc with h1 | ⟨h1, h2⟩ | ⟨h1, h2, h3⟩ | ⟨h1, h2, h3, h4⟩ | ⟨h1, h2, h3, h4, h5⟩ | ⟨h1, h2, h3, h4, h5, h6⟩
  all_goals
    go_enter Try.func10, Try.ntmps10
    go_wp2
    go_ret2
    exact ⟨rfl, rfl⟩

theorem info79' : (Try.prog.info? 79).map (fun i => (i.zero, i.size, i.bytes)) = some (some (.agg #[.slice none 0 0, .int .i64 0]), 2, 32) := by kernel_rfl
theorem info62' : (Try.prog.info? 62).map (fun i => (i.zero, i.size, i.bytes)) = some (some (.agg #[.slice none 0 0, .int .i64 0, .int .i64 0]), 3, 40) := by kernel_rfl
theorem info83' : (Try.prog.info? 83).map (fun i => (i.zero, i.size, i.bytes)) = some (some (.agg #[.int .i64 0, .bool false, .string ⟨#[]⟩, .int .i64 0, .int .i64 0]), 5, 48) := by kernel_rfl

def zq : Array Value := #[.slice none 0 0, .int .i64 0]
def zb : Array Value := #[.slice none 0 0, .int .i64 0, .int .i64 0]
def zr : Array Value := #[.int .i64 0, .bool false, .string ⟨#[]⟩, .int .i64 0, .int .i64 0]
theorem row_made (w : World) (z : Array Value) (n n' : Nat) (hnn : n = n') (ty : TypeId) (f : Nat → Value) (h : ∀ i, i < n → z[i % z.size]? = some (f i)) : (w.alloc (.cells (madeCells z n) ty)).rowIs w.heap.size ty n' f := by
  subst hnn
  have := World.rowIs_alloc w (madeCells z n) ty f (fun i hi => by
    rw [size_madeCells] at hi
    have h1 := h i hi
    rw [← h1]
    simp [madeCells, hi]
    have h2 := (Array.getElem?_eq_some_iff.1 h1).1
    simp [h2])
  rwa [size_madeCells] at this
def ring0 : Nat → Value := fun k => zr.getD (k % 5) undef
def bpart (m : Nat) (gr : Nat → Nat) (n : Nat) : Nat → Value := fun k => if k % 3 = 0 then (if k / 3 < n then .slice (some ⟨gr (k / 3), 0, none⟩) m m else .slice none 0 0) else .int .i64 0
theorem ring0_row (w : World) (m : Nat) : (w.alloc (.cells (madeCells zr (m * 5)) 83)).rowIs w.heap.size 83 (5 * m) ring0 := by
  have := row_made w zr (m * 5) (5 * m) (Nat.mul_comm _ _) 83 ring0 (fun i hi => by
    have hs : zr.size = 5 := rfl
    rw [hs]
    have : i % 5 < 5 := Nat.mod_lt _ (by omega)
    unfold ring0
    rw [Array.getD_eq_getD_getElem?, Array.getElem?_eq_getElem (by rw [hs]; exact this)]
    rfl)
  exact this
theorem zq_row (w : World) (s : Nat) : (w.alloc (.cells (madeCells zq (s * 2)) 79)).rowIs w.heap.size 79 (2 * s) (qCells (fun _ => 0) (fun _ => .slice none 0 0)) := by
  have := row_made w zq (s * 2) (2 * s) (Nat.mul_comm _ _) 79 (qCells (fun _ => 0) (fun _ => .slice none 0 0)) (fun i hi => by
    rw [show zq.size = 2 from rfl]
    unfold qCells
    by_cases h : i % 2 = 0
    · rw [h]; rfl
    · rw [show i % 2 = 1 by omega]; rfl)
  exact this
theorem zb_row (w : World) (o m : Nat) (gr : Nat → Nat) : (w.alloc (.cells (madeCells zb (o * 3)) 62)).rowIs w.heap.size 62 (3 * o) (bpart m gr 0) := by
  have := row_made w zb (o * 3) (3 * o) (Nat.mul_comm _ _) 62 (bpart m gr 0) (fun i hi => by
    rw [show zb.size = 3 from rfl]
    unfold bpart
    by_cases h : i % 3 = 0
    · rw [h, if_pos rfl, if_neg (by omega)]; rfl
    · rw [if_neg h]
      by_cases h1 : i % 3 = 1
      · rw [h1]; rfl
      · rw [show i % 3 = 2 by omega]; rfl)
  exact this

structure Part (w wr : World) (σ σ' : Nat → Nat) (t g gq gb s o m k : Nat) (gr : Nat → Nat) : Prop where
  chg : Chg (fun _ => False) σ w σ' wr
  blk : MBlk wr σ' t g 59 #[.slice (some ⟨gq, 0, none⟩) s s, .slice (some ⟨gb, 0, none⟩) o o]
  rq : wr.rowIs gq 79 (2 * s) (qCells (fun _ => 0) (fun _ => .slice none 0 0))
  tq : σ' gq = t + 1
  rb : wr.rowIs gb 62 (3 * o) (bpart m gr k)
  tb : σ' gb = t + 2
  ring : ∀ j, j < k → wr.rowIs (gr j) 83 (5 * m) ring0
  tr : ∀ j, j < k → σ' (gr j) = t + 3 + j
  ge : w.heap.size ≤ g ∧ w.heap.size ≤ gb
section
variable {w wr : World} {σ σ' : Nat → Nat} {t g gq gb s o m k : Nat} {gr : Nat → Nat}
theorem Part.begun {W : World} (hb : Below w.heap.size w W) (hblk : Blk W g 59 #[.slice (some ⟨gq, 0, none⟩) s s, .slice (some ⟨gb, 0, none⟩) o o]) (rq : W.rowIs gq 79 (2 * s) (qCells (fun _ => 0) (fun _ => .slice none 0 0))) (rb : W.rowIs gb 62 (3 * o) (bpart m gr 0))
    (h1 : w.heap.size ≤ g) (h2 : w.heap.size ≤ gq) (h3 : w.heap.size ≤ gb) (n1 : g ≠ gq) (n2 : g ≠ gb) (n3 : gq ≠ gb) : Part w W σ (fun b => if b < w.heap.size then σ b else if b = g then t else if b = gq then t + 1 else t + 2) t g gq gb s o m 0 gr := by
  refine ⟨⟨hb.os, hb.tape, hb.output, hb.size, fun b hlt => if_pos hlt, fun b hlt _ => hb.block b hlt⟩, ⟨hblk, ?_⟩, rq, ?_, rb, ?_, fun j hj => absurd hj (by omega), fun j hj => absurd hj (by omega), h1, h3⟩
  · show (if g < w.heap.size then _ else _) = t
    rw [if_neg (by omega), if_pos rfl]
  · show (if gq < w.heap.size then _ else _) = t + 1
    rw [if_neg (by omega), if_neg (fun e => n1 e.symm), if_pos rfl]
  · show (if gb < w.heap.size then _ else _) = t + 2
    rw [if_neg (by omega), if_neg (fun e => n2 e.symm), if_neg (fun e => n3 e.symm)]
theorem Part.step (h : Part w wr σ σ' t g gq gb s o m k gr) (hk : k < o) :
    Part w (((wr.alloc (.cells (madeCells zr (m * 5)) 83)).setCell ⟨gb, k * 3, none⟩ (.slice (some ⟨wr.heap.size, 0, none⟩) m m)).drew) σ (upd σ' wr.heap.size (t + 3 + k)) t g gq gb s o m (k + 1) (fun j => if j = k then wr.heap.size else gr j) := by
  have hgb : (upd σ' wr.heap.size (t + 3 + k)) gb = t + 2 := by rw [upd_old h.rb.lt]; exact h.tb
  have c : Chg (fun x => x = t + 2) σ' wr (upd σ' wr.heap.size (t + 3 + k)) (((wr.alloc (.cells (madeCells zr (m * 5)) 83)).setCell ⟨gb, k * 3, none⟩ (.slice (some ⟨wr.heap.size, 0, none⟩) m m)).drew) :=
    ((((Chg.refl _ σ' wr).upd (Nat.le_refl _) (t + 3 + k)).alloc _).setCell (p := ⟨gb, k * 3, none⟩) (.inl hgb) _).drewN 1
  refine ⟨?_, h.blk.chg c (by omega), row_chg h.rq c (by rw [h.tq]; omega), (c.marks _ h.rq.lt).trans h.tq, ?_, hgb, fun j hj => ?_, fun j hj => ?_, h.ge⟩
  · exact (((h.chg.upd h.chg.size (t + 3 + k)).alloc _).setCell (p := ⟨gb, k * 3, none⟩) (.inr h.ge.2) _).drewN 1
  · have r1 := (((h.rb.alloc (.cells (madeCells zr (m * 5)) 83)).set (k * 3) (.slice (some ⟨wr.heap.size, 0, none⟩) m m))).drew
    refine r1.congr (fun i hi => ?_)
    unfold bpart
    by_cases h0 : i % 3 = 0
    · simp only [h0, if_true]
      by_cases h1 : i = k * 3
      · rw [if_pos h1, if_pos (by omega), if_pos (by omega)]
      · rw [if_neg h1]
        by_cases h2 : i / 3 < k
        · rw [if_pos h2, if_pos (by omega), if_neg (by omega)]
        · rw [if_neg h2, if_neg (by omega)]
    · simp only [h0, if_false]
      rw [if_neg (by omega)]
  · by_cases hjk : j = k
    · simp only [hjk, if_true]
      exact ((ring0_row wr m).setOther (a := ⟨gb, k * 3, none⟩) (by have := h.rb.lt; show wr.heap.size ≠ gb; omega) _).drew
    · simp only [hjk, if_false]
      exact row_chg (h.ring j (by omega)) c (by rw [h.tr j (by omega)]; omega)
  · by_cases hjk : j = k
    · simp only [hjk, if_true]
      exact upd_new (Nat.le_refl _)
    · simp only [hjk, if_false]
      rw [upd_old (h.ring j (by omega)).lt]
      exact h.tr j (by omega)
theorem Part.whole (h : Part w wr σ σ' t g gq gb s o m o gr) (hn : okNew s o m) : FlowAt wr σ' t g (FS.new s o m) := by
  obtain ⟨h1, h2, h3, h4, h5, h6⟩ := hn
  refine ⟨gq, gb, fun _ => .slice none 0 0, fun _ => 0, gr, fun _ => ring0, ⟨by show 1 ≤ s; omega, by show s ≤ 8; omega, by show 1 ≤ o; omega, by show o ≤ 8; omega, by show 1 ≤ m; omega, by show m ≤ 64; omega, fun i _ => Nat.zero_le _, fun i _ => Nat.zero_le _, fun i _ => Nat.zero_le _⟩, h.blk, h.rq, h.tq, ?_, h.tb, h.ring, h.tr, fun i _ => SRow.nil _ _ _ _ _, fun j _ => by show 0 < m; omega, fun j _ k x hx => by simp [FS.new] at hx⟩
  refine h.rb.congr (fun i hi => ?_)
  unfold bpart bCells
  by_cases h0 : i % 3 = 0
  · simp only [h0, if_true]
    rw [if_pos (by omega)]
    rfl
  · simp only [h0, if_false]
    split <;> rfl
end

set_option maxRecDepth 100000 in
set_option maxHeartbeats 1600000 in
theorem new_yes (w : World) (σ : Nat → Nat) (t : Nat) (s o m : Nat) (h : okNew s o m) :
    Calls Try.prog 10 #[.int .i64 s, .int .i64 o, .int .i64 m] w fun e w' => ∃ g σ', e = .returned (.tuple #[.pointer (some ⟨g, 0, none⟩), .int .i64 0]) ∧ FlowAt w' σ' t g (FS.new s o m) ∧ Chg (fun _ => False) σ w σ' w' ∧ w.heap.size ≤ g := by
  have Hok := Lib.hid h
  obtain ⟨h1, h2, h3, h4, h5, h6⟩ := h
  obtain ⟨i1, hi1, ha0, ha1, ha2⟩ := info_of info79'
  obtain ⟨i2, hi2, hb0, hb1, hb2⟩ := info_of info62'
  obtain ⟨i3, hi3, hc0, hc1, hc2⟩ := info_of info83'
  have e1 : ¬ (s : Int) < 1 := by omega
  have e2 : ¬ (8 : Int) < (s : Int) := by omega
  have e3 : ¬ (o : Int) < 1 := by omega
  have e4 : ¬ (8 : Int) < (o : Int) := by omega
  have e5 : ¬ (m : Int) < 1 := by omega
  have e6 : ¬ (64 : Int) < (m : Int) := by omega
  have hm1 := fun W => run_make_rowN (P := Try.prog) 56 79 i1 _ Try.underlying56 hi1 ha0 .i64 .i64 s s (Nat.le_refl _) (by rw [ha2]; omega) (by omega) W
  have hm2 := fun W => run_make_rowN (P := Try.prog) 57 62 i2 _ Try.underlying57 hi2 hb0 .i64 .i64 o o (Nat.le_refl _) (by rw [hb2]; omega) (by omega) W
  have hm3 := fun W => run_make_rowN (P := Try.prog) 60 83 i3 _ Try.underlying60 hi3 hc0 .i64 .i64 m m (Nat.le_refl _) (by rw [hc2]; omega) (by omega) W
  rw [ha1] at hm1
  rw [hb1] at hm2
  rw [hc1] at hm3
  clear h1 h2 h3 h4 h5 h6 hi1 hi2 hi3 ha0 ha1 ha2 hb0 hb1 hb2 hc0 hc1 hc2
  go_enter Try.func10, Try.ntmps10
  go_wp2_with fail
  go_cut [8] (fun s8 w' => ∃ g gq gb σ', s8 = .pointer (some ⟨g, 0, none⟩) ∧ Hid (Part w w' σ σ' t g gq gb s o m 0 (fun _ => 0)))
  case first =>
    go_region
    all_goals
      go_wp2_with fail
      go_meet
    case rel =>
      refine ⟨w.heap.size + 1 + 1, w.heap.size, w.heap.size + 1, _, rfl, Lib.hid (Part.begun ?_ ?_ ?_ ?_ (by omega) (by omega) (by omega) (by omega) (by omega) (by omega))⟩
      · exact ((((Below.refl _ _).alloc (Nat.le_refl _) _).alloc (by simp) _).alloc (by simp; omega) _).drew
      · have := Blk.new ((w.alloc (.cells (madeCells zq (s * 2)) 79)).alloc (.cells (madeCells zb (o * 3)) 62)) 59 #[.slice (some ⟨w.heap.size, 0, none⟩) s s, .slice (some ⟨w.heap.size + 1, 0, none⟩) o o]
        simp only [World.size_alloc] at this
        exact this.drew
      · exact (((zq_row w s).alloc _).alloc _).drew
      · have := zb_row (w.alloc (.cells (madeCells zq (s * 2)) 79)) o m (fun _ => 0)
        simp only [World.size_alloc] at this
        exact (this.alloc _).drew
    case rel =>
      refine ⟨w.heap.size + 1 + 1, w.heap.size + 1, w.heap.size, _, rfl, Lib.hid (Part.begun ?_ ?_ ?_ ?_ (by omega) (by omega) (by omega) (by omega) (by omega) (by omega))⟩
      · exact ((((Below.refl _ _).alloc (Nat.le_refl _) _).alloc (by simp) _).alloc (by simp; omega) _).drew
      · have := Blk.new ((w.alloc (.cells (madeCells zb (o * 3)) 62)).alloc (.cells (madeCells zq (s * 2)) 79)) 59 #[.slice (some ⟨w.heap.size + 1, 0, none⟩) s s, .slice (some ⟨w.heap.size, 0, none⟩) o o]
        simp only [World.size_alloc] at this
        exact this.drew
      · have := zq_row (w.alloc (.cells (madeCells zb (o * 3)) 62)) s
        simp only [World.size_alloc] at this
        exact (this.alloc _).drew
      · exact (((zb_row w o m (fun _ => 0)).alloc _).alloc _).drew
  case rest =>
    rename World => w1
    obtain ⟨g, gq, gb, σ1, rfl, H1⟩ := hcut
    have k1 : w1.cell? ⟨g, 1, none⟩ = some (.slice (some ⟨gb, 0, none⟩) o o) := by rw [H1.out.blk.1.cell]; rfl
    go_wp2_with fail
    go_loopw [43] (fun i wr => ∃ (k : Nat) (gr : Nat → Nat) (σ' : Nat → Nat), k ≤ o ∧ i = .int .i64 k ∧ Part w wr σ σ' t g gq gb s o m k gr) (fun i _ => o - (intOf i).toNat)
    case atStart => exact ⟨0, _, _, Nat.zero_le _, rfl, H1.out⟩
    case round =>
      clear k1 H1
      obtain ⟨k, gr, σ2, hk, rfl, hp⟩ := hrel
      have HP := Lib.hid hp
      have k1 : wr.cell? ⟨g, 1, none⟩ = some (.slice (some ⟨gb, 0, none⟩) o o) := by rw [hp.blk.1.cell]; rfl
      by_cases hlt : k < o
      · have k2 : wr.cell? ⟨gb, k * 3, none⟩ = some (.slice none 0 0) := by
          rw [hp.rb.cell (by omega)]
          unfold bpart
          rw [if_pos (by omega), if_neg (by omega)]
        have k3 := hp.rb.frozen (k * 3)
        have i0 : (0 : Int) ≤ (k : Int) := by omega
        have i1 : (k : Int) < (o : Int) := by omega
        have n1 := World.new_ne wr _ k1
        have n2 := World.new_ne wr _ k2
        have hba : Below wr.heap.size wr (wr.alloc (.cells (madeCells #[.int .i64 0, .bool false, .string ⟨#[]⟩, .int .i64 0, .int .i64 0] (m * 5)) 83)) := (Below.refl _ _).alloc (Nat.le_refl _) _
        have kk1 : (wr.alloc (.cells (madeCells #[.int .i64 0, .bool false, .string ⟨#[]⟩, .int .i64 0, .int .i64 0] (m * 5)) 83)).cell? ⟨g, 1, none⟩ = some (.slice (some ⟨gb, 0, none⟩) o o) := (hba.cell (p := ⟨g, 1, none⟩) (World.block_lt_of_cell? _ _ k1)).trans k1
        have kk2 : (wr.alloc (.cells (madeCells #[.int .i64 0, .bool false, .string ⟨#[]⟩, .int .i64 0, .int .i64 0] (m * 5)) 83)).cell? ⟨gb, k * 3, none⟩ = some (.slice none 0 0) := (hba.cell (p := ⟨gb, k * 3, none⟩) (World.block_lt_of_cell? _ _ k2)).trans k2
        have kk3 : (wr.alloc (.cells (madeCells #[.int .i64 0, .bool false, .string ⟨#[]⟩, .int .i64 0, .int .i64 0] (m * 5)) 83)).frozen? ⟨gb, k * 3, none⟩ = false := (hba.frozen (p := ⟨gb, k * 3, none⟩) (World.block_lt_of_cell? _ _ k2)).trans k3
        clear hp hba
        go_wp2_with fail
        go_region
        all_goals
          go_wp2_with fail
          go_roundw
        case rel => exact ⟨k + 1, _, _, by omega, by go_num, HP.out.step hlt⟩
        case measure => simp [intOf]; omega
      · obtain rfl : k = o := by omega
        clear hp
        go_wp2
        go_ret2
        exact ⟨g, σ2, rfl, HP.out.whole Hok.out, HP.out.chg, HP.out.ge.1⟩
end Go.Proofs.Ytapninpdjccglaa.C
