/-
  What the functions of mark do (chapter 13): New, Least, Of, Rise, over a Marks object: a struct in one block, its list in another.
-/
import Derived.Test.YtdnamidhbloaoaaProg
import Derived.Test.YtdnamidhbloaoaaKit
import Derived.RegionTactic
import Derived.BigRegion
import Derived.WalkLawsBesides
import Derived.Outline
import Derived.Lib.Hide
import Derived.StillTailTactics
import Derived.Lib.MinMax
import Derived.Deep.QuietTactic
import Derived.BigQuiet
namespace Go.Proofs.Ytdnamidhbloaoaa.Mark
open Go.RowKit Go.Proofs.Ytdnamidhbloaoaa.K

theorem info2 : (Try.prog.info? 2).map (fun i => (i.zero, i.size, i.bytes)) = some (some (.int .i64 0), 1, 8) := by kernel_rfl

/-- A Marks: its struct in block g, its list in block b. -/
structure Marks (w : World) (g b : Nat) (L : List Int) : Prop where
  str : Blk w g 68 #[.slice (some ⟨b, 0, none⟩) L.length L.length]
  row : Blk w b 2 (ints .i64 L)

theorem new_bad (n : Int) (w : World) (h : n < 1 ∨ 8 < n) :
    Calls Try.prog 11 #[.int .i64 n] w fun e w' => e = .returned (.tuple #[.pointer none, .int .i64 1]) ∧ w = w' := by
  by_cases h1 : n < 1
  · go_enter Try.func11, Try.ntmps11
    go_wp2
    go_ret2
    exact ⟨rfl, rfl⟩
  · have h2 : 8 < n := by omega
    go_enter Try.func11, Try.ntmps11
    go_wp2
    go_ret2
    exact ⟨rfl, rfl⟩

theorem fill_set (k n : Nat) (x z : Int) (h : k < n) : (List.replicate k x ++ List.replicate (n - k) z).set k x = List.replicate (k + 1) x ++ List.replicate (n - (k + 1)) z := by
  obtain ⟨m, rfl⟩ : ∃ m, n = k + 1 + m := ⟨n - k - 1, by omega⟩
  rw [show k + 1 + m - k = m + 1 by omega, show k + 1 + m - (k + 1) = m by omega, List.set_append_right _ _ (by simp), List.replicate_succ (n := m), List.replicate_succ']
  simp

theorem fill_get (k n : Nat) (x z : Int) (h : k < n) : nth (List.replicate k x ++ List.replicate (n - k) z) k = z := by
  obtain ⟨m, rfl⟩ : ∃ m, n = k + 1 + m := ⟨n - k - 1, by omega⟩
  rw [show k + 1 + m - k = m + 1 by omega, nth, List.getD_eq_getElem?_getD, List.getElem?_append_right (by simp)]
  simp

set_option maxHeartbeats 800000 in
theorem new_good (n : Nat) (w : World) (h1 : 1 ≤ n) (h8 : n ≤ 8) :
    Calls Try.prog 11 #[.int .i64 n] w fun e w' => ∃ g b, e = .returned (.tuple #[.pointer (some ⟨g, 0, none⟩), .int .i64 0]) ∧ Marks w' g b (List.replicate n (-4611686018427387904)) ∧ Below w.heap.size w w' ∧ w.heap.size ≤ g ∧ w.heap.size ≤ b := by
  have hmk := fun W => run_make_row' (P := Try.prog) 42 2 (.int .i64 0) 8 Try.underlying42 info2 rfl .i64 .i64 n (by omega) (by omega) W
  have p1 : (1 : Int) ≤ (n : Int) := by omega
  have p8 : (n : Int) ≤ 8 := by omega
  go_enter Try.func11, Try.ntmps11
  go_wp2
  go_loopw [21] (fun i wr => ∃ k : Nat, k ≤ n ∧ i = .int .i64 k ∧ Blk wr (w.heap.size + 1) 68 #[.slice (some ⟨w.heap.size, 0, none⟩) n n] ∧ Blk wr w.heap.size 2 (ints .i64 (List.replicate k (-4611686018427387904) ++ List.replicate (n - k) 0)) ∧ Below w.heap.size w wr)
    (fun i _ => n - (intOf i).toNat)
  case atStart =>
    refine ⟨0, Nat.zero_le _, rfl, ?_, ?_, ((Below.refl _ _).alloc (Nat.le_refl _) _).alloc (by simp) _⟩
    · have := Blk.new (w.alloc (Obj.cells (madeCells #[Value.int IntKind.i64 0] n) 2)) 68 #[Value.slice (some { block := w.heap.size, off := 0 }) n n]
      simpa using this
    · have := (Blk.new w 2 (madeCells #[Value.int IntKind.i64 0] n)).alloc (Obj.cells #[Value.slice (some { block := w.heap.size, off := 0 }) n n] 68)
      rw [List.replicate_zero, List.nil_append, Nat.sub_zero, ← ints_made]
      exact this
  case round =>
    obtain ⟨k, hk, rfl, hg, hb, hbel⟩ := hrel
    have c0 := hg.cell 0
    have f0 := hg.frozen 0
    simp only [List.getElem?_toArray, List.getElem?_cons_zero] at c0
    by_cases hlt : k < n
    · have hcell : wr.cell? ⟨w.heap.size, k, none⟩ = some (.int .i64 0) := by
        rw [hb.cell k, ints_get _ _ _ (by simp; omega), fill_get _ _ _ _ hlt]
      have fk := hb.frozen k
      go_wp2
      go_roundw
      case rel =>
        refine ⟨k + 1, by omega, by go_num, hg.far (by simp) _, ?_, hbel.setCell (Nat.le_refl _) _⟩
        have := hb.set_ k (.int .i64 (-4611686018427387904))
        rw [ints_set, fill_set _ _ _ _ hlt] at this
        exact this
      case measure => simp [intOf]; omega
    · go_wp2
      go_ret2
      obtain rfl : k = n := by omega
      rw [Nat.sub_self, List.replicate_zero, List.append_nil] at hb
      exact ⟨_, _, rfl, ⟨by simpa using hg, hb⟩, hbel, by omega, Nat.le_refl _⟩

/-! ### The least -/
def least : List Int → Int
  | [] => 0
  | a :: l => l.foldl min a

theorem least_snoc (l : List Int) (h : l ≠ []) (x : Int) : least (l ++ [x]) = min (least l) x := by
  cases l with
  | nil => exact absurd rfl h
  | cons a l => simp [least, List.foldl_append]

theorem take_ne (l : List Int) (i : Nat) (h1 : 1 ≤ i) (h : i < l.length) : l.take i ≠ [] := by
  intro e
  rw [List.take_eq_nil_iff] at e
  rcases e with e | e
  · omega
  · subst e; simp at h

theorem least_take (l : List Int) (i : Nat) (h1 : 1 ≤ i) (h : i < l.length) : least (l.take (i + 1)) = min (least (l.take i)) (nth l i) := by
  rw [List.take_succ_eq_append_getElem h, least_snoc _ (take_ne l i h1 h), nth_eq l i h]

theorem min_any (w : World) (b : Nat) (L : List Int) (h : Blk w b 2 (ints .i64 L)) (h1 : 1 ≤ L.length) (h2 : L.length ≤ 1000000) :
    Calls Try.prog 32 #[.slice (some ⟨b, 0, none⟩) L.length L.length] w fun e w' => e = .returned (.int .i64 (least L)) ∧ w = w' := by
  have c0 := h.cell 0
  rw [ints_get _ _ _ (by omega)] at c0
  have p1 : (1 : Int) ≤ (L.length : Int) := by omega
  go_enter Try.func32, Try.ntmps32
  go_wp2
  go_loop [3, 4] (fun m i => ∃ k : Nat, 1 ≤ k ∧ k ≤ L.length ∧ i = .int .i64 k ∧ m = .int .i64 (least (L.take k))) (fun _ i => L.length - (intOf i).toNat)
  case atStart =>
    refine ⟨1, Nat.le_refl _, h1, rfl, ?_⟩
    cases L with
    | nil => simp at h1
    | cons a l => simp [least, nth]
  case round =>
    obtain ⟨k, hk1, hk, rfl, rfl⟩ := hrel
    by_cases hlt : k < L.length
    · have hc := h.cell k
      rw [ints_get _ _ _ hlt] at hc
      have hs := Lib.hid (least_take L k hk1 hlt)
      go_wp2
      go_round
      case rel => exact ⟨k + 1, by omega, by omega, by go_num, by rw [hs.out]⟩
      case measure => simp [intOf]; omega
    · obtain rfl : k = L.length := by omega
      go_wp2
      go_ret
      exact ⟨rfl, rfl⟩

theorem least_any (w : World) (g b : Nat) (L : List Int) (h : Marks w g b L) (h1 : 1 ≤ L.length) (h2 : L.length ≤ 1000000) :
    Calls Try.prog 15 #[.pointer (some ⟨g, 0, none⟩)] w fun e w' => e = .returned (.int .i64 (least L)) ∧ w = w' := by
  have c0 := h.str.cell 0
  simp only [List.getElem?_toArray, List.getElem?_cons_zero] at c0
  go_enter Try.func15, Try.ntmps15
  go_wp2_with (go_at_call 32; refine (min_any _ b L h.row h1 h2).mono ?_; rintro e w' ⟨rfl, rfl⟩)
  go_ret
  exact ⟨rfl, rfl⟩

theorem of_bad (w : World) (g b : Nat) (L : List Int) (s : Int) (h : Marks w g b L) (hs : s < 0 ∨ (L.length : Int) ≤ s) :
    Calls Try.prog 17 #[.pointer (some ⟨g, 0, none⟩), .int .i64 s] w fun e w' => e = .returned (.int .i64 (-4611686018427387904)) ∧ w = w' := by
  have c0 := h.str.cell 0
  simp only [List.getElem?_toArray, List.getElem?_cons_zero] at c0
  by_cases h0 : s < 0
  · go_enter Try.func17, Try.ntmps17
    go_wp2
    go_ret
    exact ⟨rfl, rfl⟩
  · have h3 : (L.length : Int) ≤ s := by omega
    go_enter Try.func17, Try.ntmps17
    go_wp2
    go_ret
    exact ⟨rfl, rfl⟩

theorem of_good (w : World) (g b : Nat) (L : List Int) (s : Nat) (h : Marks w g b L) (hs : s < L.length) :
    Calls Try.prog 17 #[.pointer (some ⟨g, 0, none⟩), .int .i64 s] w fun e w' => e = .returned (.int .i64 (nth L s)) ∧ w = w' := by
  have c0 := h.str.cell 0
  simp only [List.getElem?_toArray, List.getElem?_cons_zero] at c0
  have hc := h.row.cell s
  rw [ints_get _ _ _ hs] at hc
  go_enter Try.func17, Try.ntmps17
  go_wp2
  go_ret
  exact ⟨rfl, rfl⟩

theorem rise_arg (w : World) (g b : Nat) (L : List Int) (s t : Int) (h : Marks w g b L) (hs : s < 0 ∨ (L.length : Int) ≤ s) :
    Calls Try.prog 13 #[.pointer (some ⟨g, 0, none⟩), .int .i64 s, .int .i64 t] w fun e w' => e = .returned (.tuple #[.bool false, .int .i64 1]) ∧ w = w' := by
  have c0 := h.str.cell 0
  simp only [List.getElem?_toArray, List.getElem?_cons_zero] at c0
  by_cases h0 : s < 0
  · go_enter Try.func13, Try.ntmps13
    go_wp2
    go_ret2
    exact ⟨rfl, rfl⟩
  · have h3 : (L.length : Int) ≤ s := by omega
    go_enter Try.func13, Try.ntmps13
    go_wp2
    go_ret2
    exact ⟨rfl, rfl⟩

theorem rise_time (w : World) (g b : Nat) (L : List Int) (s : Nat) (t : Int) (h : Marks w g b L) (hs : s < L.length) (ht : t < -1152921504606846976 ∨ 1152921504606846976 < t) :
    Calls Try.prog 13 #[.pointer (some ⟨g, 0, none⟩), .int .i64 s, .int .i64 t] w fun e w' => e = .returned (.tuple #[.bool false, .int .i64 22]) ∧ w = w' := by
  have c0 := h.str.cell 0
  simp only [List.getElem?_toArray, List.getElem?_cons_zero] at c0
  by_cases h0 : t < -1152921504606846976
  · go_enter Try.func13, Try.ntmps13
    go_wp2
    go_ret2
    exact ⟨rfl, rfl⟩
  · have h3 : 1152921504606846976 < t := by omega
    go_enter Try.func13, Try.ntmps13
    go_wp2
    go_ret2
    exact ⟨rfl, rfl⟩

set_option maxHeartbeats 800000 in
theorem rise_good (w : World) (g b : Nat) (L : List Int) (s : Nat) (t : Int) (h : Marks w g b L) (hs : s < L.length) (h2 : L.length ≤ 1000000) (ht0 : -1152921504606846976 ≤ t) (ht1 : t ≤ 1152921504606846976) :
    Calls Try.prog 13 #[.pointer (some ⟨g, 0, none⟩), .int .i64 s, .int .i64 t] w fun e w' =>
      e = .returned (.tuple #[.bool (decide (least L < least (L.set s (max (nth L s) t)))), .int .i64 0]) ∧ Marks w' g b (L.set s (max (nth L s) t)) ∧ Only [b] w w' := by
  have c0 := h.str.cell 0
  simp only [List.getElem?_toArray, List.getElem?_cons_zero] at c0
  have hc := h.row.cell s
  rw [ints_get _ _ _ hs] at hc
  have fc := h.row.frozen s
  go_enter Try.func13, Try.ntmps13
  go_wp2_with (go_at_call 15; refine (least_any _ g b L h (by omega) h2).mono ?_; rintro e w' ⟨rfl, rfl⟩)
  go_still_tail 15, (by kernel_rfl)
  go_wp2_with fail
  have hM : Marks (w.setCell ⟨b, s, none⟩ (.int .i64 (max (nth L s) t))).drew g b (L.set s (max (nth L s) t)) := by
    refine ⟨?_, ?_⟩
    · rw [List.length_set]
      exact (h.str.far (p := ⟨b, s, none⟩) (h.str.ne_ h.row (by decide)) _).drew
    · have := (h.row.set_ s (.int .i64 (max (nth L s) t))).drew
      rw [ints_set] at this
      exact this
  refine (least_any _ g b _ hM (by simpa using (by omega)) (by simpa using h2)).mono ?_
  rintro e w' ⟨rfl, rfl⟩
  go_wp2
  go_ret2
  exact ⟨rfl, hM, ((Only.refl [b] w).setCell (.inl (by simp)) _).drew⟩

end Go.Proofs.Ytdnamidhbloaoaa.Mark
