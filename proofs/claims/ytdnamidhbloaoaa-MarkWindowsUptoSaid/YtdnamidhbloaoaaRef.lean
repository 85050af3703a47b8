/-
  What the reference's marks do (spateref13): New, Least, Of, Rise.
-/
import Derived.Test.YtdnamidhbloaoaaMark
import Derived.Deep.AppendLies
namespace Go.Proofs.Ytdnamidhbloaoaa.Mark
open Go.RowKit Go.Proofs.Ytdnamidhbloaoaa.K

/-- A reference's Marks: its struct in block g, its list in block b. -/
structure RMarks (w : World) (g b cap : Nat) (L : List Int) : Prop where
  str : Blk w g 70 #[.slice (some ⟨b, 0, none⟩) L.length cap]
  row : w.ownsRow 0 2 1 (.slice (some ⟨b, 0, none⟩) L.length cap) L.length (nums .i64 L)

theorem rnew_bad (n : Int) (w : World) (h : n < 1 ∨ 8 < n) :
    Calls Try.prog 12 #[.int .i64 n] w fun e w' => e = .returned (.tuple #[.pointer none, .int .i64 1]) ∧ w = w' := by
  by_cases h1 : n < 1
  · go_enter Try.func12, Try.ntmps12
    go_wp2
    go_ret2
    exact ⟨rfl, rfl⟩
  · have h2 : 8 < n := by omega
    go_enter Try.func12, Try.ntmps12
    go_wp2
    go_ret2
    exact ⟨rfl, rfl⟩

set_option maxHeartbeats 800000 in
theorem rnew_good (n : Nat) (w : World) (h1 : 1 ≤ n) (h8 : n ≤ 8) :
    Calls Try.prog 12 #[.int .i64 n] w fun e w' => ∃ g b cap, e = .returned (.tuple #[.pointer (some ⟨g, 0, none⟩), .int .i64 0]) ∧ RMarks w' g b cap (List.replicate n (-4611686018427387904)) ∧ Below w.heap.size w w' ∧ w.heap.size ≤ g ∧ w.heap.size ≤ b := by
  obtain ⟨i0, hi, hz0, hz1, hz2⟩ := info_parts info2
  have p1 : (1 : Int) ≤ (n : Int) := by omega
  have p8 : (n : Int) ≤ 8 := by omega
  go_enter Try.func12, Try.ntmps12
  go_wp2
  go_loopw [5] (fun i wr => ∃ (k : Nat) (v : Value), k ≤ n ∧ i = .int .i64 k ∧ Blk wr w.heap.size 70 #[v] ∧ wr.ownsRow (w.heap.size + 1) 2 1 v k (nums .i64 (List.replicate k (-4611686018427387904))) ∧ Below w.heap.size w wr)
    (fun i _ => n - (intOf i).toNat)
  case atStart =>
    exact ⟨0, .slice none 0 0, Nat.zero_le _, rfl, Blk.new _ _ _, World.ownsRow_nil _ _ _ _, (Below.refl _ _).alloc (Nat.le_refl _) _⟩
  case round =>
    obtain ⟨k, v, hk, rfl, hg, hown, hbel⟩ := hrel
    have c0 := hg.cell 0
    have f0 := hg.frozen 0
    have hlt0 := hg.lt
    simp only [List.getElem?_toArray, List.getElem?_cons_zero] at c0
    by_cases hlt : k < n
    · go_wp2_with (at_builtin; refine wpList_append_lies _ rfl _ _ _ rfl (w.heap.size + 1) 2 i0 (.int .i64 0) 1 8 Try.underlying42 hi hz0 hz1 hz2 rfl (by omega) v k _ (by rfl) (hown.alloc _) ⟨wr.heap.size, 0, none⟩ 1 1 [.int .i64 (-4611686018427387904)] (by rfl) rfl ?c1 ?c2 (by omega) (by unfold maxLen; omega) (by omega) ?c5 (wr.heap.size + 1) (by simp) ?_)
      case c1 => exact World.news_of_block (heap_alloc_new _ _)
      case c2 => intro u hu; simp at hu; subst hu; rfl
      case c5 => have := hbel.size; simp; omega
      intro g' cap w1 hown1 hgrow hat hlt1
      have hg1 : w.heap.size + 1 ≤ g' := (hown1.lt g' rfl).1
      have hgv : some w.heap.size ≠ v.ownBlock := fun e => by have := (hown.lt _ e.symm).1; omega
      have hblk : Blk w1 w.heap.size 70 #[v] := (hgrow.block _ (by simp; omega) hgv).trans (hg.alloc _)
      have hbel1 : Below w.heap.size w w1 := (hbel.alloc hbel.size _).grown hgrow (by have := hbel.size; simp; omega) (fun k e => by have := (hown.lt _ e).1; omega)
      have d0 := hblk.cell 0
      have e0 := hblk.frozen 0
      simp only [List.getElem?_toArray, List.getElem?_cons_zero] at d0
      clear hgrow hat c0 f0
      go_wp2
      go_roundw
      case rel =>
        refine ⟨k + 1, .slice (some ⟨g', 0, none⟩) (k + 1) cap, by omega, by go_num, by simpa using hblk.set_ 0 _, ?_, hbel1.setCell (Nat.le_refl _) _⟩
        have h2 := ownsRow_setCell_below hown1 (a := ⟨w.heap.size, 0, none⟩) (by simp) (.slice (some ⟨g', 0, none⟩) (k + 1) cap)
        rw [List.replicate_succ']
        simpa [nums] using h2
      case measure => simp [intOf]; omega
    · obtain rfl : k = n := by omega
      obtain ⟨g', cap, rfl, hg', _⟩ := hown.form (by omega)
      go_wp2
      go_ret2
      refine ⟨w.heap.size, g', cap, rfl, ⟨by simpa using hg, ?_⟩, hbel, Nat.le_refl _, by omega⟩
      simpa using own_mono hown (Nat.zero_le _)

theorem rleast_step (L : List Int) (k : Nat) (h : k < L.length) : least (L.take (max 1 (k + 1))) = if nth L k < least (L.take (max 1 k)) then nth L k else least (L.take (max 1 k)) := by
  cases k with
  | zero =>
    cases L with
    | nil => simp at h
    | cons a l => simp [least, nth]
  | succ k =>
    rw [show max 1 (k + 1 + 1) = (k + 1) + 1 by omega, show max 1 (k + 1) = k + 1 by omega, least_take L (k + 1) (by omega) h]
    rw [Int.min_def]
    split <;> split <;> omega

theorem rleast_any (w : World) (g b cap : Nat) (L : List Int) (h : RMarks w g b cap L) (h1 : 1 ≤ L.length) (h2 : L.length ≤ 1000000) :
    Calls Try.prog 16 #[.pointer (some ⟨g, 0, none⟩)] w fun e w' => e = .returned (.int .i64 (least L)) ∧ w = w' := by
  have c0 := h.str.cell 0
  simp only [List.getElem?_toArray, List.getElem?_cons_zero] at c0
  have hc0 := h.row.cellAt 0 (by omega)
  rw [nums_get _ _ _ (by omega)] at hc0
  have p1 : (1 : Int) ≤ (L.length : Int) := by omega
  go_enter Try.func16, Try.ntmps16
  go_wp2
  go_loop [3, 4] (fun m i => ∃ k : Nat, k ≤ L.length ∧ i = .int .i64 k ∧ m = .int .i64 (least (L.take (max 1 k)))) (fun _ i => L.length - (intOf i).toNat)
  case atStart =>
    refine ⟨0, Nat.zero_le _, rfl, ?_⟩
    cases L with
    | nil => simp at h1
    | cons a l => simp [least, nth]
  case round =>
    obtain ⟨k, hk, rfl, rfl⟩ := hrel
    by_cases hlt : k < L.length
    · have hc := h.row.cellAt k (by omega)
      rw [nums_get _ _ _ hlt] at hc
      have hs := Lib.hid (rleast_step L k hlt)
      by_cases hm : nth L k < least (L.take (max 1 k))
      · go_wp2
        go_round
        case rel => exact ⟨k + 1, by omega, by go_num, by rw [hs.out, if_pos hm]⟩
        case measure => simp [intOf]; omega
      · go_wp2
        go_round
        case rel => exact ⟨k + 1, by omega, by go_num, by rw [hs.out, if_neg hm]⟩
        case measure => simp [intOf]; omega
    · obtain rfl : k = L.length := by omega
      have hs : max 1 L.length = L.length := by omega
      rw [hs, List.take_length]
      go_wp2
      go_ret
      exact ⟨rfl, rfl⟩

theorem rof_bad (w : World) (g b cap : Nat) (L : List Int) (s : Int) (h : RMarks w g b cap L) (hs : s < 0 ∨ (L.length : Int) ≤ s) :
    Calls Try.prog 18 #[.pointer (some ⟨g, 0, none⟩), .int .i64 s] w fun e w' => e = .returned (.int .i64 (-4611686018427387904)) ∧ w = w' := by
  have c0 := h.str.cell 0
  simp only [List.getElem?_toArray, List.getElem?_cons_zero] at c0
  by_cases h0 : s < 0
  · go_enter Try.func18, Try.ntmps18
    go_wp2
    go_ret
    exact ⟨rfl, rfl⟩
  · have h3 : (L.length : Int) ≤ s := by omega
    go_enter Try.func18, Try.ntmps18
    go_wp2
    go_ret
    exact ⟨rfl, rfl⟩

theorem rof_good (w : World) (g b cap : Nat) (L : List Int) (s : Nat) (h : RMarks w g b cap L) (hs : s < L.length) :
    Calls Try.prog 18 #[.pointer (some ⟨g, 0, none⟩), .int .i64 s] w fun e w' => e = .returned (.int .i64 (nth L s)) ∧ w = w' := by
  have c0 := h.str.cell 0
  simp only [List.getElem?_toArray, List.getElem?_cons_zero] at c0
  have hc := h.row.cellAt s (by omega)
  rw [nums_get _ _ _ hs] at hc
  go_enter Try.func18, Try.ntmps18
  go_wp2
  go_ret
  exact ⟨rfl, rfl⟩

theorem rrise_arg (w : World) (g b cap : Nat) (L : List Int) (s t : Int) (h : RMarks w g b cap L) (hs : s < 0 ∨ (L.length : Int) ≤ s) :
    Calls Try.prog 14 #[.pointer (some ⟨g, 0, none⟩), .int .i64 s, .int .i64 t] w fun e w' => e = .returned (.tuple #[.bool false, .int .i64 1]) ∧ w = w' := by
  have c0 := h.str.cell 0
  simp only [List.getElem?_toArray, List.getElem?_cons_zero] at c0
  by_cases h0 : s < 0
  · go_enter Try.func14, Try.ntmps14
    go_wp2
    go_ret2
    exact ⟨rfl, rfl⟩
  · have h3 : (L.length : Int) ≤ s := by omega
    go_enter Try.func14, Try.ntmps14
    go_wp2
    go_ret2
    exact ⟨rfl, rfl⟩

theorem rrise_time (w : World) (g b cap : Nat) (L : List Int) (s : Nat) (t : Int) (h : RMarks w g b cap L) (hs : s < L.length) (ht : t < -1152921504606846976 ∨ 1152921504606846976 < t) :
    Calls Try.prog 14 #[.pointer (some ⟨g, 0, none⟩), .int .i64 s, .int .i64 t] w fun e w' => e = .returned (.tuple #[.bool false, .int .i64 22]) ∧ w = w' := by
  have c0 := h.str.cell 0
  simp only [List.getElem?_toArray, List.getElem?_cons_zero] at c0
  have hl : L.length ≤ 9223372036854775807 := by
    rcases h.row.2 with ⟨_, h0⟩ | ⟨g', cap', cur, he, _, _, h1, h2, _⟩
    · omega
    · simp only [maxLen] at h2
      omega
  by_cases h0 : t < -1152921504606846976
  · go_enter Try.func14, Try.ntmps14
    go_wp2
    go_ret2
    exact ⟨rfl, rfl⟩
  · have h3 : 1152921504606846976 < t := by omega
    go_enter Try.func14, Try.ntmps14
    go_wp2
    go_ret2
    exact ⟨rfl, rfl⟩

set_option maxHeartbeats 800000 in
theorem rrise_good (w : World) (g b cap : Nat) (L : List Int) (s : Nat) (t : Int) (h : RMarks w g b cap L) (hs : s < L.length) (h2 : L.length ≤ 1000000) (ht0 : -1152921504606846976 ≤ t) (ht1 : t ≤ 1152921504606846976) :
    Calls Try.prog 14 #[.pointer (some ⟨g, 0, none⟩), .int .i64 s, .int .i64 t] w fun e w' =>
      e = .returned (.tuple #[.bool (decide (least L < least (L.set s (max (nth L s) t)))), .int .i64 0]) ∧ RMarks w' g b cap (L.set s (max (nth L s) t)) ∧ Only [b] w w' := by
  have c0 := h.str.cell 0
  simp only [List.getElem?_toArray, List.getElem?_cons_zero] at c0
  have hc := h.row.cellAt s (by omega)
  rw [nums_get _ _ _ hs] at hc
  have fc := h.row.frozenAt s
  have hgb : g ≠ b := by
    rcases h.row.2 with ⟨he, _⟩ | ⟨g', cap', cur, he, _, hh, _⟩
    · cases he
    · injection he with e1 _ _; injection e1 with e1; injection e1 with e1 _ _; subst e1
      exact h.str.ne_ (t' := 2) hh (by decide)
  by_cases hgt : nth L s < t
  · have hmax : max (nth L s) t = t := by omega
    rw [hmax]
    clear hmax
    go_enter Try.func14, Try.ntmps14
    go_wp2_with (go_at_call 16; refine (rleast_any _ g b cap L h (by omega) h2).mono ?_; rintro e w' ⟨rfl, rfl⟩)
    have hM : RMarks (w.setCell ⟨b, s, none⟩ (.int .i64 t)) g b cap (L.set s t) := by
      refine ⟨?_, ?_⟩
      · rw [List.length_set]
        exact h.str.far (p := ⟨b, s, none⟩) hgb _
      · have h3 := h.row.stored s (.int .i64 t)
        rw [nums_set] at h3
        rw [List.length_set]
        exact h3.1
    refine (rleast_any _ g b cap _ hM (by simpa using (by omega)) (by simpa using h2)).mono ?_
    rintro e w' ⟨rfl, rfl⟩
    go_wp2
    go_ret2
    exact ⟨rfl, hM, (Only.refl [b] w).setCell (.inl (by simp)) _⟩
  · have hmax : max (nth L s) t = nth L s := by omega
    rw [hmax, set_nth]
    clear hmax
    go_enter Try.func14, Try.ntmps14
    go_wp2_with (go_at_call 16; refine (rleast_any _ g b cap L h (by omega) h2).mono ?_; rintro e w' ⟨rfl, rfl⟩)
    go_ret2
    exact ⟨by simp, h, Only.refl _ _⟩
end Go.Proofs.Ytdnamidhbloaoaa.Mark
