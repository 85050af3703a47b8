/-
  Locks: Ask that is refused; Free that is refused.
-/
import Derived.Test.YtgcnappgecdldaaE2
import Derived.Stop.IfaceNil
set_option linter.unusedVariables false
set_option linter.unusedSimpArgs false
namespace Go.Proofs.Ytgcnappgecdldaa.C
open Go.RowKit Go.Proofs.Ytgcnappgecdldaa.K Go.Maps

/-- An error that wraps a number. -/
def Ref (w : World) (v : Value) (k : Int) : Prop := ∃ pb, v = .iface 82 (.pointer (some ⟨pb, 0, none⟩)) ∧ w.cell? ⟨pb, 1, none⟩ = some (.iface 26 (.int .i64 k))
theorem Ref.below {w w' : World} {v : Value} {k : Int} (h : Ref w v k) (hb : Below w.heap.size w w') : Ref w' v k := by
  obtain ⟨pb, rfl, hc⟩ := h
  exact ⟨pb, rfl, (hb.cell (p := ⟨pb, 1, none⟩) (World.block_lt_of_cell? w _ hc)).trans hc⟩
theorem Ref.new (w : World) (t k : Int) : Ref (w.alloc (.cells #[.int .i64 t, .iface 26 (.int .i64 k)] 84)) (.iface 82 (.pointer (some ⟨w.heap.size, 0, none⟩))) k :=
  ⟨w.heap.size, rfl, by rw [(Blk.new w 84 #[.int .i64 t, .iface 26 (.int .i64 k)]).cell]; rfl⟩

set_option maxRecDepth 100000 in
set_option maxHeartbeats 3200000 in
theorem ask_no (w : World) (σ : Nat → Nat) (t g : Nat) (M : Mgr) (h : MgrAt w σ t g M) (task : Int) (A : Option Addr) (n cp : Nat) (L : List (Int × Bool)) (hl : L.length = n) (hn : n ≤ 2000) (hL : LksAt w A L) (hwf : ∀ p ∈ L, (Lit.int .i64 p.1).wf = true)
    (hbad : task < 0 ∨ ¬ Asks M.m L) :
    Calls Try.prog 15 #[.pointer (some ⟨g, 0, none⟩), .int .i64 task, .slice A n cp] w fun e w' => ∃ v, e = .returned (.tuple #[.bool false, v]) ∧ Ref w' v 1 ∧ Below w.heap.size w w' := by
  obtain ⟨vh, vq, h⟩ := h
  have hm2 := h.m2
  have c0 := h.c0
  by_cases hA : Asks M.m L
  · have ht : task < 0 := by
      rcases hbad with h | h
      · exact h
      · exact absurd hA h
    have hset := set_yes w g M.m c0 hm2 A n cp L hl hn hL hA
    have HSt := Lib.hid hset
    clear hset hbad h c0 hm2 hL
    go_enter Try.func15, Try.ntmps15
    go_wp2_with fail
    refine HSt.out.mono ?_
    rintro e w1 ⟨b, D, rfl, hbw, hD, hhow, hb1⟩
    have HB := Lib.hid hb1
    clear hb1 hD hhow hbw HSt
    go_wp2_with fail
    go_ret2
    exact ⟨_, rfl, Ref.new w1 task 1, Below.then_ HB.out HB.out.size ((Below.refl _ _).alloc (Nat.le_refl _) _)⟩
  · have hset := set_no w g M.m c0 hm2 A n cp L hl hn hL hwf hA
    have HSt := Lib.hid hset
    clear hset hbad h c0 hm2 hL
    by_cases ht : task < 0
    · go_enter Try.func15, Try.ntmps15
      go_wp2_with fail
      refine HSt.out.mono ?_
      rintro e w1 ⟨rfl, hb1⟩
      have HB := Lib.hid hb1
      clear hb1 HSt
      go_wp2_with fail
      go_ret2
      exact ⟨_, rfl, Ref.new w1 task 1, Below.then_ HB.out HB.out.size ((Below.refl _ _).alloc (Nat.le_refl _) _)⟩
    · go_enter Try.func15, Try.ntmps15
      go_wp2_with fail
      refine HSt.out.mono ?_
      rintro e w1 ⟨rfl, hb1⟩
      have HB := Lib.hid hb1
      clear hb1 HSt
      go_wp2_with fail
      go_ret2
      exact ⟨_, rfl, Ref.new w1 task 1, Below.then_ HB.out HB.out.size ((Below.refl _ _).alloc (Nat.le_refl _) _)⟩

set_option maxRecDepth 100000 in
set_option maxHeartbeats 3200000 in
theorem ask_held (w : World) (σ : Nat → Nat) (t g : Nat) (M : Mgr) (h : MgrAt w σ t g M) (task : Int) (ht : 0 ≤ task) (A : Option Addr) (n cp : Nat) (L : List (Int × Bool)) (hl : L.length = n) (hn : n ≤ 2000) (hL : LksAt w A L)
    (hA : Asks M.m L) (hh : M.has.any (fun c => c.task == task) = true ∨ M.queue.any (fun c => c.task == task) = true) :
    Calls Try.prog 15 #[.pointer (some ⟨g, 0, none⟩), .int .i64 task, .slice A n cp] w fun e w' => ∃ v, e = .returned (.tuple #[.bool false, v]) ∧ Ref w' v 41 ∧ Below w.heap.size w w' := by
  obtain ⟨vh, vq, h⟩ := h
  obtain ⟨Ah, ch, rfl⟩ := h.has.slice
  obtain ⟨Aq, cq, rfl⟩ := h.queue.slice
  have hset := set_yes w g M.m h.c0 h.m2 A n cp L hl hn hL hA
  obtain ⟨i1, hi1⟩ : ∃ i, place M.has (fun c => c.task == task) = i := ⟨_, rfl⟩
  obtain ⟨i2, hi2⟩ : ∃ i, place M.queue (fun c => c.task == task) = i := ⟨_, rfl⟩
  have hd1 := place_any M.has (fun c => c.task == task)
  have hd2 := place_any M.queue (fun c => c.task == task)
  rw [hi1] at hd1
  rw [hi2] at hd2
  have hf1 := fun W (hb : Below w.heap.size w W) => find_c W Ah M.has.length ch M.has rfl (by have := h.hl; omega) ((row_claims h.has (fun c hc => (h.sets c (.inl hc)).1)).below hb) task i1 hi1
  have hf2 := fun W (hb : Below w.heap.size w W) => find_c W Aq M.queue.length cq M.queue rfl (by have := h.ql; omega) ((row_claims h.queue (fun c hc => (h.sets c (.inr hc)).1)).below hb) task i2 hi2
  have ht0 : ¬ task < 0 := by omega
  have H := Lib.hid h
  have Hset := Lib.hid hset
  have HF1 := Lib.hid hf1
  have HF2 := Lib.hid hf2
  obtain ⟨nh, hnh'⟩ : ∃ x, M.has.length = x := ⟨_, rfl⟩
  obtain ⟨nq, hnq'⟩ : ∃ x, M.queue.length = x := ⟨_, rfl⟩
  rw [hnh'] at H HF1
  rw [hnq'] at H HF2
  rcases hj : M.has.any (fun c => c.task == task) with _ | _
  · have hj1 : ¬ 0 ≤ i1 := by rw [hj] at hd1; simpa using hd1
    have hj2 : 0 ≤ i2 := by
      rcases hh with h | h
      · rw [hj] at h; cases h
      · rw [h] at hd2; simpa using hd2
    clear h hset hf1 hf2 hi1 hi2 hd1 hd2 hh hL hA hnh' hnq' ht hj
    go_enter Try.func15, Try.ntmps15
    go_wp2_with fail
    refine Hset.out.mono ?_
    rintro e w1 ⟨b, D, rfl, hbw, hD, hhow, hb1⟩
    have H1 := Lib.hid hb1
    have c1 := (H.out.below hb1).c1
    clear hb1 hD hhow hbw
    go_wp2_with fail
    refine (HF1.out _ H1.out).mono ?_
    rintro e w2 ⟨rfl, hb2⟩
    have HB2 := Lib.hid (Below.then_ H1.out H1.out.size hb2)
    clear hb2 c1
    have c2 := (H.out.below HB2.out).c2
    go_wp2_with fail
    refine (HF2.out _ HB2.out).mono ?_
    rintro e w3 ⟨rfl, hb3⟩
    have HB3 := Lib.hid (Below.then_ HB2.out HB2.out.size hb3)
    clear hb3 c2 HB2
    go_wp2_with fail
    go_ret2
    exact ⟨_, rfl, Ref.new w3 task 41, Below.then_ HB3.out HB3.out.size ((Below.refl _ _).alloc (Nat.le_refl _) _)⟩
  · have hj1 : 0 ≤ i1 := by rw [hj] at hd1; simpa using hd1
    clear h hset hf1 hf2 hi1 hi2 hd1 hd2 hh hL hA hnh' hnq' ht hj
    go_enter Try.func15, Try.ntmps15
    go_wp2_with fail
    refine Hset.out.mono ?_
    rintro e w1 ⟨b, D, rfl, hbw, hD, hhow, hb1⟩
    have H1 := Lib.hid hb1
    have c1 := (H.out.below hb1).c1
    clear hb1 hD hhow hbw
    go_wp2_with fail
    refine (HF1.out _ H1.out).mono ?_
    rintro e w2 ⟨rfl, hb2⟩
    have HB2 := Lib.hid (Below.then_ H1.out H1.out.size hb2)
    clear hb2 c1
    go_wp2_with fail
    go_ret2
    exact ⟨_, rfl, Ref.new w2 task 41, Below.then_ HB2.out HB2.out.size ((Below.refl _ _).alloc (Nat.le_refl _) _)⟩

set_option maxRecDepth 100000 in
set_option maxHeartbeats 1600000 in
theorem free_no (w : World) (σ : Nat → Nat) (t g : Nat) (M : Mgr) (h : MgrAt w σ t g M) (task : Int) (hj : M.has.any (fun c => c.task == task) = false) :
    Calls Try.prog 18 #[.pointer (some ⟨g, 0, none⟩), .int .i64 task] w fun e w' => ∃ v, e = .returned (.tuple #[.slice none 0 0, v]) ∧ Ref w' v 42 ∧ Below w.heap.size w w' := by
  obtain ⟨vh, vq, h⟩ := h
  obtain ⟨Ah, ch, rfl⟩ := h.has.slice
  obtain ⟨i1, hi1⟩ : ∃ i, place M.has (fun c => c.task == task) = i := ⟨_, rfl⟩
  have hd1 := place_any M.has (fun c => c.task == task)
  rw [hi1, hj] at hd1
  have hj1 : i1 < 0 := by simpa using hd1
  have hf1 := find_c w Ah M.has.length ch M.has rfl (by have := h.hl; omega) (row_claims h.has (fun c hc => (h.sets c (.inl hc)).1)) task i1 hi1
  have c1 := h.c1
  have HF := Lib.hid hf1
  clear h hf1 hd1 hi1 hj
  generalize M.has.length = n at c1 HF
  go_enter Try.func18, Try.ntmps18
  go_wp2_with fail
  refine HF.out.mono ?_
  rintro e w2 ⟨rfl, hb2⟩
  have HB := Lib.hid hb2
  clear hb2 c1
  have hblk := Blk.new w2 84 #[.int .i64 task, .iface 26 (.int .i64 42)]
  have hcell : (w2.alloc (.cells #[.int .i64 task, .iface 26 (.int .i64 42)] 84)).cell? ⟨w2.heap.size, 1, none⟩ = some (.iface 26 (.int .i64 42)) := by rw [hblk.cell]; rfl
  have his := is_refused w2.heap.size 42 42 _ hcell true (by simp)
  have HI := Lib.hid his
  clear hblk hcell his
  go_wp2_with fail
  refine HI.out.mono ?_
  rintro e w3 ⟨rfl, rfl⟩
  go_wp2_with fail
  go_ret2
  exact ⟨_, rfl, Ref.new w2 task 42, Below.then_ HB.out HB.out.size ((Below.refl _ _).alloc (Nat.le_refl _) _)⟩

/-- is: of an error that wraps a number. -/
theorem is_c (w : World) (v : Value) (a b : Int) (hv : Ref w v a) (hb : b ≠ 0) (r : Bool) (hr : (a == b) = r) :
    Calls Try.prog 37 #[v, .int .i64 b] w fun e w' => e = .returned (.bool r) ∧ w' = w := by
  obtain ⟨pb, rfl, hc⟩ := hv
  have hh := is_refused pb a b w hc r hr
  have HH := Lib.hid hh
  have hb0 : (b == 0) = false := by simpa using hb
  clear hh hc
  go_enter Try.func37, Try.ntmps37
  go_wp2_with fail
  refine HH.out.mono ?_
  rintro e w3 ⟨rfl, rfl⟩
  go_wp2_with fail
  go_ret
  exact ⟨rfl, rfl⟩
theorem is_ok (w : World) : Calls Try.prog 37 #[.nilIface, .int .i64 0] w fun e w' => e = .returned (.bool true) ∧ w' = w := by
  go_enter Try.func37, Try.ntmps37
  go_wp2
  go_ret
  exact ⟨rfl, rfl⟩
end Go.Proofs.Ytgcnappgecdldaa.C
