/-
  Locks: Queue.
-/
import Derived.Test.YtgcnappgecdldaaL4
import Derived.Test.YtgcnappgecdldaaOpen
import Derived.Deep.RegionLaw
set_option linter.unusedVariables false
set_option linter.unusedSimpArgs false
namespace Go.Proofs.Ytgcnappgecdldaa.C
open Go.RowKit Go.Proofs.Ytgcnappgecdldaa.K Go.Maps

theorem info3p : (Try.prog.info? 3).map (fun i => (i.zero, i.size, i.bytes)) = some (some (.int .i64 0), 1, 8) := by kernel_rfl
theorem info_parts2 {t : TypeId} {z : Value} {s b : Nat} (h : (Try.prog.info? t).map (fun i => (i.zero, i.size, i.bytes)) = some (some z, s, b)) : ∃ i, Try.prog.info? t = some i ∧ i.zero = some z ∧ i.size = s ∧ i.bytes = b := by
  rcases hi : Try.prog.info? t with _ | i
  · rw [hi] at h; cases h
  · rw [hi] at h
    simp at h
    exact ⟨i, rfl, h.1, h.2.1, h.2.2⟩
theorem reads_new2 (w : World) (cs : Array Value) (t : TypeId) : Reads (w.alloc (.cells cs t)) (some ⟨w.heap.size, 0, none⟩) cs.toList := by
  intro j u hu
  refine ⟨_, rfl, ?_⟩
  rw [add_plain, Nat.zero_add, World.cell?_alloc_new]
  simpa using hu
def tasks (l : List Clm) : List Value := l.map fun c => .int .i64 c.task
theorem tasks_length (l : List Clm) : (tasks l).length = l.length := by simp [tasks]

set_option maxRecDepth 100000 in
set_option maxHeartbeats 1600000 in
theorem queue_c (w : World) (σ : Nat → Nat) (t g : Nat) (M : Mgr) (h : MgrAt w σ t g M) :
    Calls Try.prog 21 #[.pointer (some ⟨g, 0, none⟩)] w fun e w' => ∃ v, e = .returned v ∧ w'.ownsRow w.heap.size 3 1 v M.queue.length (tasks M.queue) ∧ Below w.heap.size w w' := by
  obtain ⟨vh, vq, h⟩ := h
  obtain ⟨Aq, cq, rfl⟩ := h.queue.slice
  obtain ⟨n, hn⟩ : ∃ n, M.queue.length = n := ⟨_, rfl⟩
  have hn2 := h.ql
  have hcl := row_claims h.queue (fun c hc => (h.sets c (.inr hc)).1)
  have c2 := h.c2
  rw [hn] at hn2 c2 ⊢
  have Hn := Lib.hid hn
  have HC := Lib.hid hcl
  obtain ⟨i1, hi1, hy0, hy1, hy2⟩ := info_parts2 info3p
  have HI := Lib.hid (And.intro hi1 (And.intro hy0 (And.intro hy1 hy2)))
  clear hi1 hy0 hy1 hy2 h hn hcl
  go_enter Try.func21, Try.ntmps21
  go_wp2_with fail
  go_loopw [3, 11] (fun u i wr => ∃ k : Nat, k ≤ n ∧ i = .int .i64 k ∧ wr.ownsRow w.heap.size 3 1 u k (tasks (M.queue.take k)) ∧ Below w.heap.size w wr) (fun _ i _ => n - (intOf i).toNat)
  case atStart => exact ⟨0, Nat.zero_le _, rfl, World.ownsRow_nil _ _ _ _, Below.refl _ _⟩
  case round =>
    obtain ⟨k, hk, rfl, hu, hb⟩ := hrel
    obtain ⟨Au, cu, rfl⟩ := own_slice hu
    have HU := Lib.hid (And.intro hu hb)
    clear hu hb
    by_cases hkn : k < n
    · have k0 : (0 : Int) ≤ (k : Int) := by omega
      have k1 : (k : Int) < (n : Int) := by omega
      have hkl : k < M.queue.length := by rw [Hn.out]; exact hkn
      obtain ⟨ga, off, rfl, hga, hc⟩ := (HC.out.below HU.out.2).at_ (by omega)
      obtain ⟨d0, d1⟩ := hc k hkl
      clear hc
      have hsu : tasks (M.queue.take (k + 1)) = tasks (M.queue.take k) ++ [.int .i64 M.queue[k].task] := by
        unfold tasks
        rw [List.take_succ_eq_append_getElem hkl, List.map_append]
        rfl
      have Hsu := Lib.hid hsu
      clear hsu
      generalize M.queue[k] = c at d0 d1 Hsu
      obtain ⟨ct, cb, cd⟩ := c
      dsimp only at d0 d1
      obtain ⟨hi1, hy0, hy1, hy2⟩ := HI.out
      have hal : Below wr.heap.size wr (wr.alloc (.cells #[.int .i64 ct, .map (some cb)] 86)) := (Below.refl _ _).alloc (Nat.le_refl _) _
      have hbx : (wr.alloc (.cells #[.int .i64 ct, .map (some cb)] 86)).cell? ⟨wr.heap.size, 0, none⟩ = some (.int .i64 ct) := by rw [(Blk.new wr 86 #[.int .i64 ct, .map (some cb)]).cell]; rfl
      have hu2 := own_below HU.out.1 hal
      have hb2 := Below.then_ HU.out.2 HU.out.2.size hal
      have H2 := Lib.hid (And.intro hu2 hb2)
      go_upto_region 5 with fail
      clear d0 d1 hal hu2 hb2
      generalize wr.alloc (.cells #[.int .i64 ct, .map (some cb)] 86) = w2 at hbx H2 ⊢
      generalize wr.heap.size = q at hbx ⊢
      go_wp2_with (at_builtin; refine wpList_append_reads (by rfl) _ _ 23 (by rfl) w.heap.size 3 i1 _ 1 8 Try.underlying23 hi1 hy0 hy1 hy2 rfl (by omega) (.slice Au k cu) k (tasks (M.queue.take k)) (by rfl) ?c0 (some ⟨w2.heap.size, 0, none⟩) 1 1 [.int .i64 ct] (by rfl) rfl ?c2 (by intro u hu; simp at hu; subst hu; rfl) ?c4 ?c5 ?c6 ?_)
      case c0 => exact own_below H2.out.1 ((Below.refl _ _).alloc (Nat.le_refl _) _)
      case c2 => exact reads_new2 w2 #[.int .i64 ct] 3
      case c4 => unfold maxLen; omega
      case c5 => omega
      case c6 => have := H2.out.2.size; simp; omega
      intro v' w9 hown9 hgrow hat
      have hb9 : Below w.heap.size w w9 := (H2.out.2.alloc H2.out.2.size _).grown hgrow (by have := H2.out.2.size; simp; omega) (fun x e => (H2.out.1.lt x e).1)
      have HR := Lib.hid (And.intro (show w9.ownsRow w.heap.size 3 1 v' (k + 1) (tasks (M.queue.take (k + 1))) from by rw [Hsu.out]; exact hown9) hb9)
      clear hat hgrow hown9 hb9 hbx hi1 hy0 hy1 hy2
      go_wp2
      go_roundw
      case rel => exact ⟨k + 1, by omega, by go_num, HR.out.1, HR.out.2⟩
      case measure => simp [intOf]; omega
    · have k1 : ¬ (k : Int) < (n : Int) := by omega
      obtain rfl : n = k := by omega
      have hfin : wr.ownsRow w.heap.size 3 1 (.slice Au n cu) n (tasks M.queue) := by
        have := HU.out.1
        rw [List.take_of_length_le (by rw [Hn.out]; exact Nat.le_refl _)] at this
        exact this
      have HF := Lib.hid hfin
      clear hfin
      go_wp2
      go_ret
      exact ⟨_, rfl, HF.out, HU.out.2⟩
end Go.Proofs.Ytgcnappgecdldaa.C
