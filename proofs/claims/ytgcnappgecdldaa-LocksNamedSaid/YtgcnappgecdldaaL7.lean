/-
  Locks: Has, of a task that has locks.
-/
import Derived.Test.YtgcnappgecdldaaL6
set_option linter.unusedVariables false
set_option linter.unusedSimpArgs false
namespace Go.Proofs.Ytgcnappgecdldaa.C
open Go.RowKit Go.Proofs.Ytgcnappgecdldaa.K Go.Maps

theorem info32' : (Try.prog.info? 32).map (fun i => (i.zero, i.size, i.bytes)) = some (some (.agg #[.int .i64 0, .bool false]), 2, 16) := by kernel_rfl
/-- The locks below k that a set holds, rising. -/
def held (D : Dt) : Nat → List (Int × Bool)
  | 0 => []
  | k + 1 => if how D k ≠ 0 then held D k ++ [((k : Int), how D k == 1)] else held D k
theorem held_le (D : Dt) : ∀ k, (held D k).length ≤ k
  | 0 => Nat.le_refl _
  | k + 1 => by
    have := held_le D k
    unfold held
    split
    · rw [List.length_append]; show _ + 1 ≤ _; omega
    · omega
def lks (L : List (Int × Bool)) : List Value := L.flatMap fun p => [.int .i64 p.1, .bool p.2]
theorem lks_append (a b : List (Int × Bool)) : lks (a ++ b) = lks a ++ lks b := List.flatMap_append
theorem look_how {w : World} {b n : Nat} {D : Dt} (h : w.ownsMap Try.prog 3 (plainElem Try.prog 3) b n D) (x d : Int) (hd : D.atKey (.int .i64 x) (.lit (.int .i64 0)) = .lit (.int .i64 d)) : how D x = d := how_at hd

set_option maxRecDepth 100000 in
set_option maxHeartbeats 3200000 in
theorem has_c (w : World) (σ : Nat → Nat) (t g : Nat) (M : Mgr) (h : MgrAt w σ t g M) (task : Int) (i : Nat) (hi : i < M.has.length) (hp : place M.has (fun c => c.task == task) = (i : Int)) :
    Calls Try.prog 17 #[.pointer (some ⟨g, 0, none⟩), .int .i64 task] w fun e w' => ∃ v, e = .returned v ∧ w'.ownsRow w.heap.size 32 2 v (held (M.has[i]).set M.m.toNat).length (lks (held (M.has[i]).set M.m.toNat)) ∧ Below w.heap.size w w' := by
  obtain ⟨vh, vq, h⟩ := h
  obtain ⟨Ah, ch, rfl⟩ := h.has.slice
  obtain ⟨n, hn⟩ : ∃ n, M.has.length = n := ⟨_, rfl⟩
  have hf := find_c w Ah M.has.length ch M.has rfl (by have := h.hl; omega) (row_claims h.has (fun c hc => (h.sets c (.inl hc)).1)) task i hp
  have hcl := row_claims h.has (fun c hc => (h.sets c (.inl hc)).1)
  have hgl := h.blk.1.lt
  have hk := fun W (hb : Below w.heap.size w W) => (show W.cell? ⟨g, 0, none⟩ = some (.int .i64 M.m) ∧ W.cell? ⟨g, 1, none⟩ = some (.slice Ah M.has.length ch) from ⟨(h.below hb).c0, (h.below hb).c1⟩)
  obtain ⟨m, hm⟩ : ∃ m : Nat, M.m = (m : Int) := ⟨M.m.toNat, by have := h.m1; omega⟩
  have hm2 : m ≤ 1024 := by have := h.m2; omega
  rw [hm, Int.toNat_natCast]
  simp only [hm] at hk
  obtain ⟨ga, off, rfl, hga, hc⟩ := hcl.at_ (by omega)
  obtain ⟨d0, d1⟩ := hc i hi
  have hset := hcl.sets M.has[i] (List.getElem_mem hi)
  generalize M.has[i] = c at d0 d1 hset ⊢
  obtain ⟨ct, cb, cd⟩ := c
  dsimp only at d0 d1 hset ⊢
  rw [hn] at hf hi
  simp only [hn] at hk
  obtain ⟨n', hn', ho⟩ := hset.own
  have HK := Lib.hid hk
  have Hf := Lib.hid hf
  have HS := Lib.hid (And.intro ho (And.intro hga (And.intro d1 hset)))
  obtain ⟨i1, hi1, hy0, hy1, hy2⟩ := info_parts2 info32'
  have HI := Lib.hid (And.intro hi1 (And.intro hy0 (And.intro hy1 hy2)))
  have z0 : (0 : Int) ≤ (i : Int) := by omega
  have z1 : (i : Int) < (n : Int) := by omega
  have z2 : ¬ (i : Int) < 0 := by omega
  have y1 := (hk w (Below.refl _ _)).2
  clear h hn hcl hc hf hk hp hset ho d0 d1 hm hgl hi1 hy0 hy1 hy2
  go_enter Try.func17, Try.ntmps17
  go_wp2_with fail
  refine Hf.out.mono ?_
  rintro e w2 ⟨rfl, hb2⟩
  have HB2 := Lib.hid hb2
  obtain ⟨x0, x1⟩ := HK.out w2 hb2
  clear hb2 y1
  go_wp2_with fail
  go_loopw [6, 21] (fun u i wr => ∃ k : Nat, k ≤ m ∧ i = .int .i64 k ∧ wr.ownsRow w.heap.size 32 2 u (held cd k).length (lks (held cd k)) ∧ Below w.heap.size w wr) (fun _ i _ => m - (intOf i).toNat)
  case atStart => exact ⟨0, Nat.zero_le _, rfl, World.ownsRow_nil _ _ _ _, HB2.out⟩
  case round =>
    clear x0 x1
    obtain ⟨k, hk, rfl, hu, hb⟩ := hrel
    obtain ⟨Au, cu, rfl⟩ := own_slice hu
    have hlk := held_le cd k
    obtain ⟨ln, hln⟩ : ∃ x, (held cd k).length = x := ⟨_, rfl⟩
    rw [hln] at hu hlk ⊢
    have HU := Lib.hid (And.intro hu (And.intro hb hln))
    clear hu hb hln
    by_cases hkm : k < m
    · have k1 : (k : Int) < (m : Int) := by omega
      have k0 : (0 : Int) ≤ (k : Int) := by omega
      obtain ⟨x0, x1⟩ := HK.out wr HU.out.2.1
      have x2 : wr.cell? ⟨ga, off + i * 2 + 1, none⟩ = some (.map (some cb)) := (HU.out.2.1.cell (p := ⟨ga, off + i * 2 + 1, none⟩) HS.out.2.1).trans HS.out.2.2.1
      have ho : wr.ownsMap Try.prog 3 (plainElem Try.prog 3) cb n' cd := HS.out.1.kept (row := none) ⟨HU.out.2.1.os, HU.out.2.1.tape, HU.out.2.1.output, HU.out.2.1.size, fun k hk _ => HU.out.2.1.block k hk⟩ (by simp)
      have hwx : (Lit.int .i64 (k : Int)).wf = true := by simp [Lit.wf, IntKind.min, IntKind.max, IntKind.signed, IntKind.bits]; omega
      go_upto_region 9 with (first
        | (at_lookup; refine wpList_lookup_own_int _ rfl _ _ 78 rfl 3 3 .i64 law3 Try.underlying78 Try.underlying3 (zero3 _) cb n' cd rfl ho _ _ rfl (keyOf_int_mk Try.underlying3 hwx) ?_; intro d hatd hwd)
        | fail)
      have hdh : how cd (k : Int) = d := how_at hatd
      clear x0 x1 x2 ho hatd hwd hwx
      by_cases hd0 : d = 0
      · have hh : held cd (k + 1) = held cd k := by
          show (if how cd (k : Int) ≠ 0 then _ else _) = _
          rw [if_neg (by rw [hdh]; simpa using hd0)]
        have HR := Lib.hid (show wr.ownsRow w.heap.size 32 2 (.slice Au ln cu) (held cd (k + 1)).length (lks (held cd (k + 1))) from by rw [hh, HU.out.2.2]; exact HU.out.1)
        have hb0 : (d != 0) = false := by simp [hd0]
        clear hh hdh hd0
        go_wp2
        go_roundw
        case rel => exact ⟨k + 1, by omega, by go_num, HR.out, HU.out.2.1⟩
        case measure => simp [intOf]; omega
      · have hh : held cd (k + 1) = held cd k ++ [((k : Int), d == 1)] := by
          show (if how cd (k : Int) ≠ 0 then _ else _) = _
          rw [if_pos (by rw [hdh]; exact hd0), hdh]
        have hb0 : (d != 0) = true := by simpa using hd0
        obtain ⟨bb, hbb⟩ : ∃ x, (d == 1) = x := ⟨_, rfl⟩
        rw [hbb] at hh
        have Hh := Lib.hid hh
        obtain ⟨hi1, hy0, hy1, hy2⟩ := HI.out
        clear hh hdh hd0
        go_wp2_with (at_builtin; refine wpList_append_reads (by rfl) _ _ 30 (by rfl) w.heap.size 32 i1 _ 2 16 Try.underlying30 hi1 hy0 hy1 hy2 rfl (by omega) (.slice Au ln cu) ln (lks (held cd k)) (by rfl) ?c0 (some ⟨wr.heap.size, 0, none⟩) 1 1 [.int .i64 (k : Int), .bool bb] (by rfl) rfl ?c2 (by intro u hu; simp at hu; rcases hu with rfl | rfl <;> rfl) ?c4 ?c5 ?c6 ?_)
        case c0 => exact own_below HU.out.1 ((Below.refl _ _).alloc (Nat.le_refl _) _)
        case c2 => exact reads_new2 wr #[.int .i64 (k : Int), .bool bb] 32
        case c4 => unfold maxLen; omega
        case c5 => omega
        case c6 => have := HU.out.2.1.size; simp; omega
        intro v' w9 hown9 hgrow hat
        have hb9 : Below w.heap.size w w9 := (HU.out.2.1.alloc HU.out.2.1.size _).grown hgrow (by have := HU.out.2.1.size; simp; omega) (fun x e => (HU.out.1.lt x e).1)
        have HR := Lib.hid (And.intro (show w9.ownsRow w.heap.size 32 2 v' (held cd (k + 1)).length (lks (held cd (k + 1))) from by rw [Hh.out, List.length_append, HU.out.2.2, lks_append]; exact hown9) hb9)
        clear hat hgrow hown9 hb9 hi1 hy0 hy1 hy2
        go_wp2
        go_roundw
        case rel => exact ⟨k + 1, by omega, by go_num, HR.out.1, HR.out.2⟩
        case measure => simp [intOf]; omega
    · obtain rfl : m = k := by omega
      have k1 : ¬ (m : Int) < (m : Int) := by omega
      go_wp2
      go_ret
      exact ⟨_, rfl, by rw [HU.out.2.2]; exact HU.out.1, HU.out.2.1⟩
end Go.Proofs.Ytgcnappgecdldaa.C
