/-
  Locks: the set of an ask that may not be (set).
-/
import Derived.Test.YtgcnappgecdldaaE1
set_option linter.unusedVariables false
set_option linter.unusedSimpArgs false
namespace Go.Proofs.Ytgcnappgecdldaa.C
open Go.RowKit Go.Proofs.Ytgcnappgecdldaa.K Go.Maps

/-- The first k of a list may be asked for. -/
structure Okk (m : Int) (L : List (Int × Bool)) (k : Nat) : Prop where
  low : ∀ i (h : i < L.length), i < k → 0 ≤ L[i].1
  high : ∀ i (h : i < L.length), i < k → L[i].1 < m
  once : ∀ i j (hi : i < L.length) (hj : j < L.length), i < k → j < k → L[i].1 = L[j].1 → i = j
theorem Okk.asks {m : Int} {L : List (Int × Bool)} (h : Okk m L L.length) (hne : L ≠ []) : Asks m L :=
  ⟨hne, fun p hp => by
    obtain ⟨i, hi, rfl⟩ := List.mem_iff_getElem.1 hp
    exact h.low i hi hi, fun p hp => by
    obtain ⟨i, hi, rfl⟩ := List.mem_iff_getElem.1 hp
    exact h.high i hi hi, fun i j hi hj e => h.once i j hi hj hi hj e⟩
theorem Okk.zero (m : Int) (L : List (Int × Bool)) : Okk m L 0 := ⟨fun _ _ h => by omega, fun _ _ h => by omega, fun _ _ _ _ h => by omega⟩
theorem hw_take_some {L : List (Int × Bool)} {k : Nat} {x : Int} (h : hw (L.take k) x = 0) : ∀ i (hi : i < L.length), i < k → L[i].1 ≠ x := by
  intro i hi hik e
  have hm : L[i] ∈ L.take k := by
    have h2 : i < (L.take k).length := by rw [List.length_take]; omega
    have : (L.take k)[i] = L[i] := List.getElem_take
    rw [← this]
    exact List.getElem_mem h2
  have : ∀ (l : List (Int × Bool)), L[i] ∈ l → hw l x ≠ 0 := by
    intro l
    induction l with
    | nil => intro h; simp at h
    | cons q r ih =>
      intro hq
      show (if q.1 = x then (if q.2 then (1 : Int) else 2) else hw r x) ≠ 0
      by_cases e2 : q.1 = x
      · rw [if_pos e2]; split <;> decide
      · rw [if_neg e2]
        rcases List.mem_cons.1 hq with h3 | h3
        · rw [h3] at e; exact absurd e e2
        · exact ih h3
  exact this _ hm h
theorem Okk.step {m : Int} {L : List (Int × Bool)} {k : Nat} (h : Okk m L k) (hk : k < L.length) (h0 : 0 ≤ L[k].1) (h1 : L[k].1 < m) (h2 : hw (L.take k) L[k].1 = 0) : Okk m L (k + 1) := by
  have hno := hw_take_some h2
  refine ⟨fun i hi hik => ?_, fun i hi hik => ?_, fun i j hi hj hik hjk e => ?_⟩
  · rcases Nat.lt_or_ge i k with h3 | h3
    · exact h.low i hi h3
    · obtain rfl : i = k := by omega
      exact h0
  · rcases Nat.lt_or_ge i k with h3 | h3
    · exact h.high i hi h3
    · obtain rfl : i = k := by omega
      exact h1
  · rcases Nat.lt_or_ge i k with h3 | h3
    · rcases Nat.lt_or_ge j k with h4 | h4
      · exact h.once i j hi hj h3 h4 e
      · obtain rfl : j = k := by omega
        exact absurd e (hno i hi h3)
    · obtain rfl : i = k := by omega
      rcases Nat.lt_or_ge j i with h4 | h4
      · exact absurd e.symm (hno j hj h4)
      · omega
theorem Okk.new {m : Int} {L : List (Int × Bool)} {k : Nat} (hk : k < L.length) (h2 : hw (L.take k) L[k].1 = 0) : ∀ q ∈ L.take k, q.1 ≠ L[k].1 := by
  intro q hq e
  obtain ⟨j, hj, rfl⟩ := List.mem_iff_getElem.1 hq
  rw [List.length_take] at hj
  rw [List.getElem_take] at e
  exact hw_take_some h2 j (by omega) (by omega) e

set_option maxRecDepth 100000 in
set_option maxHeartbeats 3200000 in
theorem set_no (w : World) (g : Nat) (m : Int) (hm : w.cell? ⟨g, 0, none⟩ = some (.int .i64 m)) (hm2 : m ≤ 1024) (A : Option Addr) (n cp : Nat) (L : List (Int × Bool)) (hl : L.length = n) (hn : n ≤ 2000) (h : LksAt w A L) (hwf : ∀ p ∈ L, (Lit.int .i64 p.1).wf = true) (hA : ¬ Asks m L) :
    Calls Try.prog 43 #[.pointer (some ⟨g, 0, none⟩), .slice A n cp] w fun e w' => e = .returned (.tuple #[.map none, .iface 26 (.int .i64 1)]) ∧ Below w.heap.size w w' := by
  have Hgl := Lib.hid (And.intro (World.block_lt_of_cell? w _ hm) hm)
  have HL := Lib.hid hl
  have H := Lib.hid h
  have HA := Lib.hid hA
  have HWF := Lib.hid hwf
  have hmm := @run_makeMap Try.prog
  clear h hA hm hwf
  go_enter Try.func43, Try.ntmps43
  go_wp2_with fail
  have hmade := World.ownsMap_made (H := Unit) w Try.prog 3 (plainElem Try.prog 3)
  have hba : Below w.heap.size w (w.alloc (.map #[] 0)) := (Below.refl _ _).alloc (Nat.le_refl _) _
  go_loopw [12] (fun i wr => ∃ k : Nat, k ≤ n ∧ i = .int .i64 k ∧ Half wr w.heap.size k L ∧ Below w.heap.size w wr ∧ Okk m L k) (fun i _ => n - (intOf i).toNat)
  case atStart => exact ⟨0, Nat.zero_le _, rfl, ⟨0, _, Nat.le_refl _, hmade, fun x => how_zero rfl, fun x h => by cases h⟩, hba, Okk.zero m L⟩
  case round =>
    clear hmade hba hmm
    obtain ⟨k, hk, rfl, hH, hb, hok⟩ := hrel
    obtain ⟨n', D, hn', ho, hhow, hpos⟩ := hH
    have HD := Lib.hid (And.intro ho (And.intro hhow hpos))
    have HB := Lib.hid hb
    have HO0 := Lib.hid hok
    clear ho hhow hpos hb hok
    by_cases hkn : k < n
    · have k0 : (0 : Int) ≤ (k : Int) := by omega
      have k1 : (k : Int) < (n : Int) := by omega
      have hkl : k < L.length := by rw [HL.out]; exact hkn
      obtain ⟨ga, off, rfl, hga, hc⟩ := (H.out.below HB.out).at_ (by omega)
      obtain ⟨c0, c1⟩ := hc k hkl
      clear hc
      have hwx0 := HWF.out L[k] (List.getElem_mem hkl)
      have hstep := HO0.out.step hkl
      have hnew := Okk.new (m := m) hkl
      have htk : L.take (k + 1) = L.take k ++ [L[k]] := List.take_succ_eq_append_getElem hkl
      have hsn := fun hh x => hw_snoc (L.take k) L[k] (hnew hh) x
      obtain ⟨d, hd⟩ : ∃ d, hw (L.take k) L[k].1 = d := ⟨_, rfl⟩
      have hdd := hd
      rw [← HD.out.2.1] at hdd
      rw [← htk] at hsn
      rw [hd] at hstep hsn
      obtain ⟨⟨x, sh⟩, hx⟩ : ∃ q, L[k] = q := ⟨_, rfl⟩
      rw [hx] at c0 c1 hwx0 hsn hdd hstep
      dsimp only at c0 c1 hwx0 hsn hdd hstep
      have HS := Lib.hid hsn
      have HT := Lib.hid hstep
      have Hd := Lib.hid hdd
      clear hnew htk hx hsn hd hdd hstep
      have hwx : (Lit.int .i64 x).wf = true := hwx0
      clear hwx0
      have hcm : wr.cell? ⟨g, 0, none⟩ = some (.int .i64 m) := (HB.out.cell (p := ⟨g, 0, none⟩) Hgl.out.1).trans Hgl.out.2
      go_upto_region 5 with fail
      have hal : Below wr.heap.size wr (wr.alloc (.cells #[.int .i64 x, .bool sh] 32)) := (Below.refl _ _).alloc (Nat.le_refl _) _
      have hbx := Blk.new wr 32 #[.int .i64 x, .bool sh]
      have hoA := HD.out.1.alloc (.cells #[.int .i64 x, .bool sh] 32)
      have hmA : (wr.alloc (.cells #[.int .i64 x, .bool sh] 32)).cell? ⟨g, 0, none⟩ = some (.int .i64 m) := (hal.cell (p := ⟨g, 0, none⟩) (Nat.lt_of_lt_of_le Hgl.out.1 HB.out.size)).trans hcm
      have HB2 := Lib.hid (Below.then_ HB.out HB.out.size hal)
      have hqm : w.heap.size < wr.heap.size := HD.out.1.lt
      clear hcm c0 c1 hal
      generalize wr.alloc (.cells #[.int .i64 x, .bool sh] 32) = w2 at hbx hoA hmA HB2 ⊢
      generalize wr.heap.size = q at hbx hqm ⊢
      have b0 : w2.cell? ⟨q, 0, none⟩ = some (.int .i64 x) := by rw [hbx.cell]; rfl
      have HO := Lib.hid (And.intro hoA hbx)
      have hrd : ∀ z, (Instr.lookup 78 (.map (some w.heap.size)) (.int .i64 x) false).run Try.prog (w2.drewN z) = .ok (.int .i64 d) (w2.drewN z) := fun z => by
        obtain ⟨c2, hrun2, hat2, _⟩ := (show (w2.drewN z).ownsMap Try.prog 3 (plainElem Try.prog 3) w.heap.size n' D from HO.out.1).lookup_int law3 Try.underlying78 Try.underlying3 (zero3 _) (keyOf_int_mk Try.underlying3 hwx)
        rw [hrun2]
        have : c2 = d := (how_at hat2).symm.trans Hd.out
        rw [this]
      by_cases g1 : x < 0
      · go_quiet (fail)
        go_wp2_with fail
        go_ret2
        exact ⟨rfl, below_drewN HB2.out _⟩
      by_cases g2 : m ≤ x
      · go_quiet (fail)
        go_wp2_with fail
        go_ret2
        exact ⟨rfl, below_drewN HB2.out _⟩
      by_cases g3 : d = 0
      · subst g3
        have hge : decide (m ≤ x) = false := decide_eq_false (by omega)
        have hlt : decide (x < 0) = false := decide_eq_false (by omega)
        have hrd1 : (Instr.lookup 78 (.map (some w.heap.size)) (.int .i64 x) false).run Try.prog w2.drew = .ok (.int .i64 0) w2.drew := by
          obtain ⟨c2, hrun2, hat2, _⟩ := (HO.out.1.drew).lookup_int law3 Try.underlying78 Try.underlying3 (zero3 _) (keyOf_int_mk Try.underlying3 hwx)
          rw [hrun2]
          have : c2 = 0 := (how_at hat2).symm.trans Hd.out
          rw [this]
        have HSN := Lib.hid (HS.out rfl)
        have HTN := Lib.hid (HT.out (by omega) (by omega) rfl)
        clear hrd HS HT
        go_cut [34] (fun z w' => z = .bool false ∧ w' = w2.drew)
        case first =>
          clear hoA hbx
          go_region_held3 (fun w' => w' = w2.drew) (first | rfl | assumption) (fail)
          go_wp2_with fail
          go_meet
          case rel => exact ⟨rfl, rfl⟩
        case rest =>
          rename World => w3
          obtain ⟨rfl, rfl⟩ := hcut
          have ho3 := HO.out.1.drew
          have hbx3 : Blk w2.drew q 32 #[.int .i64 x, .bool sh] := HO.out.2
          have hxb : ∀ w4, w2.drew.grownBy w4 (some w.heap.size) → w4.cell? ⟨q, 1, none⟩ = some (.bool sh) := fun w4 hg4 => by
            have h4 : Blk w4 q 32 #[.int .i64 x, .bool sh] := (hg4.block _ hbx3.lt (by intro e; have := Option.some.inj e; omega)).trans hbx3
            rw [h4.cell]; rfl
          have hxa : ∀ w4, w2.drew.grownBy w4 (some w.heap.size) → w4.cell? ⟨q, 0, none⟩ = some (.int .i64 x) := fun w4 hg4 => by
            have h4 : Blk w4 q 32 #[.int .i64 x, .bool sh] := (hg4.block _ hbx3.lt (by intro e; have := Option.some.inj e; omega)).trans hbx3
            rw [h4.cell]; rfl
          have HXB := Lib.hid (And.intro hxb hxa)
          have d0 : w2.drew.cell? ⟨q, 0, none⟩ = some (.int .i64 x) := b0
          clear hoA hbx b0 hmA hrd1 hge hlt hxa hxb hbx3
          rcases sh with _ | _
          · go_wp2_with (first
              | (at_mapUpdate; refine wpList_mapUpdate_own _ rfl _ _ _ 78 rfl 3 3 law3 Try.underlying78 _ w.heap.size _ _ rfl ho3 (by unfold maxLen; omega) _ _ _ rfl rfl (keyOf_int_mk Try.underlying3 hwx) _ [] (plainElem_int Try.underlying3 rfl) ?_; intro w4 ho4 hg4; have b4 := HXB.out.1 w4 hg4; have b5 := HXB.out.2 w4 hg4)
              | fail)
            refine ⟨⟨k + 1, by omega, by go_num, ⟨n' + 1, _, by omega, ho4, fun y => ?_, pos_put HO.out.1.isMap x 2 (.inr rfl) HD.out.2.2⟩, HB2.out.drew.grown hg4 HB2.out.size (fun j hj => by cases hj; exact Nat.le_refl _), HTN.out⟩, by simp [intOf]; omega⟩
            rw [how_put HO.out.1.isMap, HSN.out y, HD.out.2.1 y]
            rfl
          · go_wp2_with (first
              | (at_mapUpdate; refine wpList_mapUpdate_own _ rfl _ _ _ 78 rfl 3 3 law3 Try.underlying78 _ w.heap.size _ _ rfl ho4 (by unfold maxLen; omega) _ _ _ rfl rfl (keyOf_int_mk Try.underlying3 hwx) _ [] (plainElem_int Try.underlying3 rfl) ?_; intro w5 ho5 hg5)
              | (at_mapUpdate; refine wpList_mapUpdate_own _ rfl _ _ _ 78 rfl 3 3 law3 Try.underlying78 _ w.heap.size _ _ rfl ho3 (by unfold maxLen; omega) _ _ _ rfl rfl (keyOf_int_mk Try.underlying3 hwx) _ [] (plainElem_int Try.underlying3 rfl) ?_; intro w4 ho4 hg4; have b4 := HXB.out.1 w4 hg4; have b5 := HXB.out.2 w4 hg4)
              | fail)
            have hb4 : Below w.heap.size w w4 := HB2.out.drew.grown hg4 HB2.out.size (fun j hj => by cases hj; exact Nat.le_refl _)
            refine ⟨⟨k + 1, by omega, by go_num, ⟨n' + 1 + 1, _, by omega, ho5, fun y => ?_, pos_put ho4.isMap x 1 (.inl rfl) (pos_put HO.out.1.isMap x 2 (.inr rfl) HD.out.2.2)⟩, hb4.grown hg5 hb4.size (fun j hj => by cases hj; exact Nat.le_refl _), HTN.out⟩, by simp [intOf]; omega⟩
            rw [how_put ho4.isMap, how_put HO.out.1.isMap, HSN.out y, HD.out.2.1 y]
            by_cases e : x = y
            · rw [if_pos e, if_pos e]; rfl
            · rw [if_neg e, if_neg e, if_neg e]
      · have g4 : (d != 0) = true := by simpa using g3
        go_quiet (fail)
        go_wp2_with fail
        go_ret2
        exact ⟨rfl, below_drewN HB2.out _⟩
    · obtain rfl : n = k := by omega
      have k1 : ¬ (n : Int) < (n : Int) := by omega
      have hL0 : L = [] := by
        rcases Classical.em (L = []) with h | h
        · exact h
        · exact absurd (Okk.asks (by rw [HL.out]; exact HO0.out) h) HA.out
      have hn0 : n = 0 := by rw [← HL.out, hL0]; rfl
      have hs : Maps.size D = 0 := by
        have := HD.out.1.size_le
        omega
      have ho := HD.out.1
      go_wp2_with (first | (at_len; refine wpList_len_own _ rfl _ 78 rfl 3 3 Try.underlying78 _ w.heap.size _ _ rfl ho ?_) | fail)
      go_ret2
      exact ⟨rfl, HB.out⟩
end Go.Proofs.Ytgcnappgecdldaa.C
