/-
  Locks: the set of an ask that may be (set).
-/
import Derived.Test.YtgcnappgecdldaaL2
set_option linter.unusedVariables false
set_option linter.unusedSimpArgs false
namespace Go.Proofs.Ytgcnappgecdldaa.C
open Go.RowKit Go.Proofs.Ytgcnappgecdldaa.K Go.Maps

theorem how_put_same {D : Dt} (h : IsMap D) (x c : Int) : how (D.put (key x) (.lit (.int .i64 c))) x = c := how_at (atKey_put_same (k := key x) h trivial _ _)
theorem how_put_other (D : Dt) {x y : Int} (hne : y ≠ x) (c : Int) : how (D.put (key x) (.lit (.int .i64 c))) y = how D y := by
  unfold how
  rw [atKey_put_other (fun e => hne (by cases e; rfl))]
theorem has_put_other' (D : Dt) {x y : Int} (hne : y ≠ x) (c : Int) : has (D.put (key x) (.lit (.int .i64 c))) (key y) = has D (key y) := has_put_other (fun e => hne (by cases e; rfl)) _
theorem how_put {D : Dt} (h : IsMap D) (x c y : Int) : how (D.put (key x) (.lit (.int .i64 c))) y = if x = y then c else how D y := by
  by_cases e : x = y
  · subst e; rw [if_pos rfl, how_put_same h]
  · rw [if_neg e, how_put_other D (fun e2 => e e2.symm)]
theorem pos_put {D : Dt} (h : IsMap D) (x c : Int) (hc : c = 1 ∨ c = 2) (hp : ∀ y, has D (key y) = true → how D y = 1 ∨ how D y = 2) : ∀ y, has (D.put (key x) (.lit (.int .i64 c))) (key y) = true → how (D.put (key x) (.lit (.int .i64 c))) y = 1 ∨ how (D.put (key x) (.lit (.int .i64 c))) y = 2 := fun y hy => by
  rw [how_put h]
  by_cases e : x = y
  · rw [if_pos e]; exact hc
  · rw [if_neg e]
    rw [has_put_other' D (fun e2 => e e2.symm)] at hy
    exact hp y hy
theorem size_pos {D : Dt} {k : Lit} (h : has D k = true) : Maps.size D ≠ 0 := by
  cases D <;> simp [has] at h
  rename_i es
  rcases es with _ | ⟨p, r⟩
  · simp at h
  · show (p :: r).length ≠ 0
    simp
/-- How a list of locks holds a lock. -/
def hw : List (Int × Bool) → Int → Int
  | [], _ => 0
  | p :: r, x => if p.1 = x then (if p.2 then 1 else 2) else hw r x
theorem hw_snoc (L : List (Int × Bool)) (p : Int × Bool) (h : ∀ q ∈ L, q.1 ≠ p.1) (x : Int) : hw (L ++ [p]) x = if p.1 = x then (if p.2 then 1 else 2) else hw L x := by
  induction L with
  | nil => rfl
  | cons q r ih =>
    show (if q.1 = x then _ else hw (r ++ [p]) x) = _
    rw [ih (fun q hq => h q (List.mem_cons_of_mem _ hq))]
    have hne := h q (List.mem_cons_self ..)
    show _ = if p.1 = x then _ else (if q.1 = x then _ else hw r x)
    by_cases e : q.1 = x
    · have e2 : ¬ p.1 = x := fun e2 => hne (e.trans e2.symm)
      simp [e, e2]
    · simp [e]
theorem hw_none (L : List (Int × Bool)) (x : Int) (h : ∀ q ∈ L, q.1 ≠ x) : hw L x = 0 := by
  induction L with
  | nil => rfl
  | cons q r ih => exact (if_neg (h q (List.mem_cons_self ..))).trans (ih (fun q hq => h q (List.mem_cons_of_mem _ hq)))
/-- Locks that can be read. -/
structure LksAt (w : World) (A : Option Addr) (L : List (Int × Bool)) : Prop where
  at_ : 0 < L.length → ∃ g off, A = some ⟨g, off, none⟩ ∧ g < w.heap.size ∧ ∀ i (h : i < L.length), w.cell? ⟨g, off + i * 2, none⟩ = some (.int .i64 L[i].1) ∧ w.cell? ⟨g, off + i * 2 + 1, none⟩ = some (.bool L[i].2)
theorem LksAt.below {w w' : World} {A : Option Addr} {L : List (Int × Bool)} (h : LksAt w A L) (hb : Below w.heap.size w w') : LksAt w' A L :=
  ⟨fun h0 => by
    obtain ⟨g, off, e, hg, hc⟩ := h.at_ h0
    exact ⟨g, off, e, Nat.lt_of_lt_of_le hg hb.size, fun i hi => ⟨(hb.cell (p := ⟨g, off + i * 2, none⟩) hg).trans (hc i hi).1, (hb.cell (p := ⟨g, off + i * 2 + 1, none⟩) hg).trans (hc i hi).2⟩⟩⟩
/-- A list that may be asked for, of a manager of so many locks. -/
structure Asks (m : Int) (L : List (Int × Bool)) : Prop where
  some_ : L ≠ []
  low : ∀ p ∈ L, 0 ≤ p.1
  high : ∀ p ∈ L, p.1 < m
  once : ∀ i j (hi : i < L.length) (hj : j < L.length), L[i].1 = L[j].1 → i = j
theorem Asks.new {m : Int} {L : List (Int × Bool)} (h : Asks m L) (k : Nat) (hk : k < L.length) : ∀ q ∈ L.take k, q.1 ≠ L[k].1 := by
  intro q hq e
  obtain ⟨j, hj, rfl⟩ := List.mem_iff_getElem.1 hq
  rw [List.length_take] at hj
  rw [List.getElem_take] at e
  have := h.once j k (by omega) hk e
  omega
/-- The map on the way. -/
def Half (wr : World) (b k : Nat) (L : List (Int × Bool)) : Prop := ∃ n D, n ≤ 2 * k ∧ wr.ownsMap Try.prog 3 (plainElem Try.prog 3) b n D ∧ (∀ x, how D x = hw (L.take k) x) ∧ ∀ x, has D (key x) = true → how D x = 1 ∨ how D x = 2

set_option maxRecDepth 100000 in
set_option maxHeartbeats 3200000 in
theorem set_yes (w : World) (g : Nat) (m : Int) (hm : w.cell? ⟨g, 0, none⟩ = some (.int .i64 m)) (hm2 : m ≤ 1024) (A : Option Addr) (n cp : Nat) (L : List (Int × Bool)) (hl : L.length = n) (hn : n ≤ 2000) (h : LksAt w A L) (hA : Asks m L) :
    Calls Try.prog 43 #[.pointer (some ⟨g, 0, none⟩), .slice A n cp] w fun e w' => ∃ b D, e = .returned (.tuple #[.map (some b), .nilIface]) ∧ w.heap.size ≤ b ∧ SetAt w' b D ∧ (∀ x, how D x = hw L x) ∧ Below w.heap.size w w' := by
  have Hgl := Lib.hid (And.intro (World.block_lt_of_cell? w _ hm) hm)
  have HL := Lib.hid hl
  have H := Lib.hid h
  have HA := Lib.hid hA
  have hmm := @run_makeMap Try.prog
  clear h hA hm
  go_enter Try.func43, Try.ntmps43
  go_wp2_with fail
  have hmade := World.ownsMap_made (H := Unit) w Try.prog 3 (plainElem Try.prog 3)
  have hba : Below w.heap.size w (w.alloc (.map #[] 0)) := (Below.refl _ _).alloc (Nat.le_refl _) _
  go_loopw [12] (fun i wr => ∃ k : Nat, k ≤ n ∧ i = .int .i64 k ∧ Half wr w.heap.size k L ∧ Below w.heap.size w wr) (fun i _ => n - (intOf i).toNat)
  case atStart => exact ⟨0, Nat.zero_le _, rfl, ⟨0, _, Nat.le_refl _, hmade, fun x => how_zero rfl, fun x h => by cases h⟩, hba⟩
  case round =>
    clear hmade hba hmm
    obtain ⟨k, hk, rfl, hH, hb⟩ := hrel
    obtain ⟨n', D, hn', ho, hhow, hpos⟩ := hH
    have HD := Lib.hid (And.intro ho (And.intro hhow hpos))
    have HB := Lib.hid hb
    clear ho hhow hpos hb
    by_cases hkn : k < n
    · have k0 : (0 : Int) ≤ (k : Int) := by omega
      have k1 : (k : Int) < (n : Int) := by omega
      have hkl : k < L.length := by rw [HL.out]; exact hkn
      obtain ⟨ga, off, rfl, hga, hc⟩ := (H.out.below HB.out).at_ (by omega)
      obtain ⟨c0, c1⟩ := hc k hkl
      clear hc
      have hlow := HA.out.low L[k] (List.getElem_mem hkl)
      have hhigh := HA.out.high L[k] (List.getElem_mem hkl)
      have hnew := HA.out.new k hkl
      have htk : L.take (k + 1) = L.take k ++ [L[k]] := List.take_succ_eq_append_getElem hkl
      have hsn := fun x => hw_snoc (L.take k) L[k] hnew x
      have hz := hw_none (L.take k) L[k].1 hnew
      rw [← HD.out.2.1] at hz
      rw [← htk] at hsn
      obtain ⟨⟨x, sh⟩, hx⟩ : ∃ q, L[k] = q := ⟨_, rfl⟩
      rw [hx] at c0 c1 hlow hhigh hsn hz
      dsimp only at c0 c1 hlow hhigh hsn hz
      have HS := Lib.hid hsn
      have Hz := Lib.hid hz
      clear hnew htk hx hsn hz
      have hwx : (Lit.int .i64 x).wf = true := by simp [Lit.wf, IntKind.min, IntKind.max, IntKind.signed, IntKind.bits]; omega
      have hcm : wr.cell? ⟨g, 0, none⟩ = some (.int .i64 m) := (HB.out.cell (p := ⟨g, 0, none⟩) Hgl.out.1).trans Hgl.out.2
      go_upto_region 5 with fail
      have hal : Below wr.heap.size wr (wr.alloc (.cells #[.int .i64 x, .bool sh] 32)) := (Below.refl _ _).alloc (Nat.le_refl _) _
      have hbx := Blk.new wr 32 #[.int .i64 x, .bool sh]
      have hoA := HD.out.1.alloc (.cells #[.int .i64 x, .bool sh] 32)
      have hmA : (wr.alloc (.cells #[.int .i64 x, .bool sh] 32)).cell? ⟨g, 0, none⟩ = some (.int .i64 m) := (hal.cell (p := ⟨g, 0, none⟩) (Nat.lt_of_lt_of_le Hgl.out.1 HB.out.size)).trans hcm
      have HB2 := Lib.hid (Below.then_ HB.out HB.out.size hal)
      have hqm : w.heap.size < wr.heap.size := HD.out.1.lt
      clear hcm c0 c1 hal
      generalize wr.alloc (.cells #[.int .i64 x, .bool sh] 32) = w2 at hbx hoA hmA HB2 ⊢
      generalize wr.heap.size = q at hbx hqm ⊢
      have b0 : w2.cell? ⟨q, 0, none⟩ = some (.int .i64 x) := by rw [hbx.cell]; rfl
      obtain ⟨c', hrun, hat, hwc⟩ := hoA.lookup_int law3 Try.underlying78 Try.underlying3 (zero3 _) (keyOf_int_mk Try.underlying3 hwx)
      obtain rfl : c' = 0 := (how_at hat).symm.trans Hz.out
      have HO := Lib.hid (And.intro hoA hbx)
      have hge : decide (m ≤ x) = false := decide_eq_false (by omega)
      have hlt : decide (x < 0) = false := decide_eq_false (by omega)
      go_cut [34] (fun z w' => z = .bool false ∧ w' = w2.drew)
      case first =>
        have hrd : (Instr.lookup 78 (.map (some w.heap.size)) (.int .i64 x) false).run Try.prog w2.drew = .ok (.int .i64 0) w2.drew := by
          obtain ⟨c2, hrun2, hat2, _⟩ := (HO.out.1.drew).lookup_int law3 Try.underlying78 Try.underlying3 (zero3 _) (keyOf_int_mk Try.underlying3 hwx)
          rw [hrun2]
          have : c2 = 0 := (how_at hat2).symm.trans Hz.out
          rw [this]
        clear hat hwc hoA hbx
        go_region_held3 (fun w' => w' = w2.drew) (first | rfl | assumption) (fail)
        go_wp2_with fail
        go_meet
        case rel => exact ⟨rfl, rfl⟩
      case rest =>
        rename World => w3
        obtain ⟨rfl, rfl⟩ := hcut
        have ho3 := HO.out.1.drew
        have hbx3 : Blk w2.drew q 32 #[.int .i64 x, .bool sh] := HO.out.2
        have hxb : ∀ w4, w2.drew.grownBy w4 (some w.heap.size) → w4.cell? ⟨q, 1, none⟩ = some (.bool sh) := fun w4 hg4 => by
          have h4 : Blk w4 q 32 #[.int .i64 x, .bool sh] := (hg4.block _ hbx3.lt (by intro e; have := Option.some.inj e; omega)).trans hbx3
          rw [h4.cell]; rfl
        have hxa : ∀ w4, w2.drew.grownBy w4 (some w.heap.size) → w4.cell? ⟨q, 0, none⟩ = some (.int .i64 x) := fun w4 hg4 => by
          have h4 : Blk w4 q 32 #[.int .i64 x, .bool sh] := (hg4.block _ hbx3.lt (by intro e; have := Option.some.inj e; omega)).trans hbx3
          rw [h4.cell]; rfl
        have HXB := Lib.hid (And.intro hxb hxa)
        have d0 : w2.drew.cell? ⟨q, 0, none⟩ = some (.int .i64 x) := b0
        clear hoA hbx b0 hmA hrun hat hwc hge hlt hxa hxb hbx3
        rcases sh with _ | _
        · go_wp2_with (first
            | (at_mapUpdate; refine wpList_mapUpdate_own _ rfl _ _ _ 78 rfl 3 3 law3 Try.underlying78 _ w.heap.size _ _ rfl ho3 (by unfold maxLen; omega) _ _ _ rfl rfl (keyOf_int_mk Try.underlying3 hwx) _ [] (plainElem_int Try.underlying3 rfl) ?_; intro w4 ho4 hg4; have b4 := HXB.out.1 w4 hg4; have b5 := HXB.out.2 w4 hg4)
            | fail)
          refine ⟨⟨k + 1, by omega, by go_num, ⟨n' + 1, _, by omega, ho4, fun y => ?_, pos_put HO.out.1.isMap x 2 (.inr rfl) HD.out.2.2⟩, HB2.out.drew.grown hg4 HB2.out.size (fun j hj => by cases hj; exact Nat.le_refl _)⟩, by simp [intOf]; omega⟩
          rw [how_put HO.out.1.isMap, HS.out y, HD.out.2.1 y]
          rfl
        · go_wp2_with (first
            | (at_mapUpdate; refine wpList_mapUpdate_own _ rfl _ _ _ 78 rfl 3 3 law3 Try.underlying78 _ w.heap.size _ _ rfl ho4 (by unfold maxLen; omega) _ _ _ rfl rfl (keyOf_int_mk Try.underlying3 hwx) _ [] (plainElem_int Try.underlying3 rfl) ?_; intro w5 ho5 hg5)
            | (at_mapUpdate; refine wpList_mapUpdate_own _ rfl _ _ _ 78 rfl 3 3 law3 Try.underlying78 _ w.heap.size _ _ rfl ho3 (by unfold maxLen; omega) _ _ _ rfl rfl (keyOf_int_mk Try.underlying3 hwx) _ [] (plainElem_int Try.underlying3 rfl) ?_; intro w4 ho4 hg4; have b4 := HXB.out.1 w4 hg4; have b5 := HXB.out.2 w4 hg4)
            | fail)
          have hb4 : Below w.heap.size w w4 := HB2.out.drew.grown hg4 HB2.out.size (fun j hj => by cases hj; exact Nat.le_refl _)
          refine ⟨⟨k + 1, by omega, by go_num, ⟨n' + 1 + 1, _, by omega, ho5, fun y => ?_, pos_put ho4.isMap x 1 (.inl rfl) (pos_put HO.out.1.isMap x 2 (.inr rfl) HD.out.2.2)⟩, hb4.grown hg5 hb4.size (fun j hj => by cases hj; exact Nat.le_refl _)⟩, by simp [intOf]; omega⟩
          rw [how_put ho4.isMap, how_put HO.out.1.isMap, HS.out y, HD.out.2.1 y]
          by_cases e : x = y
          · rw [if_pos e, if_pos e]; rfl
          · rw [if_neg e, if_neg e, if_neg e]
    · obtain rfl : n = k := by omega
      have k1 : ¬ (n : Int) < (n : Int) := by omega
      have hLn : L.take n = L := List.take_of_length_le (by rw [HL.out]; exact Nat.le_refl _)
      have hfull : ∀ x, how D x = hw L x := fun x => by rw [HD.out.2.1 x, hLn]
      have hs : Maps.size D ≠ 0 := by
        rcases hL : L with _ | ⟨p, r⟩
        · exact absurd hL HA.out.some_
        · have : how D p.1 ≠ 0 := by
            rw [hfull, hL]
            show (if p.1 = p.1 then (if p.2 = true then (1 : Int) else 2) else hw r p.1) ≠ 0
            rw [if_pos rfl]
            split <;> decide
          exact size_pos (has_of_how this)
      have hne : ((Maps.size D : Int) == 0) = false := by simpa using hs
      have ho := HD.out.1
      have HF := Lib.hid (And.intro hfull hs)
      clear hfull hs hLn
      go_wp2_with (first | (at_len; refine wpList_len_own _ rfl _ 78 rfl 3 3 Try.underlying78 _ w.heap.size _ _ rfl ho ?_) | fail)
      go_wp2
      go_ret2
      exact ⟨w.heap.size, rfl, Nat.le_refl _, D, ⟨⟨n', by omega, ho⟩, HD.out.2.2⟩, HF.out.1, HB.out⟩
end Go.Proofs.Ytgcnappgecdldaa.C
