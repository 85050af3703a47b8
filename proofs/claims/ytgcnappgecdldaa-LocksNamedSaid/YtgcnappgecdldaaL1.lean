/-
  Locks: sets of locks as maps; against.
-/
import Derived.Test.YtgcnappgecdldaaProg
import Derived.Test.YtgcnappgecdldaaTag
import Derived.Test.YtgcnappgecdldaaTold
import Derived.Lib.MinMax
import Derived.Lib.Hide
import Derived.Maps.RangeWalk
import Derived.Maps.OwnOps
import Derived.Maps.OwnSet
import Derived.Maps.Ext
import Derived.WalkKit
import Derived.ChangeKeysEq
import Derived.WalkSpells
import Derived.Deep.RegionHeld3
import Derived.BigRegion
import Derived.BigQuiet
import Derived.Deep.QuietTactic
import Derived.Deep.DeepCutAuto
set_option linter.unusedVariables false
set_option linter.unusedSimpArgs false
namespace Go.Proofs.Ytgcnappgecdldaa.C
open Go.RowKit Go.Proofs.Ytgcnappgecdldaa.K Go.Maps

theorem zero3 (w : World) : (zeroValue 3).run Try.prog w = .ok (.int .i64 0) w := by kernel_rfl
theorem info3' : ∃ i, Try.prog.info? 3 = some i := Option.isSome_iff_exists.1 (by kernel_rfl)
theorem eq101 (c d : Int) (w : World) : (Op.equalIn 10000 101 (.agg #[.int .i64 c, .int .i64 d]) (.agg #[.int .i64 1, .int .i64 1])).run Try.prog w = .ok (c == 1 && d == 1) w := by
  obtain ⟨i, hi⟩ := info3'
  rw [show (10000 : Nat) = 9999 + 1 from rfl, run_equalIn_array w 9999 _ _ Try.underlying101 hi]
  have hc : Try.prog.cellsOf 3 = 1 := by kernel_rfl
  have h1 := run_equalIn_int (P := Try.prog) w 9998 3 .i64 .i64 c 1 Try.underlying3
  have h2 := run_equalIn_int (P := Try.prog) w 9998 3 .i64 .i64 d 1 Try.underlying3
  rw [hc]
  simp [Op.eqItems, h1, h2, List.range_succ, go_sem]
  by_cases e1 : c = 1 <;> by_cases e2 : d = 1 <;> simp [e1, e2]
theorem law3 : Keyed Try.prog 3 := int_keyed Try.underlying3
abbrev Dt := DataW Unit
abbrev key (x : Int) : Lit := .int .i64 x
/-- How a set holds a lock: 0 not at all, 1 shared, 2 alone. -/
def how (D : Dt) (x : Int) : Int := match D.atKey (key x) (.lit (.int .i64 0)) with | .lit (.int .i64 c) => c | _ => 0
/-- A set of locks in memory. -/
structure SetAt (w : World) (b : Nat) (D : Dt) : Prop where
  own : ∃ n, n ≤ 1000000 ∧ w.ownsMap Try.prog 3 (plainElem Try.prog 3) b n D
  pos : ∀ x, has D (key x) = true → how D x = 1 ∨ how D x = 2
theorem SetAt.lt {w : World} {b : Nat} {D : Dt} (h : SetAt w b D) : b < w.heap.size := by
  obtain ⟨n, _, h⟩ := h.own
  exact h.lt
theorem SetAt.kept {w w' : World} {b : Nat} {D : Dt} {row : Option Nat} (h : SetAt w b D) (hg : w.grownBy w' row) (hne : some b ≠ row) : SetAt w' b D := by
  obtain ⟨n, hn, ho⟩ := h.own
  exact ⟨⟨n, hn, ho.kept hg hne⟩, h.pos⟩
theorem SetAt.below {w w' : World} {b : Nat} {D : Dt} (h : SetAt w b D) (hb : Below w.heap.size w w') : SetAt w' b D := h.kept (row := none) ⟨hb.os, hb.tape, hb.output, hb.size, fun k hk _ => hb.block k hk⟩ (by simp)
theorem how_zero {D : Dt} {x : Int} (h : has D (key x) = false) : how D x = 0 := by
  unfold how
  rw [atKey_of_not_has h]
theorem has_of_how {D : Dt} {x : Int} (h : how D x ≠ 0) : has D (key x) = true := by
  rcases hh : has D (key x) with _ | _
  · exact absurd (how_zero hh) h
  · rfl
theorem how_at {D : Dt} {x c : Int} (h : D.atKey (key x) (.lit (.int .i64 0)) = .lit (.int .i64 c)) : how D x = c := by
  unfold how
  rw [h]
/-- Two sets conflict. -/
def conf (D E : Dt) : Prop := ∃ x, how D x ≠ 0 ∧ how E x ≠ 0 ∧ ¬ (how D x = 1 ∧ how E x = 1)
def clm (t : Int) (b : Nat) : Value := .agg #[.int .i64 t, .map (some b)]
theorem same_int (x y : Int) : (key y).sameKey (key x) = decide (y = x) := by
  unfold Lit.sameKey key
  simp

/-- The loop of against is under way: no entry that came conflicts. -/
def ARel (w wr : World) (b1 b2 n1 : Nat) (t2 : Int) (D E : Dt) : Prop := ∃ (left : Lit → Bool) (cnt : Nat), wr.ranges Try.prog 3 (plainElem Try.prog 3) b1 (w.heap.size + 1 + 1) n1 D left cnt ∧ SetAt wr b2 E ∧ Blk wr (w.heap.size + 1) 86 #[.int .i64 t2, .map (some b2)] ∧
      (∀ x, has D (key x) = true → left (key x) = false → ¬ (how D x ≠ 0 ∧ how E x ≠ 0 ∧ ¬ (how D x = 1 ∧ how E x = 1))) ∧ Below w.heap.size w wr

set_option maxRecDepth 100000 in
set_option maxHeartbeats 1600000 in
theorem against_c (w : World) (t1 t2 : Int) (b1 b2 : Nat) (D E : Dt) (h1 : SetAt w b1 D) (h2 : SetAt w b2 E) (r : Bool) (hr : r = true ↔ conf D E) :
    Calls Try.prog 46 #[clm t1 b1, clm t2 b2] w fun e w' => e = .returned (.bool r) ∧ Below w.heap.size w w' := by
  obtain ⟨n1, hn1, ho1⟩ := h1.own
  have Hr := Lib.hid hr
  have Hpos := Lib.hid h1.pos
  have hs2 := h2.lt
  have hs1 := ho1.lt
  have hbA : Below w.heap.size w (w.alloc (.cells #[.int .i64 t1, .map (some b1)] 86)) := (Below.refl _ _).alloc (Nat.le_refl _) _
  have hbB : Below w.heap.size w ((w.alloc (.cells #[.int .i64 t1, .map (some b1)] 86)).alloc (.cells #[.int .i64 t2, .map (some b2)] 86)) := hbA.alloc (by simp) _
  have hAB := (Blk.new w 86 #[.int .i64 t1, .map (some b1)]).alloc (.cells #[.int .i64 t2, .map (some b2)] 86)
  have hB := Blk.new (w.alloc (.cells #[.int .i64 t1, .map (some b1)] 86)) 86 #[.int .i64 t2, .map (some b2)]
  rw [World.size_alloc] at hB
  have ho1' := (ho1.alloc (.cells #[.int .i64 t1, .map (some b1)] 86)).alloc (.cells #[.int .i64 t2, .map (some b2)] 86)
  have h2' := h2.below hbB
  unfold clm
  clear hr h1 h2 ho1 hbA
  have e1 : ((w.alloc (.cells #[.int .i64 t1, .map (some b1)] 86)).alloc (.cells #[.int .i64 t2, .map (some b2)] 86)).heap.size = w.heap.size + 1 + 1 := by simp
  have c1 : ((w.alloc (.cells #[.int .i64 t1, .map (some b1)] 86)).alloc (.cells #[.int .i64 t2, .map (some b2)] 86)).cell? ⟨w.heap.size, 1, none⟩ = some (.map (some b1)) := by rw [hAB.cell]; rfl
  go_enter Try.func46, Try.ntmps46
  go_wp2_with (first
    | (at_range; refine wpList_range_own _ rfl _ 78 rfl 3 3 law3 Try.underlying78 _ b1 n1 _ rfl ho1' ?_; intro w0 hrg0 hg0 hs0)
    | fail)
  go_frame
  rw [e1] at hrg0 hs0 ⊢
  have hB0 : Blk w0 (w.heap.size + 1) 86 #[.int .i64 t2, .map (some b2)] := (hg0.block _ hB.lt (by simp)).trans hB
  have h20 := h2'.kept hg0 (by simp)
  have hb0 : Below w.heap.size w w0 := hbB.grown hg0 hbB.size (fun j hj => by cases hj)
  clear c1 hAB hB h2' ho1' hbB hg0
  go_loopw [5] (fun _ wr => ARel w wr b1 b2 n1 t2 D E) (fun _ wr => wr.rangeLeft b1 (w.heap.size + 1 + 1))
  case atStart => exact ⟨_, _, hrg0, h20, hB0, fun x h1 h2 => absurd (h1.symm.trans h2) (by decide), hb0⟩
  case round =>
    obtain ⟨left, cnt, hrg, hE, hbx, hno, hnx⟩ := hrel
    have Hno := Lib.hid hno
    clear hno hrg0 hs0 hB0 h20 hb0
    go_wp2_with (first
      | (at_next; refine wpList_next_ranges_ii _ rfl _ rfl 3 3 .i64 .i64 law3 Try.underlying3 Try.underlying3 b1 (w.heap.size + 1 + 1) n1 _ _ _ rfl hrg ?_ ?_)
      | fail)
    · intro hc0 hl0
      have hrf : r = false := by
        rcases h : r with _ | _
        · rfl
        · obtain ⟨x, hx⟩ := Hr.out.1 h
          exact absurd hx (Hno.out x (has_of_how hx.1) (hl0 _))
      subst hrf
      go_wp2
      go_ret
      exact ⟨rfl, hnx⟩
    · intro x c w1 cnt1 hwx hwc hlx hat hrg1 hlt hg1 hs1 hen
      have hnx1 : Below w.heap.size w w1 := hnx.grown hg1 hnx.size (fun j hj => by cases hj; omega)
      have hE1 := hE.kept hg1 (by intro e; have := Option.some.inj e; omega)
      have hbx1 : Blk w1 (w.heap.size + 1) 86 #[.int .i64 t2, .map (some b2)] := (hg1.block _ hbx.lt (by intro e; have := Option.some.inj e; omega)).trans hbx
      have hcx : how D x = c := how_at (hat _)
      have hpx := Hpos.out x (has_true_of_atKey hat)
      rw [hcx] at hpx
      have c2 : w1.cell? ⟨w.heap.size + 1, 1, none⟩ = some (.map (some b2)) := by rw [hbx1.cell]; rfl
      obtain ⟨n2, hn2, ho2⟩ := hE1.own
      have HX := Lib.hid (And.intro hcx hpx)
      have HL := Lib.hid (And.intro hrg1 (And.intro hE1 (And.intro hbx1 (And.intro hnx1 (And.intro hlt hrg)))))
      clear hrg hE hbx hnx hg1 hcx hpx hrg1 hE1 hbx1 hnx1 hlt hs1
      go_upto_region 5 with (first
        | (at_lookup; refine wpList_lookup_own_int _ rfl _ _ 78 rfl 3 3 .i64 law3 Try.underlying78 Try.underlying3 (zero3 _) b2 n2 E rfl ho2 _ _ rfl (keyOf_int_mk Try.underlying3 hwx) ?_; intro d hatd hwd)
        | fail)
      have hdx : how E x = d := how_at hatd
      have HDX := Lib.hid hdx
      clear hdx hatd ho2 c2 hen hat
      have hnew : (how D x ≠ 0 ∧ how E x ≠ 0 ∧ ¬ (how D x = 1 ∧ how E x = 1)) ∨ ∀ y, has D (key y) = true → (left (key y) && !(key y).sameKey (key x)) = false → ¬ (how D y ≠ 0 ∧ how E y ≠ 0 ∧ ¬ (how D y = 1 ∧ how E y = 1)) := by
        by_cases hc : how D x ≠ 0 ∧ how E x ≠ 0 ∧ ¬ (how D x = 1 ∧ how E x = 1)
        · exact .inl hc
        · refine .inr fun y hy hl => ?_
          rw [same_int] at hl
          by_cases e : y = x
          · subst e; exact hc
          · exact Hno.out y hy (by simpa [e] using hl)
      have HN := Lib.hid hnew
      have hyes : how D x ≠ 0 ∧ how E x ≠ 0 ∧ ¬ (how D x = 1 ∧ how E x = 1) → r = true := fun h => Hr.out.2 ⟨x, h⟩
      have HY := Lib.hid hyes
      clear hnew hyes Hno hlx
      have heq := eq101 c d w1
      by_cases hd0 : d = 0
      · have hgo : ∀ y, has D (key y) = true → (left (key y) && !(key y).sameKey (key x)) = false → ¬ (how D y ≠ 0 ∧ how E y ≠ 0 ∧ ¬ (how D y = 1 ∧ how E y = 1)) := by
          rcases HN.out with h | h
          · rw [HDX.out] at h; exact absurd hd0 h.2.1
          · exact h
        have HG := Lib.hid hgo
        clear hgo HN HY
        subst hd0
        go_wp2
        go_roundw
        case rel => exact ⟨_, cnt1, HL.out.1, HL.out.2.1, HL.out.2.2.1, HG.out, HL.out.2.2.2.1⟩
        case measure => rw [HL.out.1.left_eq, HL.out.2.2.2.2.2.left_eq]; exact HL.out.2.2.2.2.1
      · have hd0' : (d == 0) = false := by simpa using hd0
        have hd0n : (d != 0) = true := by simpa using hd0
        by_cases hcd : c = 1 ∧ d = 1
        · have hgo : ∀ y, has D (key y) = true → (left (key y) && !(key y).sameKey (key x)) = false → ¬ (how D y ≠ 0 ∧ how E y ≠ 0 ∧ ¬ (how D y = 1 ∧ how E y = 1)) := by
            rcases HN.out with h | h
            · rw [HDX.out, HX.out.1] at h; exact absurd hcd h.2.2
            · exact h
          have HG := Lib.hid hgo
          clear hgo HN HY
          obtain ⟨rfl, rfl⟩ := hcd
          go_wp2
          go_roundw
          case rel => exact ⟨_, cnt1, HL.out.1, HL.out.2.1, HL.out.2.2.1, HG.out, HL.out.2.2.2.1⟩
          case measure => rw [HL.out.1.left_eq, HL.out.2.2.2.2.2.left_eq]; exact HL.out.2.2.2.2.1
        · have hrt : r = true := HY.out ⟨by rw [HX.out.1]; have := HX.out.2; omega, by rw [HDX.out]; exact hd0, by rw [HX.out.1, HDX.out]; exact hcd⟩
          subst hrt
          rcases HX.out.2 with rfl | rfl
          · have hd1 : ¬ d = 1 := fun e => hcd ⟨rfl, e⟩
            have hd1' : (d == 1) = false := by simpa using hd1
            clear hcd HX HN HY
            go_wp2
            go_ret
            exact ⟨rfl, HL.out.2.2.2.1⟩
          · clear hcd HX HN HY
            go_wp2
            go_ret
            exact ⟨rfl, HL.out.2.2.2.1⟩
end Go.Proofs.Ytgcnappgecdldaa.C
