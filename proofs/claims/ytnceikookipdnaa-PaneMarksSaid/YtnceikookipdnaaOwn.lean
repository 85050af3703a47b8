/-
  The call of the law PaneOwn.
-/
import Derived.Test.YtnceikookipdnaaPaneC
import Derived.Test.YtnceikookipdnaaTold
import Derived.Test.YtnceikookipdnaaOpen
import Derived.Lib.MinMax
import Derived.Lib.Hide
import Derived.Outline
import Derived.Deep.RegionHeld3
import Derived.Deep.DrawnRows
import Derived.Deep.QuietTactic
import Derived.BigQuiet
import Derived.BigRegion
import Derived.WalkLawsBesides
import Derived.WalkSpells
import Derived.StillTailTactics
set_option linter.unusedVariables false
namespace Go.Proofs.Ytnceikookipdnaa.PaneC
open Go.RowKit Go.Proofs.Ytnceikookipdnaa.K Go.Proofs.Ytnceikookipdnaa.Math2
attribute [local go_sem ↓] Go.wp_at_zero Go.wp_at_succ

theorem info2' : (Try.prog.info? 2).map (fun i => (i.zero, i.size, i.bytes)) = some (some (.int .i64 0), 1, 8) := by kernel_rfl
theorem info29' : (Try.prog.info? 29).map (fun i => (i.zero, i.size, i.bytes)) = some (some (.slice none 0 0), 1, 24) := by kernel_rfl
theorem quiet_more {P : Program} {f : FuncId} {args : Array Value} {w : World} {n : Nat} {v : Value}
    (h : Calls P f args (w.drewN n) fun e w' => e = .returned v ∧ ∃ m, w' = (w.drewN n).drewN m) : Calls P f args (w.drewN n) fun e w'' => e = .returned v ∧ ∃ m, w'' = w.drewN m :=
  h.mono fun _ _ ⟨he, m, hm⟩ => ⟨he, n + m, by rw [hm]; simp⟩

theorem tmod_within (a : Int) : Tm (Int.tmod a 576460752303423488) ∧ Tm (Int.tmod a 576460752303423488) ∧ -576460752303423488 < Int.tmod a 576460752303423488 ∧ Int.tmod a 576460752303423488 < 576460752303423488 := by
  have h1 : Int.tmod a 576460752303423488 < 576460752303423488 := Int.tmod_lt_of_pos _ (by omega)
  have h2 : -576460752303423488 < Int.tmod a 576460752303423488 := by
    have := Int.tmod_lt_of_pos (-a) (show (0 : Int) < 576460752303423488 by omega)
    rw [Int.neg_tmod] at this
    omega
  exact ⟨⟨by omega, by omega⟩, ⟨by omega, by omega⟩, h2, h1⟩

/-- What a row tells, beside its value. -/
def tells (p : TRow) : Nat × List Value := (p.n, p.xs)
def telling (L : List Int) : Nat × List Value := (L.length, nums .i64 L)
theorem telling_at {rs : List TRow} {Ls : List (List Int)} (h : rs.map tells = Ls.map telling) {j : Nat} {p : TRow} (hp : rs[j]? = some p) : ∃ L, Ls[j]? = some L ∧ p.n = L.length ∧ p.xs = nums .i64 L := by
  have := congrArg (fun l => l[j]?) h
  simp only [List.getElem?_map, hp, Option.map_some] at this
  rcases hL : Ls[j]? with _ | L
  · rw [hL] at this; cases this
  · rw [hL] at this
    simp only [Option.map_some, Option.some.injEq, tells, telling, Prod.mk.injEq] at this
    exact ⟨L, rfl, this.1, this.2⟩
theorem nums_one (L : List Int) : ∀ u ∈ nums .i64 L, u.oneCell' = true := by
  intro u hu
  simp only [nums, List.mem_map] at hu
  obtain ⟨x, _, rfl⟩ := hu
  rfl

/-- Row i written over up to y. -/
def marked (i y : Nat) : List Value := nums .i64 ((List.range y).map fun j : Nat => (-(1000 * (i : Int)) - (j : Int) : Int))
theorem marked_length (i y : Nat) : (marked i y).length = y := by unfold marked; rw [nums_length]; simp
theorem marked_succ (i y : Nat) : marked i (y + 1) = marked i y ++ [.int .i64 (-(1000 * (i : Int)) - (y : Int))] := by
  unfold marked nums
  rw [List.range_succ, List.map_append, List.map_append]
  rfl
theorem marked_set (i y n : Nat) (xs : List Value) (hx : xs.length = n) (hy : y < n) :
    (marked i y ++ xs.drop y).set y (.int .i64 (-(1000 * (i : Int)) - (y : Int))) = marked i (y + 1) ++ xs.drop (y + 1) := by
  have hl := marked_length i y
  rw [List.drop_eq_getElem_cons (by omega), marked_succ, List.append_assoc, List.set_append_right _ _ (by omega), hl, Nat.sub_self]
  rfl
theorem marked_at (i n y : Nat) (h : y < n) : (marked i n)[y]? = some (.int .i64 (-(1000 * (i : Int)) - (y : Int))) := by
  unfold marked nums
  simp [h]
theorem set_of_get {α : Type} (l : List α) (x : Nat) (a : α) (h : l[x]? = some a) : l.set x a = l := by
  obtain ⟨hl, rfl⟩ := List.getElem?_eq_some_iff.1 h
  exact List.set_getElem_self hl
theorem grown_set1 (w : World) (g i : Nat) (a : Value) : w.grownBy (w.setCell ⟨g, i, none⟩ a) (some g) := by
  refine ⟨rfl, rfl, rfl, by simp [World.setCell], fun q hq hne => ?_⟩
  exact Below.heap_setCell _ _ _ _ (fun e => hne (by rw [e]))

set_option maxRecDepth 100000 in
set_option maxHeartbeats 1600000 in
theorem own_good (w : World) (s d l : Int) (hR : Right s d l) (T : Option Addr) (nt ct : Nat) (tf : Nat → Int) (hT : Flat1 w T nt tf) (hnt : nt ≤ 140737488351232) :
    Calls Try.prog 10 #[.agg #[.int .i64 s, .int .i64 d, .int .i64 l], .slice T nt ct] w fun e w' => e = .returned (.bool true) ∧ Below w.heap.size w w' := by
  have hend : ∀ W, Below w.heap.size w W → Calls Try.prog 13 #[] W fun e w' => e = .returned (.bool true) ∧ Below w.heap.size w w' := fun W h => (head_c W).mono fun _ _ ⟨he, hb⟩ => ⟨he, Below.then_ h h.size hb⟩
  have Hend := Lib.hid hend
  clear hend
  obtain ⟨i0, hi, hz0, hz1, hz2⟩ := info_parts info29'
  obtain ⟨i1, hi1, hy0, hy1, hy2⟩ := info_parts info2'
  have HR := Lib.hid hR
  clear hR
  go_enter Try.func10, Try.ntmps10
  go_wp2_with fail
  refine (right_ok HR.out _).mono ?_
  rintro e w1 ⟨rfl, hb1⟩
  have hBk : Blk w1 w.heap.size 24 #[.int .i64 s, .int .i64 d, .int .i64 l] := (Blk.new w 24 _).below' hb1
  have hbel1 : Below w.heap.size w w1 := Below.then_ ((Below.refl _ _).alloc (Nat.le_refl _) _) (by simp) hb1
  obtain ⟨gb, hgb⟩ : ∃ gb, gb = w.heap.size := ⟨_, rfl⟩
  rw [← hgb] at hBk
  simp only [← hgb]
  have Hgb := Lib.hid hgb
  clear hb1 hgb
  go_wp2_with fail
  go_loopw [5, 6, 7] (fun ku wu i wr => ∃ (k : Nat) (ks ws : List TRow) (Ls : List (List Int)), k ≤ nt ∧ k ≤ 20 ∧ i = .int .i64 k ∧ Ls.length = 3 * k ∧ ks.map tells = Ls.map telling ∧ ws.map tells = Ls.map telling ∧ (∀ L ∈ Ls, L.length ≤ 64) ∧
    wr.ownsRow w.heap.size 29 1 ku ks.length (ks.map TRow.v) ∧ wr.ownsRow w.heap.size 29 1 wu ws.length (ws.map TRow.v) ∧ (ku.ownBlock = none ∨ ku.ownBlock ≠ wu.ownBlock) ∧ TRows wr w.heap.size 2 1 (ks ++ ws) ∧
    Blk wr gb 24 #[.int .i64 s, .int .i64 d, .int .i64 l] ∧ Below w.heap.size w wr) (fun _ _ i _ => nt - (intOf i).toNat)
  case atStart => exact ⟨0, [], [], [], Nat.zero_le _, Nat.zero_le _, rfl, rfl, rfl, rfl, by simp, World.ownsRow_nil _ _ _ _, World.ownsRow_nil _ _ _ _, .inl rfl, TRows.nil _ _ _ _, hBk, hbel1⟩
  case round =>
    clear hBk hbel1
    obtain ⟨k, ks, ws, Ls, hk, hk20, rfl, hLs, hks, hws, hn64, hku, hwu, hkw, hT0, hBk, hbel⟩ := hrel
    have hkl : ks.length = 3 * k := by have := congrArg List.length hks; simp only [List.length_map] at this; omega
    have hwl : ws.length = 3 * k := by have := congrArg List.length hws; simp only [List.length_map] at this; omega
    obtain ⟨Ak, ck, rfl⟩ := own_slice hku
    obtain ⟨Aw, cw, rfl⟩ := own_slice hwu
    have Hkl := Lib.hid hkl
    have Hwl := Lib.hid hwl
    have Hks := Lib.hid hks
    have Hws := Lib.hid hws
    clear hkl hwl hks hws
    by_cases hlt : k < nt ∧ k < 20
    · obtain ⟨hlt, h20⟩ := hlt
      obtain ⟨bt, ot, rfl, hbt, hct⟩ := hT.at_ (by omega)
      have et := hct k hlt
      clear hct
      have dt := (hbel.cell (p := ⟨bt, ot + k, none⟩) hbt).trans et
      have j0 : (0 : Int) ≤ (k : Int) := by omega
      have j1 : (k : Int) < (nt : Int) := by omega
      have c0 := hBk.cell 0
      have c1 := hBk.cell 1
      have c2 := hBk.cell 2
      go_wp2_with fail
      refine (within_c (tf k) _).mono ?_
      rintro e w2 ⟨rfl, hb2⟩
      obtain ⟨ht, _, ht0, ht1⟩ := tmod_within (tf k)
      have hBk2 := hBk.below' hb2
      have hbel2 := Below.then_ hbel hbel.size hb2
      have hT2 := hT0.below hb2
      have hku2 := own_below hku hb2
      have hwu2 := own_below hwu hb2
      generalize Int.tmod (tf k) 576460752303423488 = t at ht ht0 ht1 ⊢
      have Ht := Lib.hid ht
      clear dt et ht c0 c1 c2 hBk hb2 hbel hT0 hku hwu
      have c0 := hBk2.cell 0
      have c1 := hBk2.cell 1
      have c2 := hBk2.cell 2
      go_wp2_with fail
      refine (starts_c HR.out Ht.out _).mono ?_
      rintro e w3 ⟨va, rfl, hoa, hb3⟩
      have hlen : (starts s d t).length ≤ 64 := by
        have := (cnt_le HR.out t).2
        have := starts_length s d t
        omega
      have Hla := Lib.hid hlen
      have hBk3 := hBk2.below' hb3
      have hbel3 := Below.then_ hbel2 hbel2.size hb3
      have hT3 := TRows.snoc hT2 ⟨va, (starts s d t).length, nums .i64 (starts s d t)⟩ hb3 hbel2.size hoa
      have hku3 := own_below hku2 hb3
      have hwu3 := own_below hwu2 hb3
      obtain ⟨Aa, ca, rfl⟩ := own_slice hoa
      clear c0 c1 c2 hBk2 hb3 hbel2 hT2 hku2 hwu2 hlen
      have c0 := hBk3.cell 0
      have c1 := hBk3.cell 1
      have c2 := hBk3.cell 2
      go_wp2_with fail
      refine (open_c _ HR.out Ht.out _).mono ?_
      rintro e w4 ⟨vb, rfl, hob, hb4⟩
      have Hlb := Lib.hid (opn_le (t := t) (-4611686018427387904) HR.out)
      have hBk4 := hBk3.below' hb4
      have hbel4 := Below.then_ hbel3 hbel3.size hb4
      have hT4 := TRows.snoc hT3 ⟨vb, (opn s d l t (-4611686018427387904)).length, nums .i64 (opn s d l t (-4611686018427387904))⟩ hb4 hbel3.size hob
      have hku4 := own_below hku3 hb4
      have hwu4 := own_below hwu3 hb4
      have hoa4 := own_below hoa hb4
      obtain ⟨Ab, cb, rfl⟩ := own_slice hob
      clear c0 c1 c2 hBk3 hb4 hbel3 hT3 hku3 hwu3 hoa
      have c0 := hBk4.cell 0
      have c1 := hBk4.cell 1
      have c2 := hBk4.cell 2
      go_wp2_with fail
      refine (open_c _ HR.out Ht.out _).mono ?_
      rintro e w5 ⟨vc, rfl, hoc, hb5⟩
      have Hlc := Lib.hid (opn_le (t := t) (t + 1) HR.out)
      have hBk5 := hBk4.below' hb5
      have hbel5 := Below.then_ hbel4 hbel4.size hb5
      have hT5 := TRows.snoc hT4 ⟨vc, (opn s d l t (t + 1)).length, nums .i64 (opn s d l t (t + 1))⟩ hb5 hbel4.size hoc
      have hku5 := own_below hku4 hb5
      have hwu5 := own_below hwu4 hb5
      have hoa5 := own_below hoa4 hb5
      have hob5 := own_below hob hb5
      obtain ⟨Ac, cc, rfl⟩ := own_slice hoc
      clear c0 c1 c2 hBk4 hb5 hbel4 hT4 hku4 hwu4 hoa4 hob
      generalize starts s d t = La at *
      generalize opn s d l t (-4611686018427387904) = Lb at *
      generalize opn s d l t (t + 1) = Lc at *
      go_wp2_with (at_builtin; refine wpList_append_own_at _ rfl _ _ 41 rfl w.heap.size 29 i0 _ 1 24 Try.underlying41 hi hz0 hz1 hz2 rfl (by omega) (.slice Ak ks.length ck) ks.length (ks.map TRow.v) (by rfl) ?c0 ⟨w5.heap.size, 0, none⟩ 3 3 [.slice Aa La.length ca, .slice Ab Lb.length cb, .slice Ac Lc.length cc] (by rfl) rfl ?c2 ?c3 ?c4 ?c5 ?c6 ?_)
      case c0 => exact own_below hku5 ((Below.refl _ _).alloc (Nat.le_refl _) _)
      case c2 =>
        intro j u hu
        rw [add_plain, Nat.zero_add, World.cell?_alloc_new]
        simpa using hu
      case c3 =>
        intro u hu
        simp at hu
        rcases hu with rfl | rfl | rfl <;> rfl
      case c4 => have := Hkl.out; unfold maxLen; omega
      case c5 => have := Hkl.out; omega
      case c6 => have := hbel5.size; simp; omega
      intro u' w6 hku6 hgrow _ hat
      have hba : Below w5.heap.size w5 (w5.alloc (.cells #[.slice Aa La.length ca, .slice Ab Lb.length cb, .slice Ac Lc.length cc] 29)) := (Below.refl _ _).alloc (Nat.le_refl _) _
      have hT6 := (hT5.below hba).grown hgrow (fun p hp => own_ne_kind (hT5.own p hp) hku5 (by decide))
      have hwk : Value.ownBlock (.slice Aw ws.length cw) = none ∨ Value.ownBlock (.slice Aw ws.length cw) ≠ Value.ownBlock (.slice Ak ks.length ck) := by
        rcases hb : Value.ownBlock (.slice Aw ws.length cw) with _ | q
        · exact .inl rfl
        · right
          intro he
          rcases hkw with h0 | h0
          · rw [h0] at he; cases he
          · exact h0 (by rw [hb, he])
      have hwu6 := (own_below hwu5 hba).kept hgrow hwk
      have hkw6 : u'.ownBlock = none ∨ u'.ownBlock ≠ Value.ownBlock (.slice Aw ws.length cw) := by
        rcases hat with h0 | h0
        · rw [h0]; exact hkw
        · right
          rw [h0]
          intro he
          have := (hwu5.lt _ he.symm).2
          first | omega | (simp at this; omega)
      have hne : ∀ {v : Value} {n : Nat} {xs : List Value}, w5.ownsRow w5.heap.size 2 1 v n xs → w6.ownsRow w5.heap.size 2 1 v n xs := fun h => (own_below h hba).kept hgrow (own_ne_kind h hku5 (by decide))
      have ka : ∀ {B : Nat} {v : Value} {n : Nat} {xs : List Value}, w5.ownsRow B 2 1 v n xs → w6.ownsRow B 2 1 v n xs := fun h => (own_below h hba).kept hgrow (own_ne_kind h hku5 (by decide))
      have hoa6 := ka hoa5
      have hob6 := ka hob5
      have hoc6 := ka hoc
      have hBk6 : Blk w6 gb 24 #[.int .i64 s, .int .i64 d, .int .i64 l] := (hgrow.block gb (hBk5.below' hba).lt (by
        rcases own_ne_blk hku5 hBk5 (by decide) with h0 | h0
        · rw [h0]; simp
        · exact fun e => h0 e.symm)).trans (hBk5.below' hba)
      have hbel6 : Below w.heap.size w w6 := (hbel5.alloc hbel5.size _).grown hgrow (by have := hbel5.size; simp; omega) (fun x e => (hku5.lt x e).1)
      clear hne ka hT5 hku5 hwu5 hoa5 hob5 hoc hBk5 hbel5 hba hat hgrow hkw hwk
      go_wp2_with fail
      refine (copied_c _ _ _ La _ rfl (by have := Hla.out; omega) hoa6).mono ?_
      rintro e w7 ⟨xa, rfl, hxa, hb7⟩
      obtain ⟨Xa, fa, rfl⟩ := own_slice hxa
      have hBk7 := hBk6.below' hb7
      have hbel7 := Below.then_ hbel6 hbel6.size hb7
      have hT7 := TRows.snoc hT6 ⟨.slice Xa La.length fa, La.length, nums .i64 La⟩ hb7 hbel6.size hxa
      have hku7 := own_below hku6 hb7
      have hwu7 := own_below hwu6 hb7
      have hob7 := own_below hob6 hb7
      have hoc7 := own_below hoc6 hb7
      clear hBk6 hb7 hbel6 hT6 hku6 hwu6 hoa6 hob6 hoc6 hxa
      go_wp2_with fail
      refine (copied_c _ _ _ Lb _ rfl (by have := Hlb.out; omega) hob7).mono ?_
      rintro e w8 ⟨xb, rfl, hxb, hb8⟩
      obtain ⟨Xb, fb, rfl⟩ := own_slice hxb
      have hBk8 := hBk7.below' hb8
      have hbel8 := Below.then_ hbel7 hbel7.size hb8
      have hT8 := TRows.snoc hT7 ⟨.slice Xb Lb.length fb, Lb.length, nums .i64 Lb⟩ hb8 hbel7.size hxb
      have hku8 := own_below hku7 hb8
      have hwu8 := own_below hwu7 hb8
      have hoc8 := own_below hoc7 hb8
      clear hBk7 hb8 hbel7 hT7 hku7 hwu7 hob7 hoc7 hxb
      go_wp2_with fail
      refine (copied_c _ _ _ Lc _ rfl (by have := Hlc.out; omega) hoc8).mono ?_
      rintro e w9 ⟨xc, rfl, hxc, hb9⟩
      obtain ⟨Xc, fc, rfl⟩ := own_slice hxc
      have hBk9 := hBk8.below' hb9
      have hbel9 := Below.then_ hbel8 hbel8.size hb9
      have hT9 := TRows.snoc hT8 ⟨.slice Xc Lc.length fc, Lc.length, nums .i64 Lc⟩ hb9 hbel8.size hxc
      have hku9 := own_below hku8 hb9
      have hwu9 := own_below hwu8 hb9
      clear hBk8 hb9 hbel8 hT8 hku8 hwu8 hoc8 hxc
      go_wp2_with (at_builtin; refine wpList_append_own_at _ rfl _ _ 41 rfl w.heap.size 29 i0 _ 1 24 Try.underlying41 hi hz0 hz1 hz2 rfl (by omega) (.slice Aw ws.length cw) ws.length (ws.map TRow.v) (by rfl) ?c0 ⟨w9.heap.size, 0, none⟩ 3 3 [.slice Xa La.length fa, .slice Xb Lb.length fb, .slice Xc Lc.length fc] (by rfl) rfl ?c2 ?c3 ?c4 ?c5 ?c6 ?_)
      case c0 => exact own_below hwu9 ((Below.refl _ _).alloc (Nat.le_refl _) _)
      case c2 =>
        intro j u hu
        rw [add_plain, Nat.zero_add, World.cell?_alloc_new]
        simpa using hu
      case c3 =>
        intro u hu
        simp at hu
        rcases hu with rfl | rfl | rfl <;> rfl
      case c4 => have := Hwl.out; unfold maxLen; omega
      case c5 => have := Hwl.out; omega
      case c6 => have := hbel9.size; simp; omega
      intro u'' w10 hwu10 hgrow _ hat
      have hba : Below w9.heap.size w9 (w9.alloc (.cells #[.slice Xa La.length fa, .slice Xb Lb.length fb, .slice Xc Lc.length fc] 29)) := (Below.refl _ _).alloc (Nat.le_refl _) _
      have hT10 := (hT9.below hba).grown hgrow (fun p hp => own_ne_kind (hT9.own p hp) hwu9 (by decide))
      have hku10 := (own_below hku9 hba).kept hgrow hkw6
      have hkw10 : u'.ownBlock = none ∨ u'.ownBlock ≠ u''.ownBlock := by
        rcases hat with h0 | h0
        · rw [h0]; exact hkw6
        · right
          rw [h0]
          intro he
          have := (hku9.lt _ he).2
          first | omega | (simp at this; omega)
      have hBk10 : Blk w10 gb 24 #[.int .i64 s, .int .i64 d, .int .i64 l] := (hgrow.block gb (hBk9.below' hba).lt (by
        rcases own_ne_blk hwu9 hBk9 (by decide) with h0 | h0
        · rw [h0]; simp
        · exact fun e => h0 e.symm)).trans (hBk9.below' hba)
      have hbel10 : Below w.heap.size w w10 := (hbel9.alloc hbel9.size _).grown hgrow (by have := hbel9.size; simp; omega) (fun x e => (hwu9.lt x e).1)
      clear hT9 hku9 hwu9 hBk9 hbel9 hba hat hgrow hkw6
      go_wp2
      go_roundw
      case rel =>
        refine ⟨k + 1, ks ++ [⟨.slice Aa La.length ca, La.length, nums .i64 La⟩, ⟨.slice Ab Lb.length cb, Lb.length, nums .i64 Lb⟩, ⟨.slice Ac Lc.length cc, Lc.length, nums .i64 Lc⟩],
          ws ++ [⟨.slice Xa La.length fa, La.length, nums .i64 La⟩, ⟨.slice Xb Lb.length fb, Lb.length, nums .i64 Lb⟩, ⟨.slice Xc Lc.length fc, Lc.length, nums .i64 Lc⟩], Ls ++ [La, Lb, Lc], by omega, by omega, by go_num, by simp; omega, ?_, ?_, ?_, ?_, ?_, hkw10, ?_, hBk10, hbel10⟩
        · rw [List.map_append, Hks.out, List.map_append]; rfl
        · rw [List.map_append, Hws.out, List.map_append]; rfl
        · intro L hL
          have := Hla.out
          have := Hlb.out
          have := Hlc.out
          rcases List.mem_append.1 hL with hL | hL
          · exact hn64 L hL
          · simp at hL
            rcases hL with rfl | rfl | rfl <;> omega
        · simpa using hku10
        · simpa using hwu10
        · refine hT10.perm ?_
          have := ((List.perm_append_comm (l₁ := ws) (l₂ := [⟨.slice Aa La.length ca, La.length, nums .i64 La⟩, ⟨.slice Ab Lb.length cb, Lb.length, nums .i64 Lb⟩, ⟨.slice Ac Lc.length cc, Lc.length, nums .i64 Lc⟩])).append_left ks).append_right [⟨.slice Xa La.length fa, La.length, nums .i64 La⟩, ⟨.slice Xb Lb.length fb, Lb.length, nums .i64 Lb⟩, ⟨.slice Xc Lc.length fc, Lc.length, nums .i64 Lc⟩]
          simpa only [List.append_assoc, List.cons_append, List.nil_append] using this
      case measure => simp [intOf]; omega
    · have hcase : (nt : Int) ≤ (k : Int) ∨ ((k : Int) < (nt : Int) ∧ (20 : Int) ≤ (k : Int)) := by omega
      obtain ⟨m, hm⟩ : ∃ m, ks.length = m := ⟨_, rfl⟩
      have hwm : ws.length = m := by have := Hkl.out; have := Hwl.out; omega
      have hm60 : m ≤ 60 := by have := Hkl.out; omega
      clear Hkl Hwl hT hnt hk hk20 hlt hkw hBk
      generalize hvs : ks.map TRow.v = vs at hku
      generalize hus : ws.map TRow.v = us at hwu
      have hvl : vs.length = m := by rw [← hvs, ← hm]; simp
      rw [hm] at hku
      rw [hwm] at hwu
      simp only [hm, hwm]
      have hn64' : ∀ p ∈ ks, p.n ≤ 64 := by
        intro p hp
        obtain ⟨j, hj, rfl⟩ := List.mem_iff_getElem.1 hp
        obtain ⟨L, hL, hn, _⟩ := telling_at Hks.out (List.getElem?_eq_getElem hj)
        rw [hn]
        exact hn64 L (List.mem_of_getElem? hL)
      have Hm := Lib.hid hm
      have Hwm := Lib.hid hwm
      have Hus := Lib.hid hus
      have Hvl := Lib.hid hvl
      have HLs := Lib.hid hn64
      clear hm hwm hus hvl hn64 hLs
      generalize wr = wo at hku hwu hT0 hbel ⊢
      rcases hcase with hc1 | ⟨hc1, hc2⟩
      all_goals
        go_wp2_with fail
        go_loopw [15] (fun i wx => ∃ (x : Nat) (kt : List TRow), x ≤ m ∧ i = .int .i64 x ∧ kt.map TRow.v = vs ∧ (∀ p ∈ kt, p.n ≤ 64) ∧ (∀ j, x ≤ j → kt[j]? = ks[j]?) ∧ (∀ j p, kt[j]? = some p → j < x → p.xs = marked j p.n) ∧
          wx.ownsRow w.heap.size 29 1 (.slice Ak m ck) m vs ∧ wx.ownsRow w.heap.size 29 1 (.slice Aw m cw) m us ∧ TRows wx w.heap.size 2 1 (kt ++ ws) ∧ Below w.heap.size w wx) (fun i _ => m - (intOf i).toNat)
        case atStart => exact ⟨0, ks, Nat.zero_le _, rfl, hvs, hn64', fun _ _ => rfl, fun _ _ _ h => absurd h (by omega), hku, hwu, hT0, hbel⟩
        case round =>
          clear hku hwu hT0 hbel hvs hn64'
          obtain ⟨x, kt, hx, rfl, hvs, hrn, hsm, hmk, hku, hwu, hT, hbel⟩ := hrel
          have hrl : kt.length = m := by rw [← Hvl.out, ← hvs]; simp
          have Hvs := Lib.hid hvs
          have Hrl := Lib.hid hrl
          clear hvs hrl
          by_cases hxm : x < m
          · obtain ⟨gu, cu', e, hgu, hgl⟩ := own_form hku (by omega)
            cases e
            obtain ⟨gv, cv', e, hgv, hgvl⟩ := own_form hwu (by omega)
            cases e
            obtain ⟨p, hp⟩ : ∃ p, kt[x]? = some p := ⟨_, List.getElem?_eq_getElem (by have := Hrl.out; omega)⟩
            obtain ⟨q, hq⟩ : ∃ q, ws[x]? = some q := ⟨_, List.getElem?_eq_getElem (by have := Hwm.out; omega)⟩
            have hpn := hrn p (List.mem_of_getElem? hp)
            have hpo := hT.own p (List.mem_append_left _ (List.mem_of_getElem? hp))
            have hqo := hT.own q (List.mem_append_right _ (List.mem_of_getElem? hq))
            have hpv : vs[x]? = some p.v := by rw [← Hvs.out, List.getElem?_map, hp]; rfl
            have hqv : us[x]? = some q.v := by rw [← Hus.out, List.getElem?_map, hq]; rfl
            obtain ⟨L, hL, hpnL, hpx⟩ := telling_at Hks.out (by rw [← hsm x (Nat.le_refl _)]; exact hp)
            obtain ⟨L', hL', hqnL, hqx⟩ := telling_at Hws.out hq
            rw [hL] at hL'
            obtain rfl := Option.some.inj hL'
            obtain ⟨pv, pn, pxs⟩ := p
            obtain ⟨qv, qn, qxs⟩ := q
            simp only at hpn hpo hpv hqo hqv hpnL hqnL hpx hqx
            subst hqnL hqx
            subst hpx
            obtain ⟨Ap, cp, rfl⟩ := own_slice hpo
            obtain ⟨Aq, cq, rfl⟩ := own_slice hqo
            have cx : wr.cell? ⟨gu, x, none⟩ = some (.slice Ap pn cp) := by
              have := hku.cells (g := gu) rfl x _ hpv
              rwa [add_plain, Nat.zero_add] at this
            have cy : wr.cell? ⟨gv, x, none⟩ = some (.slice Aq L.length cq) := by
              have := hwu.cells (g := gv) rfl x _ hqv
              rwa [add_plain, Nat.zero_add] at this
            have hx0 : (0 : Int) ≤ (x : Int) := by omega
            have hx1 : (x : Int) < (m : Int) := by omega
            have Hp := Lib.hid hp
            have Hpv := Lib.hid hpv
            have HpL := Lib.hid hpnL
            clear hp hq hpv hqv hL hL' hpnL
            go_wp2_with fail
            go_quiet ((go_at_call 18; exact quiet_more (same_c _ w.heap.size w.heap.size _ _ L _ rfl (by have := HpL.out; omega) (by have := hpo; rw [HpL.out] at this; rw [← HpL.out]; rw [HpL.out]; exact this) hqo)))
            have hbd : Below wr.heap.size wr (wr.drewN nq) := below_drewN (Below.refl _ _) nq
            have hku1 := own_below hku hbd
            have hwu1 := own_below hwu hbd
            have hT1 := hT.below hbd
            have hbel1 : Below w.heap.size w (wr.drewN nq) := below_drewN hbel nq
            have hpo1 := own_below hpo hbd
            clear hku hwu hT hbel hpo hqo cx cy hbd
            generalize wr.drewN nq = wd at *
            have cx : wd.cell? ⟨gu, x, none⟩ = some (.slice Ap pn cp) := by
              have := hku1.cells (g := gu) rfl x _ Hpv.out
              rwa [add_plain, Nat.zero_add] at this
            go_wp2_with (at_builtin; refine wpList_append_keeps rfl _ _ 29 rfl w.heap.size 2 i1 _ 1 8 Try.underlying29 hi1 hy0 hy1 hy2 rfl (by omega) (.slice Ap pn cp) pn (nums .i64 L) (by rfl) ?c0 ⟨wd.heap.size, 0, none⟩ 3 3 [.int .i64 1, .int .i64 2, .int .i64 3] (by rfl) rfl ?c2 ?c3 ?c4 ?c5 ?c6 ?_)
            case c0 => exact own_below hpo1 ((Below.refl _ _).alloc (Nat.le_refl _) _)
            case c2 =>
              intro j u hu
              rw [add_plain, Nat.zero_add, World.cell?_alloc_new]
              simpa using hu
            case c3 =>
              intro u hu
              simp at hu
              rcases hu with rfl | rfl | rfl <;> rfl
            case c4 => unfold maxLen; omega
            case c5 => omega
            case c6 => have := hbel1.size; simp; omega
            intro v' w3 hnew hold hgrow
            have hba : Below wd.heap.size wd (wd.alloc (.cells #[.int .i64 1, .int .i64 2, .int .i64 3] 2)) := (Below.refl _ _).alloc (Nat.le_refl _) _
            have hku3 := (own_below hku1 hba).kept hgrow (own_ne_kind hku1 hpo1 (by decide))
            have hwu3 := (own_below hwu1 hba).kept hgrow (own_ne_kind hwu1 hpo1 (by decide))
            have hget : (kt ++ ws)[x]? = some ⟨.slice Ap pn cp, pn, nums .i64 L⟩ := by rw [List.getElem?_append_left (by have := Hrl.out; omega)]; exact Hp.out
            have hT3 := (hT1.below hba).write x ⟨.slice Ap pn cp, pn, nums .i64 L⟩ ⟨.slice Ap pn cp, pn, nums .i64 L⟩ hget rfl hold hgrow
            rw [List.set_append_left _ _ (by have := Hrl.out; omega)] at hT3
            have hbel3 : Below w.heap.size w w3 := (hbel1.alloc hbel1.size _).grown hgrow (by have := hbel1.size; simp; omega) (fun q e => (hpo1.lt q e).1)
            obtain ⟨A', c', rfl⟩ := own_slice hnew
            have cx3 : w3.cell? ⟨gu, x, none⟩ = some (.slice Ap pn cp) := by
              have := hku3.cells (g := gu) rfl x _ Hpv.out
              rwa [add_plain, Nat.zero_add] at this
            have hpl : (nums .i64 L).length = pn := by rw [nums_length]; exact HpL.out.symm
            generalize nums .i64 L = pxs at *
            have Hpl := Lib.hid hpl
            clear hku1 hwu1 hT1 hbel1 hpo1 hold hgrow hba cx hnew hget hpl
            go_wp2_with fail
            go_loopw [17] (fun j wy => ∃ y : Nat, y ≤ pn ∧ j = .int .i64 y ∧ wy.ownsRow w.heap.size 29 1 (.slice (some ⟨gu, 0, none⟩) m ck) m vs ∧ wy.ownsRow w.heap.size 29 1 (.slice (some ⟨gv, 0, none⟩) m cw) m us ∧
              TRows wy w.heap.size 2 1 (kt.set x ⟨.slice Ap pn cp, pn, marked x y ++ pxs.drop y⟩ ++ ws) ∧ Below w.heap.size w wy) (fun j _ => pn - (intOf j).toNat)
            case atStart => exact ⟨0, Nat.zero_le _, rfl, hku3, hwu3, hT3, hbel3⟩
            case round =>
              clear hku3 hwu3 hT3 hbel3 cx3
              obtain ⟨y, hy, rfl, hku, hwu, hT, hbel⟩ := hrel
              have cx : wr.cell? ⟨gu, x, none⟩ = some (.slice Ap pn cp) := by
                have := hku.cells (g := gu) rfl x _ Hpv.out
                rwa [add_plain, Nat.zero_add] at this
              have hgt : (kt.set x ⟨.slice Ap pn cp, pn, marked x y ++ pxs.drop y⟩ ++ ws)[x]? = some ⟨.slice Ap pn cp, pn, marked x y ++ pxs.drop y⟩ := by
                rw [List.getElem?_append_left (by have := Hrl.out; simp; omega)]; exact List.getElem?_set_self (by have := Hrl.out; omega)
              have hq : wr.ownsRow w.heap.size 2 1 (.slice Ap pn cp) pn (marked x y ++ pxs.drop y) := hT.get x _ hgt
              have Hgt := Lib.hid hgt
              clear hgt
              by_cases hyp : y < pn
              · obtain ⟨gp, cp', e, hgp, hgpl⟩ := own_form hq (by omega)
                cases e
                have hxl : (marked x y ++ pxs.drop y).length = pn := by have := hq.1; omega
                obtain ⟨a0, c0⟩ : ∃ a, wr.cell? ⟨gp, y, none⟩ = some a := ⟨_, (World.ownsRow.cellAt hq y (by omega)).trans (List.getElem?_eq_getElem (by omega))⟩
                have f0 := World.ownsRow.frozenAt hq y
                have y0 : (0 : Int) ≤ (y : Int) := by omega
                have y1 : (y : Int) < (pn : Int) := by omega
                clear hxl
                go_wp2_with fail
                go_roundw
                case rel =>
                  have hq3 := (World.ownsRow.stored hq y (.int .i64 (-(1000 * (x : Int)) - (y : Int)))).1
                  rw [marked_set x y pn pxs Hpl.out hyp] at hq3
                  have hgr := grown_set1 wr gp y (.int .i64 (-(1000 * (x : Int)) - (y : Int)))
                  have hT3 := hT.write x _ ⟨.slice (some ⟨gp, 0, none⟩) pn cp, pn, marked x (y + 1) ++ pxs.drop (y + 1)⟩ Hgt.out rfl hq3 hgr
                  rw [List.set_append_left _ _ (by have := Hrl.out; simp; omega), List.set_set] at hT3
                  exact ⟨y + 1, by omega, by go_num, hku.kept hgr (own_ne_kind hku hq (by decide)), hwu.kept hgr (own_ne_kind hwu hq (by decide)), hT3, hbel.setCell hgp _⟩
                case measure => simp [intOf]; omega
              · obtain rfl : y = pn := by omega
                go_wp2_with fail
                go_roundw
                case rel =>
                  have hd : pxs.drop y = [] := List.drop_of_length_le (by rw [Hpl.out]; omega)
                  refine ⟨x + 1, kt.set x ⟨.slice Ap y cp, y, marked x y ++ pxs.drop y⟩, by omega, by go_num, ?_, ?_, ?_, ?_, hku, hwu, hT, hbel⟩
                  · rw [List.map_set, Hvs.out]
                    exact set_of_get _ _ _ Hpv.out
                  · intro p hp
                    rcases List.mem_or_eq_of_mem_set hp with hp | rfl
                    · exact hrn p hp
                    · exact hpn
                  · intro j hj
                    rw [List.getElem?_set_ne (by omega)]
                    exact hsm j (by omega)
                  · intro j p hp hj
                    by_cases hjx : j = x
                    · subst hjx
                      rw [List.getElem?_set_self (by have := Hrl.out; omega)] at hp
                      obtain rfl := Option.some.inj hp
                      show marked j y ++ pxs.drop y = marked j y
                      rw [hd, List.append_nil]
                    · rw [List.getElem?_set_ne (fun e => hjx e.symm)] at hp
                      exact hmk j p hp (by omega)
                case measure => simp [intOf]; omega
          · obtain rfl : x = m := by omega
            generalize wr = wq at hku hwu hT hbel ⊢
            go_wp2_with fail
            go_loopw [18] (fun i wz => ∃ z : Nat, z ≤ x ∧ i = .int .i64 z ∧ Below wq.heap.size wq wz) (fun i _ => x - (intOf i).toNat)
            case atStart => exact ⟨0, Nat.zero_le _, rfl, Below.refl _ _⟩
            case round =>
              obtain ⟨z, hz, rfl, hbz⟩ := hrel
              by_cases hzx : z < x
              · obtain ⟨gu, cu', e, hgu, hgl⟩ := own_form hku (by omega)
                cases e
                obtain ⟨p, hp⟩ : ∃ p, kt[z]? = some p := ⟨_, List.getElem?_eq_getElem (by have := Hrl.out; omega)⟩
                have hpn := hrn p (List.mem_of_getElem? hp)
                have hpo := hT.own p (List.mem_append_left _ (List.mem_of_getElem? hp))
                have hpm := hmk z p hp hzx
                have hpv : vs[z]? = some p.v := by rw [← Hvs.out, List.getElem?_map, hp]; rfl
                obtain ⟨pv, pn, pxs⟩ := p
                simp only at hpn hpo hpv hpm
                subst hpm
                obtain ⟨Ap, cp, rfl⟩ := own_slice hpo
                have cx0 : wq.cell? ⟨gu, z, none⟩ = some (.slice Ap pn cp) := by
                  have := hku.cells (g := gu) rfl z _ hpv
                  rwa [add_plain, Nat.zero_add] at this
                have cx : wr.cell? ⟨gu, z, none⟩ = some (.slice Ap pn cp) := (hbz.cell (p := ⟨gu, z, none⟩) hgl).trans cx0
                have hz0' : (0 : Int) ≤ (z : Int) := by omega
                have hz1' : (z : Int) < (x : Int) := by omega
                clear hp hpv
                go_wp2_with fail
                go_loopw [19] (fun j wy => ∃ y : Nat, y ≤ pn ∧ j = .int .i64 y ∧ Below wq.heap.size wq wy) (fun j _ => pn - (intOf j).toNat)
                case atStart => exact ⟨0, Nat.zero_le _, rfl, hbz⟩
                case round =>
                  clear hbz cx
                  obtain ⟨y, hy, rfl, hbz⟩ := hrel
                  have cx : wr.cell? ⟨gu, z, none⟩ = some (.slice Ap pn cp) := (hbz.cell (p := ⟨gu, z, none⟩) hgl).trans cx0
                  by_cases hyp : y < pn
                  · obtain ⟨gp, cp', e, hgp, hgpl⟩ := own_form hpo (by omega)
                    cases e
                    have c0 : wr.cell? ⟨gp, y, none⟩ = some (.int .i64 (-(1000 * (z : Int)) - (y : Int))) := (hbz.cell (p := ⟨gp, y, none⟩) hgpl).trans ((World.ownsRow.cellAt hpo y (by omega)).trans (marked_at z pn y hyp))
                    have y0 : (0 : Int) ≤ (y : Int) := by omega
                    have y1 : (y : Int) < (pn : Int) := by omega
                    go_wp2_with fail
                    go_roundw
                    case rel => exact ⟨y + 1, by omega, by go_num, hbz⟩
                    case measure => simp [intOf]; omega
                  · obtain rfl : y = pn := by omega
                    go_wp2_with fail
                    go_roundw
                    case rel => exact ⟨z + 1, by omega, by go_num, hbz⟩
                    case measure => simp [intOf]; omega
              · go_wp2_with fail
                refine (Hend.out _ (Below.then_ hbel hbel.size hbz)).mono ?_
                rintro e w5 ⟨rfl, hb5⟩
                go_wp2
                go_ret
                exact ⟨rfl, hb5⟩

set_option maxRecDepth 100000 in
theorem own_bad (w : World) (s d l : Int) (hR : ¬ Right s d l) (T : Option Addr) (nt ct : Nat) :
    Calls Try.prog 10 #[.agg #[.int .i64 s, .int .i64 d, .int .i64 l], .slice T nt ct] w fun e w' => e = .returned (.bool true) ∧ Below w.heap.size w w' := by
  go_enter Try.func10, Try.ntmps10
  go_wp2_with fail
  refine (right_no hR _).mono ?_
  rintro e w1 ⟨rfl, hb1⟩
  have hbel1 : Below w.heap.size w w1 := Below.then_ ((Below.refl _ _).alloc (Nat.le_refl _) _) (by simp) hb1
  go_wp2_with fail
  refine (head_c _).mono ?_
  rintro e w5 ⟨rfl, hb5⟩
  go_wp2
  go_ret
  exact ⟨rfl, Below.then_ hbel1 hbel1.size hb5⟩

theorem own_walk (w : World) (s d l : Int) (_h0 : (Lit.int .i64 s).wf = true) (_h1 : (Lit.int .i64 d).wf = true) (_h2 : (Lit.int .i64 l).wf = true)
    (v3 : Value) (o3 : ∃ (A : Option Addr) (n c : Nat) (f : Nat → Int), v3 = .slice A n c ∧ n ≤ c ∧ Flat1 w A n f ∧ n * 8 ≤ 140737488351232) :
    Calls Try.prog 10 #[.agg #[.int .i64 s, .int .i64 d, .int .i64 l], v3] w fun e w' => e = .returned (.bool true) ∧ Below w.heap.size w w' := by
  obtain ⟨T, nt, ct, tf, rfl, hct, hT, hnt⟩ := o3
  by_cases h : Right s d l
  · exact own_good w s d l h T nt ct tf hT (by omega)
  · exact own_bad w s d l h T nt ct
end Go.Proofs.Ytnceikookipdnaa.PaneC
