/-
  The call of the law PaneAnswers.
-/
import Derived.Test.YtnceikookipdnaaApartW
set_option linter.unusedVariables false
set_option linter.unusedSimpArgs false
namespace Go.Proofs.Ytnceikookipdnaa.PaneC
open Go.RowKit Go.Proofs.Ytnceikookipdnaa.K Go.Proofs.Ytnceikookipdnaa.Math2
attribute [local go_sem ↓] Go.wp_at_zero Go.wp_at_succ

theorem own_raise {w : World} {B B' e sz n : Nat} {v : Value} {xs : List Value} (h : w.ownsRow B e sz v n xs) (hb : ∀ g, v.ownBlock = some g → B' ≤ g) : w.ownsRow B' e sz v n xs := by
  refine ⟨h.1, ?_⟩
  rcases h.2 with h0 | ⟨g, cap, cur, hv, _, r⟩
  · exact .inl h0
  · exact .inr ⟨g, cap, cur, hv, hb g (by rw [hv]; rfl), r⟩

set_option maxRecDepth 100000 in
set_option maxHeartbeats 3200000 in
theorem ans_good (w : World) (s d l : Int) (hR : Right s d l) (T : Option Addr) (nt ct : Nat) (tf : Nat → Int) (hT : Flat1 w T nt tf) (hnt : nt ≤ 140737488351232) :
    Calls Try.prog 11 #[.agg #[.int .i64 s, .int .i64 d, .int .i64 l], .slice T nt ct] w fun e w' => e = .returned (.bool true) ∧ Below w.heap.size w w' := by
  have hend : ∀ W, Below w.heap.size w W → Calls Try.prog 13 #[] W fun e w' => e = .returned (.bool true) ∧ Below w.heap.size w w' := fun W h => (head_c W).mono fun _ _ ⟨he, hb⟩ => ⟨he, Below.then_ h h.size hb⟩
  have Hend := Lib.hid hend
  clear hend
  obtain ⟨i0, hi, hz0, hz1, hz2⟩ := info_parts info29'
  have HR := Lib.hid hR
  clear hR
  go_enter Try.func11, Try.ntmps11
  go_wp2_with fail
  refine (right_ok HR.out _).mono ?_
  rintro e w1 ⟨rfl, hb1⟩
  have hBk : Blk w1 w.heap.size 24 #[.int .i64 s, .int .i64 d, .int .i64 l] := (Blk.new w 24 _).below' hb1
  have hbel1 : Below w.heap.size w w1 := Below.then_ ((Below.refl _ _).alloc (Nat.le_refl _) _) (by simp) hb1
  obtain ⟨gb, hgb⟩ : ∃ gb, gb = w.heap.size := ⟨_, rfl⟩
  rw [← hgb] at hBk
  simp only [← hgb]
  have Hgb := Lib.hid hgb
  clear hb1 hgb
  go_wp2_with fail
  go_loopw [5, 6, 7] (fun ku wu i wr => ∃ (k : Nat) (ks ws : List TRow) (Ls : List (List Int)), k ≤ nt ∧ k ≤ 15 ∧ i = .int .i64 k ∧ Ls.length = 4 * k ∧ ks.map tells = Ls.map telling ∧ ws.map tells = Ls.map telling ∧ (∀ L ∈ Ls, L.length ≤ 64) ∧
    (∀ j, j < k → Ls[4 * j]? = some (starts s d (Int.tmod (tf j) 576460752303423488)) ∧ Ls[4 * j + 2]? = some (opn s d l (Int.tmod (tf j) 576460752303423488) (Int.tmod (tf j) 576460752303423488))) ∧
    wr.ownsRow w.heap.size 29 1 ku ks.length (ks.map TRow.v) ∧ wr.ownsRow w.heap.size 29 1 wu ws.length (ws.map TRow.v) ∧ (ku.ownBlock = none ∨ ku.ownBlock ≠ wu.ownBlock) ∧ TRows wr w.heap.size 2 1 (ks ++ ws) ∧
    Blk wr gb 24 #[.int .i64 s, .int .i64 d, .int .i64 l] ∧ Below w.heap.size w wr) (fun _ _ i _ => nt - (intOf i).toNat)
  case atStart => exact ⟨0, [], [], [], Nat.zero_le _, Nat.zero_le _, rfl, rfl, rfl, rfl, by simp, fun j hj => absurd hj (by omega), World.ownsRow_nil _ _ _ _, World.ownsRow_nil _ _ _ _, .inl rfl, TRows.nil _ _ _ _, hBk, hbel1⟩
  case round =>
    clear hBk hbel1
    obtain ⟨k, ks, ws, Ls, hk, hk15, rfl, hLs, hks, hws, hn64, hknow, hku, hwu, hkw, hT0, hBk, hbel⟩ := hrel
    have hkl : ks.length = 4 * k := by have := congrArg List.length hks; simp only [List.length_map] at this; omega
    have hwl : ws.length = 4 * k := by have := congrArg List.length hws; simp only [List.length_map] at this; omega
    obtain ⟨Ak, ck, rfl⟩ := own_slice hku
    obtain ⟨Aw, cw, rfl⟩ := own_slice hwu
    have Hkl := Lib.hid hkl
    have Hwl := Lib.hid hwl
    have Hks := Lib.hid hks
    have Hws := Lib.hid hws
    have Hknow := Lib.hid (And.intro hknow hLs)
    clear hkl hwl hks hws hknow hLs
    by_cases hlt : k < nt ∧ k < 15
    · obtain ⟨hlt, h20⟩ := hlt
      obtain ⟨bt, ot, rfl, hbt, hct⟩ := hT.at_ (by omega)
      have et := hct k hlt
      clear hct
      have dt := (hbel.cell (p := ⟨bt, ot + k, none⟩) hbt).trans et
      have j0 : (0 : Int) ≤ (k : Int) := by omega
      have j1 : (k : Int) < (nt : Int) := by omega
      have c0 := hBk.cell 0
      have c1 := hBk.cell 1
      have c2 := hBk.cell 2
      go_wp2_with fail
      refine (within_c (tf k) _).mono ?_
      rintro e w2 ⟨rfl, hb2⟩
      obtain ⟨ht, _, ht0, ht1⟩ := tmod_within (tf k)
      have hBk2 := hBk.below' hb2
      have hbel2 := Below.then_ hbel hbel.size hb2
      have hT2 := hT0.below hb2
      have hku2 := own_below hku hb2
      have hwu2 := own_below hwu hb2
      obtain ⟨t, htt⟩ : ∃ t, Int.tmod (tf k) 576460752303423488 = t := ⟨_, rfl⟩
      simp only [htt] at ht ht0 ht1 ⊢
      have Ht := Lib.hid ht
      have Htt := Lib.hid htt
      clear dt et ht c0 c1 c2 hBk hb2 hbel hT0 hku hwu htt
      have hlen : (starts s d t).length ≤ 64 := by
        have := (cnt_le HR.out t).2
        have := starts_length s d t
        omega
      have Hla := Lib.hid hlen
      have Hlb := Lib.hid (opn_le (t := t) t HR.out)
      clear hlen
      have c0 := hBk2.cell 0
      have c1 := hBk2.cell 1
      have c2 := hBk2.cell 2
      go_wp2_with fail
      refine (starts_c HR.out Ht.out _).mono ?_
      rintro e w3 ⟨va, rfl, hoa, hb3⟩
      have hBk3 := hBk2.below' hb3
      have hbel3 := Below.then_ hbel2 hbel2.size hb3
      have hT3 := TRows.snoc hT2 ⟨va, (starts s d t).length, nums .i64 (starts s d t)⟩ hb3 hbel2.size hoa
      have hku3 := own_below hku2 hb3
      have hwu3 := own_below hwu2 hb3
      obtain ⟨Aa, ca, rfl⟩ := own_slice hoa
      clear c0 c1 c2 hBk2 hb3 hbel2 hT2 hku2 hwu2 
      have c0 := hBk3.cell 0
      have c1 := hBk3.cell 1
      have c2 := hBk3.cell 2
      go_wp2_with fail
      refine (starts_c HR.out Ht.out _).mono ?_
      rintro e w4 ⟨vb, rfl, hob, hb4⟩
      have hBk4 := hBk3.below' hb4
      have hbel4 := Below.then_ hbel3 hbel3.size hb4
      have hT4 := TRows.snoc hT3 ⟨vb, (starts s d t).length, nums .i64 (starts s d t)⟩ hb4 hbel3.size hob
      have hku4 := own_below hku3 hb4
      have hwu4 := own_below hwu3 hb4
      have hoa4 := own_below hoa hb4
      obtain ⟨Ab, cb, rfl⟩ := own_slice hob
      clear c0 c1 c2 hBk3 hb4 hbel3 hT3 hku3 hwu3 hoa
      have c0 := hBk4.cell 0
      have c1 := hBk4.cell 1
      have c2 := hBk4.cell 2
      go_wp2_with fail
      refine (open_c _ HR.out Ht.out _).mono ?_
      rintro e w5 ⟨vc, rfl, hoc, hb5⟩
      have hBk5 := hBk4.below' hb5
      have hbel5 := Below.then_ hbel4 hbel4.size hb5
      have hT5 := TRows.snoc hT4 ⟨vc, (opn s d l t t).length, nums .i64 (opn s d l t t)⟩ hb5 hbel4.size hoc
      have hku5 := own_below hku4 hb5
      have hwu5 := own_below hwu4 hb5
      have hoa5 := own_below hoa4 hb5
      have hob5 := own_below hob hb5
      obtain ⟨Ac, cc, rfl⟩ := own_slice hoc
      clear c0 c1 c2 hBk4 hb5 hbel4 hT4 hku4 hwu4 hoa4 hob
      have c0 := hBk5.cell 0
      have c1 := hBk5.cell 1
      have c2 := hBk5.cell 2
      go_wp2_with fail
      refine (open_c _ HR.out Ht.out _).mono ?_
      rintro e w6 ⟨vd, rfl, hod, hb6⟩
      have hBk6 := hBk5.below' hb6
      have hbel6 := Below.then_ hbel5 hbel5.size hb6
      have hT6 := TRows.snoc hT5 ⟨vd, (opn s d l t t).length, nums .i64 (opn s d l t t)⟩ hb6 hbel5.size hod
      have hku6 := own_below hku5 hb6
      have hwu6 := own_below hwu5 hb6
      have hoa6 := own_below hoa5 hb6
      have hob6 := own_below hob5 hb6
      have hoc6 := own_below hoc hb6
      obtain ⟨Ad, cd, rfl⟩ := own_slice hod
      clear c0 c1 c2 hBk5 hb6 hbel5 hT5 hku5 hwu5 hoa5 hob5 hoc
      obtain ⟨La, hLa⟩ : ∃ La, starts s d t = La := ⟨_, rfl⟩
      obtain ⟨Lb, hLb⟩ : ∃ Lb, opn s d l t t = Lb := ⟨_, rfl⟩
      simp only [hLa, hLb] at hT6 hoa6 hob6 hoc6 hod Hla Hlb ⊢
      have HLa := Lib.hid hLa
      have HLb := Lib.hid hLb
      clear hLa hLb
      go_wp2_with (at_builtin; refine wpList_append_own_at _ rfl _ _ 41 rfl w.heap.size 29 i0 _ 1 24 Try.underlying41 hi hz0 hz1 hz2 rfl (by omega) (.slice Ak ks.length ck) ks.length (ks.map TRow.v) (by rfl) ?c0 ⟨w6.heap.size, 0, none⟩ 4 4 [.slice Aa La.length ca, .slice Ab La.length cb, .slice Ac Lb.length cc, .slice Ad Lb.length cd] (by rfl) rfl ?c2 ?c3 ?c4 ?c5 ?c6 ?_)
      case c0 => exact own_below hku6 ((Below.refl _ _).alloc (Nat.le_refl _) _)
      case c2 =>
        intro j u hu
        rw [add_plain, Nat.zero_add, World.cell?_alloc_new]
        simpa using hu
      case c3 =>
        intro u hu
        simp at hu
        rcases hu with rfl | rfl | rfl | rfl <;> rfl
      case c4 => have := Hkl.out; unfold maxLen; omega
      case c5 => have := Hkl.out; omega
      case c6 => have := hbel6.size; simp; omega
      intro u' w7 hku7 hgrow _ hat
      have hba : Below w6.heap.size w6 (w6.alloc (.cells #[.slice Aa La.length ca, .slice Ab La.length cb, .slice Ac Lb.length cc, .slice Ad Lb.length cd] 29)) := (Below.refl _ _).alloc (Nat.le_refl _) _
      have hT7 := (hT6.below hba).grown hgrow (fun p hp => own_ne_kind (hT6.own p hp) hku6 (by decide))
      have hwk : Value.ownBlock (.slice Aw ws.length cw) = none ∨ Value.ownBlock (.slice Aw ws.length cw) ≠ Value.ownBlock (.slice Ak ks.length ck) := by
        rcases hb : Value.ownBlock (.slice Aw ws.length cw) with _ | q
        · exact .inl rfl
        · right
          intro he
          rcases hkw with h0 | h0
          · rw [h0] at he; cases he
          · exact h0 (by rw [hb, he])
      have hwu7 := (own_below hwu6 hba).kept hgrow hwk
      have hkw7 : u'.ownBlock = none ∨ u'.ownBlock ≠ Value.ownBlock (.slice Aw ws.length cw) := by
        rcases hat with h0 | h0
        · rw [h0]; exact hkw
        · right
          rw [h0]
          intro he
          have := (hwu6.lt _ he.symm).2
          first | omega | (simp at this; omega)
      have ka : ∀ {B : Nat} {v : Value} {n : Nat} {xs : List Value}, w6.ownsRow B 2 1 v n xs → w7.ownsRow B 2 1 v n xs := fun h => (own_below h hba).kept hgrow (own_ne_kind h hku6 (by decide))
      have hoa7 := ka hoa6
      have hoc7 := ka hoc6
      have hBk7 : Blk w7 gb 24 #[.int .i64 s, .int .i64 d, .int .i64 l] := (hgrow.block gb (hBk6.below' hba).lt (by
        rcases own_ne_blk hku6 hBk6 (by decide) with h0 | h0
        · rw [h0]; simp
        · exact fun e => h0 e.symm)).trans (hBk6.below' hba)
      have hbel7 : Below w.heap.size w w7 := (hbel6.alloc hbel6.size _).grown hgrow (by have := hbel6.size; simp; omega) (fun x e => (hku6.lt x e).1)
      clear ka hT6 hku6 hwu6 hoa6 hob6 hoc6 hod hBk6 hbel6 hba hat hgrow hkw hwk
      go_wp2_with fail
      refine (copied_c _ _ _ La _ rfl (by have := Hla.out; omega) hoa7).mono ?_
      rintro e w8 ⟨vx, rfl, hox, hb8⟩
      obtain ⟨Ax, cx, rfl⟩ := own_slice hox
      have hBk8 := hBk7.below' hb8
      have hbel8 := Below.then_ hbel7 hbel7.size hb8
      have hT8 := TRows.snoc hT7 ⟨.slice Ax La.length cx, La.length, nums .i64 La⟩ hb8 hbel7.size hox
      have hku8 := own_below hku7 hb8
      have hwu8 := own_below hwu7 hb8
      have hoa8 := own_below hoa7 hb8
      have hoc8 := own_below hoc7 hb8
      clear hBk7 hb8 hbel7 hT7 hku7 hwu7 hoa7 hoc7 hox
      go_wp2_with fail
      refine (copied_c _ _ _ La _ rfl (by have := Hla.out; omega) hoa8).mono ?_
      rintro e w9 ⟨vy, rfl, hoy, hb9⟩
      obtain ⟨Ay, cy, rfl⟩ := own_slice hoy
      have hBk9 := hBk8.below' hb9
      have hbel9 := Below.then_ hbel8 hbel8.size hb9
      have hT9 := TRows.snoc hT8 ⟨.slice Ay La.length cy, La.length, nums .i64 La⟩ hb9 hbel8.size hoy
      have hku9 := own_below hku8 hb9
      have hwu9 := own_below hwu8 hb9
      have hoa9 := own_below hoa8 hb9
      have hoc9 := own_below hoc8 hb9
      clear hBk8 hb9 hbel8 hT8 hku8 hwu8 hoa8 hoc8 hoy
      go_wp2_with fail
      refine (copied_c _ _ _ Lb _ rfl (by have := Hlb.out; omega) hoc9).mono ?_
      rintro e w10 ⟨vz, rfl, hoz, hb10⟩
      obtain ⟨Az, cz, rfl⟩ := own_slice hoz
      have hBk10 := hBk9.below' hb10
      have hbel10 := Below.then_ hbel9 hbel9.size hb10
      have hT10 := TRows.snoc hT9 ⟨.slice Az Lb.length cz, Lb.length, nums .i64 Lb⟩ hb10 hbel9.size hoz
      have hku10 := own_below hku9 hb10
      have hwu10 := own_below hwu9 hb10
      have hoa10 := own_below hoa9 hb10
      have hoc10 := own_below hoc9 hb10
      clear hBk9 hb10 hbel9 hT9 hku9 hwu9 hoa9 hoc9 hoz
      go_wp2_with fail
      refine (copied_c _ _ _ Lb _ rfl (by have := Hlb.out; omega) hoc10).mono ?_
      rintro e w11 ⟨vu, rfl, hou, hb11⟩
      obtain ⟨Au, cu, rfl⟩ := own_slice hou
      have hBk11 := hBk10.below' hb11
      have hbel11 := Below.then_ hbel10 hbel10.size hb11
      have hT11 := TRows.snoc hT10 ⟨.slice Au Lb.length cu, Lb.length, nums .i64 Lb⟩ hb11 hbel10.size hou
      have hku11 := own_below hku10 hb11
      have hwu11 := own_below hwu10 hb11
      have hoa11 := own_below hoa10 hb11
      have hoc11 := own_below hoc10 hb11
      clear hBk10 hb11 hbel10 hT10 hku10 hwu10 hoa10 hoc10 hou
      go_wp2_with (at_builtin; refine wpList_append_own_at _ rfl _ _ 41 rfl w.heap.size 29 i0 _ 1 24 Try.underlying41 hi hz0 hz1 hz2 rfl (by omega) (.slice Aw ws.length cw) ws.length (ws.map TRow.v) (by rfl) ?c0 ⟨w11.heap.size, 0, none⟩ 4 4 [.slice Ax La.length cx, .slice Ay La.length cy, .slice Az Lb.length cz, .slice Au Lb.length cu] (by rfl) rfl ?c2 ?c3 ?c4 ?c5 ?c6 ?_)
      case c0 => exact own_below hwu11 ((Below.refl _ _).alloc (Nat.le_refl _) _)
      case c2 =>
        intro j u hu
        rw [add_plain, Nat.zero_add, World.cell?_alloc_new]
        simpa using hu
      case c3 =>
        intro u hu
        simp at hu
        rcases hu with rfl | rfl | rfl | rfl <;> rfl
      case c4 => have := Hwl.out; unfold maxLen; omega
      case c5 => have := Hwl.out; omega
      case c6 => have := hbel11.size; simp; omega
      intro u'' w12 hwu12 hgrow _ hat
      have hba : Below w11.heap.size w11 (w11.alloc (.cells #[.slice Ax La.length cx, .slice Ay La.length cy, .slice Az Lb.length cz, .slice Au Lb.length cu] 29)) := (Below.refl _ _).alloc (Nat.le_refl _) _
      have hT12 := (hT11.below hba).grown hgrow (fun p hp => own_ne_kind (hT11.own p hp) hwu11 (by decide))
      have hku12 := (own_below hku11 hba).kept hgrow hkw7
      have hkw12 : u'.ownBlock = none ∨ u'.ownBlock ≠ u''.ownBlock := by
        rcases hat with h0 | h0
        · rw [h0]; exact hkw7
        · right
          rw [h0]
          intro he
          have := (hku11.lt _ he).2
          first | omega | (simp at this; omega)
      have hBk12 : Blk w12 gb 24 #[.int .i64 s, .int .i64 d, .int .i64 l] := (hgrow.block gb (hBk11.below' hba).lt (by
        rcases own_ne_blk hwu11 hBk11 (by decide) with h0 | h0
        · rw [h0]; simp
        · exact fun e => h0 e.symm)).trans (hBk11.below' hba)
      have hbel12 : Below w.heap.size w w12 := (hbel11.alloc hbel11.size _).grown hgrow (by have := hbel11.size; simp; omega) (fun x e => (hwu11.lt x e).1)
      clear hT11 hku11 hwu11 hoa11 hoc11 hBk11 hbel11 hba hat hgrow hkw7
      go_wp2
      go_roundw
      case rel =>
        refine ⟨k + 1, ks ++ [⟨.slice Aa La.length ca, La.length, nums .i64 La⟩, ⟨.slice Ab La.length cb, La.length, nums .i64 La⟩, ⟨.slice Ac Lb.length cc, Lb.length, nums .i64 Lb⟩, ⟨.slice Ad Lb.length cd, Lb.length, nums .i64 Lb⟩],
          ws ++ [⟨.slice Ax La.length cx, La.length, nums .i64 La⟩, ⟨.slice Ay La.length cy, La.length, nums .i64 La⟩, ⟨.slice Az Lb.length cz, Lb.length, nums .i64 Lb⟩, ⟨.slice Au Lb.length cu, Lb.length, nums .i64 Lb⟩], Ls ++ [La, La, Lb, Lb], by omega, by omega, by go_num, by have := Hknow.out.2; simp; omega, ?_, ?_, ?_, ?_, ?_, ?_, hkw12, ?_, hBk12, hbel12⟩
        · rw [List.map_append, Hks.out, List.map_append]; rfl
        · rw [List.map_append, Hws.out, List.map_append]; rfl
        · intro L hL
          have := Hla.out
          have := Hlb.out
          rcases List.mem_append.1 hL with hL | hL
          · exact hn64 L hL
          · simp at hL
            rcases hL with rfl | rfl <;> omega
        · intro j hj
          have hlen := Hknow.out.2
          rcases Nat.lt_or_ge j k with hjk | hjk
          · rw [List.getElem?_append_left (by omega), List.getElem?_append_left (by omega)]
            exact Hknow.out.1 j hjk
          · obtain rfl : j = k := by omega
            rw [List.getElem?_append_right (by omega), List.getElem?_append_right (by omega), hlen, Nat.sub_self, show 4 * j + 2 - 4 * j = 2 by omega, Htt.out, HLa.out, HLb.out]
            exact ⟨rfl, rfl⟩
        · simpa using hku12
        · simpa using hwu12
        · refine hT12.perm ?_
          have := ((List.perm_append_comm (l₁ := ws) (l₂ := [⟨.slice Aa La.length ca, La.length, nums .i64 La⟩, ⟨.slice Ab La.length cb, La.length, nums .i64 La⟩, ⟨.slice Ac Lb.length cc, Lb.length, nums .i64 Lb⟩, ⟨.slice Ad Lb.length cd, Lb.length, nums .i64 Lb⟩])).append_left ks).append_right [⟨.slice Ax La.length cx, La.length, nums .i64 La⟩, ⟨.slice Ay La.length cy, La.length, nums .i64 La⟩, ⟨.slice Az Lb.length cz, Lb.length, nums .i64 Lb⟩, ⟨.slice Au Lb.length cu, Lb.length, nums .i64 Lb⟩]
          simpa only [List.append_assoc, List.cons_append, List.nil_append] using this
      case measure => simp [intOf]; omega
    · have hcase : (nt : Int) ≤ (k : Int) ∨ ((k : Int) < (nt : Int) ∧ (15 : Int) ≤ (k : Int)) := by omega
      obtain ⟨m, hm⟩ : ∃ m, ks.length = m := ⟨_, rfl⟩
      have hwm : ws.length = m := by have := Hkl.out; have := Hwl.out; omega
      have hm60 : m ≤ 60 := by have := Hkl.out; omega
      have hm4 : m = 4 * k := by have := Hkl.out; omega
      rw [hm] at hku
      rw [hwm] at hwu
      simp only [hm, hwm]
      have Hm := Lib.hid (And.intro hm (And.intro hwm hm4))
      clear hm hwm hm4 hlt
      generalize wr = wo at hku hwu hT0 hBk hbel ⊢
      have hgbw : gb = w.heap.size := Hgb.out
      have hku' := own_raise (B' := gb + 1) hku (fun g hg => by
        have h1 := (hku.lt g hg).1
        rcases own_ne_blk hku hBk (by decide) with h0 | h0
        · rw [h0] at hg; cases hg
        · rcases Nat.lt_or_ge gb g with h2 | h2
          · exact h2
          · exfalso; exact h0 (by rw [hg, show g = gb by omega]))
      have hwu' := own_raise (B' := gb + 1) hwu (fun g hg => by
        have h1 := (hwu.lt g hg).1
        rcases own_ne_blk hwu hBk (by decide) with h0 | h0
        · rw [h0] at hg; cases hg
        · rcases Nat.lt_or_ge gb g with h2 | h2
          · exact h2
          · exfalso; exact h0 (by rw [hg, show g = gb by omega]))
      have hT' : TRows wo (gb + 1) 2 1 (ks ++ ws) := ⟨fun p hp => own_raise (hT0.own p hp) (fun g hg => by
        have h1 := ((hT0.own p hp).lt g hg).1
        rcases own_ne_blk (hT0.own p hp) hBk (by decide) with h0 | h0
        · rw [h0] at hg; cases hg
        · rcases Nat.lt_or_ge gb g with h2 | h2
          · exact h2
          · exfalso; exact h0 (by rw [hg, show g = gb by omega])), hT0.apart⟩
      clear hku hwu hT0 hkw hgbw
      have hapart := apart_c wo (gb + 1) hBk.lt ks ws Ls m Hm.out.1 Hm.out.2.1 hm60 Hks.out Hws.out hn64 Ak ck Aw cw hku' hwu' hT'
      have Hap := Lib.hid hapart
      clear hapart hku' hwu' hT'
      rcases hcase with hc1 | ⟨hc1, hc2⟩
      all_goals
        go_wp2_with fail
        refine Hap.out.mono ?_
        rintro e wq ⟨rfl, hbq, hwq, hTq⟩
        have hBkq : Blk wq gb 24 #[.int .i64 s, .int .i64 d, .int .i64 l] := (hbq.block gb (by omega)).trans hBk
        have hbelq : Below w.heap.size w wq := hbel.trans ⟨hbq.os, hbq.tape, hbq.output, hbq.size, fun b hb => hbq.block b (by have := Hgb.out; omega)⟩
        clear hbq hBk hbel
        go_wp2_with fail
        go_loopw [17] (fun i wz => ∃ z : Nat, z ≤ k ∧ i = .int .i64 z ∧ Below wq.heap.size wq wz) (fun i _ => k - (intOf i).toNat)
        case atStart => exact ⟨0, Nat.zero_le _, rfl, Below.refl _ _⟩
        case round =>
          obtain ⟨z, hz, rfl, hbz⟩ := hrel
          have hbelz := Below.then_ hbelq hbelq.size hbz
          by_cases hzk : z < k
          · obtain ⟨bt, ot, rfl, hbt, hct⟩ := hT.at_ (by omega)
            have et := hct z (by omega)
            clear hct
            have dt := (hbelz.cell (p := ⟨bt, ot + z, none⟩) hbt).trans et
            obtain ⟨hk0, hk2⟩ := Hknow.out.1 z hzk
            have hBkz := hBkq.below' hbz
            have c0 := hBkz.cell 0
            have c1 := hBkz.cell 1
            have c2 := hBkz.cell 2
            have j0 : (0 : Int) ≤ (z : Int) := by omega
            have j1 : (z : Int) < (nt : Int) := by omega
            have j2 : (z : Int) < 15 := by omega
            go_wp2_with fail
            refine (within_c (tf z) _).mono ?_
            rintro e w2 ⟨rfl, hb2⟩
            obtain ⟨ht, _, ht0, ht1⟩ := tmod_within (tf z)
            generalize Int.tmod (tf z) 576460752303423488 = t at ht ht0 ht1 hk0 hk2 ⊢
            have hb2' := Below.then_ hbz hbz.size hb2
            have hBk2 := hBkz.below' hb2
            clear dt et c0 c1 c2 hBkz hbelz hbz hb2
            have Ht := Lib.hid ht
            have HK2 := Lib.hid (And.intro hk0 hk2)
            clear ht hk0 hk2
            have c0 := hBk2.cell 0
            have c1 := hBk2.cell 1
            have c2 := hBk2.cell 2
            go_wp2_with fail
            refine (starts_c HR.out Ht.out _).mono ?_
            rintro e w3 ⟨vx, rfl, hox, hb3⟩
            have hb3' := Below.then_ hb2' hb2'.size hb3
            have hBk3 := hBk2.below' hb3
            obtain ⟨Ax, cx, rfl⟩ := own_slice hox
            clear c0 c1 c2 hBk2 hb2' hb3
            have c0 := hBk3.cell 0
            have c1 := hBk3.cell 1
            have c2 := hBk3.cell 2
            go_wp2_with fail
            refine (open_c _ HR.out Ht.out _).mono ?_
            rintro e w4 ⟨vz, rfl, hoz, hb4⟩
            have hb4' := Below.then_ hb3' hb3'.size hb4
            have hox4 := own_below hox hb4
            obtain ⟨Az, cz, rfl⟩ := own_slice hoz
            clear c0 c1 c2 hBk3 hb3' hb4 hox
            have hm4 := Hm.out.2.2
            obtain ⟨gv, cv, e, hgv, hgvl⟩ := own_form hwq (by omega)
            cases e
            obtain ⟨q0, hq0⟩ : ∃ q, ws[4 * z]? = some q := ⟨_, List.getElem?_eq_getElem (by have := Hm.out.2.1; omega)⟩
            obtain ⟨q2, hq2⟩ : ∃ q, ws[4 * z + 2]? = some q := ⟨_, List.getElem?_eq_getElem (by have := Hm.out.2.1; omega)⟩
            obtain ⟨L0, hL0, hn0, hx0⟩ := telling_at Hws.out hq0
            obtain ⟨L2, hL2, hn2, hx2⟩ := telling_at Hws.out hq2
            rw [HK2.out.1] at hL0
            rw [HK2.out.2] at hL2
            obtain rfl := Option.some.inj hL0
            obtain rfl := Option.some.inj hL2
            have ho0 := hTq.own q0 (List.mem_of_getElem? hq0)
            have ho2 := hTq.own q2 (List.mem_of_getElem? hq2)
            have hv0 : (ws.map TRow.v)[4 * z]? = some q0.v := by rw [List.getElem?_map, hq0]; rfl
            have hv2 : (ws.map TRow.v)[4 * z + 2]? = some q2.v := by rw [List.getElem?_map, hq2]; rfl
            obtain ⟨v0, n0, xs0⟩ := q0
            obtain ⟨v2, n2, xs2⟩ := q2
            simp only at hn0 hx0 hn2 hx2 ho0 ho2 hv0 hv2
            subst hn0 hx0 hn2 hx2
            obtain ⟨A0, cc0, rfl⟩ := own_slice ho0
            obtain ⟨A2, cc2, rfl⟩ := own_slice ho2
            have d0 : w4.cell? ⟨gv, 4 * z, none⟩ = some (.slice A0 (starts s d t).length cc0) := (hb4'.cell (p := ⟨gv, 4 * z, none⟩) hgvl).trans (by
              have := hwq.cells (g := gv) rfl (4 * z) _ hv0
              rwa [add_plain, Nat.zero_add] at this)
            have d2 : w4.cell? ⟨gv, 4 * z + 2, none⟩ = some (.slice A2 (opn s d l t t).length cc2) := (hb4'.cell (p := ⟨gv, 4 * z + 2, none⟩) hgvl).trans (by
              have := hwq.cells (g := gv) rfl (4 * z + 2) _ hv2
              rwa [add_plain, Nat.zero_add] at this)
            have ho04 := own_below ho0 hb4'
            have ho24 := own_below ho2 hb4'
            have i0' : (0 : Int) ≤ 4 * (z : Int) := by omega
            have i1' : 4 * (z : Int) < (m : Int) := by omega
            have i2' : (4 * (z : Int)).toNat = 4 * z := by omega
            have i3' : (0 : Int) ≤ 4 * (z : Int) + 2 := by omega
            have i4' : 4 * (z : Int) + 2 < (m : Int) := by omega
            have i5' : (4 * (z : Int) + 2).toNat = 4 * z + 2 := by omega
            have hla : (starts s d t).length ≤ 1000000 := by
              have := (cnt_le HR.out t).2
              have := starts_length s d t
              omega
            have hlb : (opn s d l t t).length ≤ 1000000 := by have := opn_le (t := t) t HR.out; omega
            have HS := Lib.hid (And.intro (And.intro hox4 ho04) (And.intro hoz ho24))
            clear hq0 hq2 hL0 hL2 ho0 ho2 hv0 hv2 hox4 ho04 hoz ho24 hm4
            go_wp2_with fail
            refine (same_c w4 _ _ _ _ (starts s d t) _ rfl hla HS.out.1.1 HS.out.1.2).mono ?_
            rintro e w5 ⟨rfl, m5, rfl⟩
            go_wp2_with fail
            refine (same_c (w4.drewN m5) _ _ _ _ (opn s d l t t) _ rfl hlb (own_below HS.out.2.1 (below_drewN (Below.refl _ _) m5)) (own_below HS.out.2.2 (below_drewN (Below.refl _ _) m5))).mono ?_
            rintro e w6 ⟨rfl, m6, rfl⟩
            go_wp2_with fail
            go_roundw
            case rel => exact ⟨z + 1, by omega, by go_num, by first | exact below_drewN hb4' (m5 + m6) | exact below_drewN (below_drewN hb4' m5) m6⟩
            case measure => simp [intOf]; omega
          · obtain rfl : z = k := by omega
            go_wp2_with fail
            refine (Hend.out _ hbelz).mono ?_
            rintro e w5 ⟨rfl, hb5⟩
            go_wp2
            go_ret
            exact ⟨rfl, hb5⟩

set_option maxRecDepth 100000 in
theorem ans_bad (w : World) (s d l : Int) (hR : ¬ Right s d l) (T : Option Addr) (nt ct : Nat) :
    Calls Try.prog 11 #[.agg #[.int .i64 s, .int .i64 d, .int .i64 l], .slice T nt ct] w fun e w' => e = .returned (.bool true) ∧ Below w.heap.size w w' := by
  go_enter Try.func11, Try.ntmps11
  go_wp2_with fail
  refine (right_no hR _).mono ?_
  rintro e w1 ⟨rfl, hb1⟩
  have hbel1 : Below w.heap.size w w1 := Below.then_ ((Below.refl _ _).alloc (Nat.le_refl _) _) (by simp) hb1
  go_wp2_with fail
  refine (head_c _).mono ?_
  rintro e w5 ⟨rfl, hb5⟩
  go_wp2
  go_ret
  exact ⟨rfl, Below.then_ hbel1 hbel1.size hb5⟩

theorem ans_walk (w : World) (s d l : Int) (_h0 : (Lit.int .i64 s).wf = true) (_h1 : (Lit.int .i64 d).wf = true) (_h2 : (Lit.int .i64 l).wf = true)
    (v3 : Value) (o3 : ∃ (A : Option Addr) (n c : Nat) (f : Nat → Int), v3 = .slice A n c ∧ n ≤ c ∧ Flat1 w A n f ∧ n * 8 ≤ 140737488351232) :
    Calls Try.prog 11 #[.agg #[.int .i64 s, .int .i64 d, .int .i64 l], v3] w fun e w' => e = .returned (.bool true) ∧ Below w.heap.size w w' := by
  obtain ⟨T, nt, ct, tf, rfl, hct, hT, hnt⟩ := o3
  by_cases h : Right s d l
  · exact ans_good w s d l h T nt ct tf hT (by omega)
  · exact ans_bad w s d l h T nt ct
end Go.Proofs.Ytnceikookipdnaa.PaneC
