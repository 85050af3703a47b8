/-
  The call of the law MarkAnswers.
-/
import Derived.Test.YtdnamidhbloaoaaApartW
import Derived.Test.YtdnamidhbloaoaaTag
set_option linter.unusedVariables false
set_option linter.unusedSimpArgs false
namespace Go.Proofs.Ytdnamidhbloaoaa.Mark
open Go.RowKit Go.Proofs.Ytdnamidhbloaoaa.K
attribute [local go_sem ↓] Go.wp_at_zero Go.wp_at_succ

theorem copied_any (w : World) (B : Nat) (v : Value) (l : List (Nat × Int)) (n : Nat) (hn : l.length = n) (h : n ≤ 1000000) (h0 : w.ownsRow B 63 3 v n (cellVs l)) :
    Calls Try.prog 30 #[v] w fun e w' => ∃ u, e = .returned u ∧ w'.ownsRow w.heap.size 63 3 u n (cellVs l) ∧ Below w.heap.size w w' := by
  obtain ⟨i1, hi1, hy0, hy1, hy2⟩ := info_parts info63
  obtain ⟨A, c, rfl⟩ := own_slice h0
  have hr := Reads.of_row h0
  have hlen : (cellVs l).length = n * 3 := h0.1
  clear h0
  go_enter Try.func30, Try.ntmps30
  go_wp2_with (at_builtin; refine wpList_append_reads (by rfl) _ _ 47 (by rfl) w.heap.size 63 i1 _ 3 32 Try.underlying47 hi1 hy0 hy1 hy2 rfl (by omega) (.slice none 0 0) 0 [] (by rfl) (World.ownsRow_nil _ _ _ _) A n c (cellVs l) (by rfl) hlen hr (cellVs_one l) ?c4 ?c5 (Nat.le_refl _) ?_)
  case c4 => unfold maxLen; omega
  case c5 => omega
  intro v' w1 hown hgrow hat
  go_wp2
  go_ret
  exact ⟨v', rfl, by simpa using hown, (Below.refl _ _).grown hgrow (Nat.le_refl _) (by intro x e; cases e)⟩

set_option maxRecDepth 100000 in
set_option maxHeartbeats 3200000 in
theorem ans_good (w : World) (V : Option Addr) (nv cv : Nat) (vf : Nat → Nat → Int) (hV : Views w V nv vf) (hcv : nv ≤ cv) (hnil : V = none → nv = 0 ∧ cv = 0) (h100 : nv ≤ 100)
    (T : Option Addr) (nt ct : Nat) (tf : Nat → Int) (hT : Flat1 w T nt tf) (hnt : nt ≤ 140737488351232) :
    Calls Try.prog 10 #[.slice V nv cv, .slice T nt ct] w fun e w' => e = .returned (.bool true) ∧ Below w.heap.size w w' := by
  have hend : ∀ W, Below w.heap.size w W → Calls Try.prog 19 #[] W fun e w' => e = .returned (.bool true) ∧ Below w.heap.size w w' := fun W h => (head_any W).mono fun _ _ ⟨he, hb⟩ => ⟨he, Below.then_ h h.size hb⟩
  have Hend := Lib.hid hend
  clear hend
  obtain ⟨i0, hi, hz0, hz1, hz2⟩ := info_parts info47'
  have h100' : ¬ (100 : Int) < (nv : Int) := by omega
  go_enter Try.func10, Try.ntmps10
  go_wp2_with fail
  refine (new_good 1 _ (by omega) (by omega)).mono ?_
  rintro e w1 ⟨g, b, rfl, hM, hb1, hg, hbb⟩
  go_wp2_with fail
  refine (new_good 1 _ (by omega) (by omega)).mono ?_
  rintro e w2 ⟨g', b', rfl, hM', hb2, hg', hbb'⟩
  have hMb : Marks w2 g b [-4611686018427387904] := hM.only (Only.of_below (fs := []) hb2) (by simp) (by simp)
  have lg := hM.str.lt
  have lb := hM.row.lt
  have sz1 := hb1.size
  have hbel2 : Below w.heap.size w w2 := Below.then_ hb1 sz1 hb2
  have n1 : g ≠ b' := by omega
  have n2 : b ≠ b' := by omega
  have fb' : w.heap.size ≤ b' := by omega
  clear hM hb1 hb2 lg lb sz1 hg' hbb' hg hbb
  go_wp2_with fail
  refine (rise_any _ g' b' _ 0 3 hM' (by decide) (by decide)).mono ?_
  rintro e w3 ⟨rfl, hM3', ho3⟩
  obtain ⟨L2, hL2⟩ : ∃ L2, riseL (List.replicate 1 (-4611686018427387904)) 0 3 = L2 := ⟨_, rfl⟩
  have hL2l : L2.length = 1 := by rw [← hL2, riseL_length]; rfl
  rw [hL2] at hM3'
  have hM3 := hMb.only ho3 (by simpa using n1) (by simpa using n2)
  have hbel3 : Below w.heap.size w w3 := Below.only_ hbel2 ho3 hbel2.size (by simpa using fb')
  generalize riseB (List.replicate 1 (-4611686018427387904)) 0 3 = rb1
  generalize riseE (List.replicate 1 (-4611686018427387904)) 0 3 = re1
  clear hM' hMb hbel2 ho3 hL2 n1 n2 fb'
  go_wp2_with fail
  refine (lend_any w3 V nv cv vf (hV.below (B := w.heap.size) hbel3) hnil (by omega)).mono ?_
  rintro e w4 ⟨gl, rfl, hol, hb4⟩
  have hM4 := hM3.only (Only.of_below (fs := []) hb4) (by simp) (by simp)
  have hM4' := hM3'.only (Only.of_below (fs := []) hb4) (by simp) (by simp)
  have hbel4 := Below.then_ hbel3 hbel3.size hb4
  have HM := Lib.hid (And.intro hM4 (And.intro hM4' (And.intro hol (And.intro hbel4 hL2l))))
  clear hM3 hM3' hM4 hM4' hb4 hbel3 hol hL2l hbel4
  go_wp2_with fail
  go_loopw [10, 11, 12] (fun ku wu i wr => ∃ (k : Nat) (ks ws : List TRow) (Ls : List (List (Nat × Int))), k ≤ nt ∧ k ≤ 15 ∧ i = .int .i64 k ∧ Ls.length = 3 * k ∧ ks.map tells = Ls.map telling ∧ ws.map tells = Ls.map telling ∧ (∀ L ∈ Ls, L.length ≤ 1000) ∧
    (∀ j, j < k → Ls[3 * j]? = some (oC vf (tf j) (least [-4611686018427387904]) nv) ∧ Ls[3 * j + 2]? = some (oC vf (tf j) (least L2) nv)) ∧
    wr.ownsRow w4.heap.size 47 1 ku ks.length (ks.map TRow.v) ∧ wr.ownsRow w4.heap.size 47 1 wu ws.length (ws.map TRow.v) ∧ (ku.ownBlock = none ∨ ku.ownBlock ≠ wu.ownBlock) ∧ TRows wr w4.heap.size 63 3 (ks ++ ws) ∧
    Below w4.heap.size w4 wr) (fun _ _ i _ => nt - (intOf i).toNat)
  case atStart => exact ⟨0, [], [], [], Nat.zero_le _, Nat.zero_le _, rfl, rfl, rfl, rfl, by simp, fun j hj => absurd hj (by omega), World.ownsRow_nil _ _ _ _, World.ownsRow_nil _ _ _ _, .inl rfl, TRows.nil _ _ _ _, Below.refl _ _⟩
  case round =>
    obtain ⟨k, ks, ws, Ls, hk, hk15, rfl, hLs, hks, hws, hn64, hknow, hku, hwu, hkw, hT0, hbel⟩ := hrel
    have hkl : ks.length = 3 * k := by have := congrArg List.length hks; simp only [List.length_map] at this; omega
    have hwl : ws.length = 3 * k := by have := congrArg List.length hws; simp only [List.length_map] at this; omega
    obtain ⟨Ak, ck, rfl⟩ := own_slice hku
    obtain ⟨Aw, cw, rfl⟩ := own_slice hwu
    have Hkl := Lib.hid hkl
    have Hwl := Lib.hid hwl
    have Hks := Lib.hid hks
    have Hws := Lib.hid hws
    have Hknow := Lib.hid (And.intro hknow hLs)
    clear hkl hwl hks hws hknow hLs
    by_cases hlt : k < nt ∧ k < 15
    · obtain ⟨hlt, h20⟩ := hlt
      obtain ⟨bt, ot, rfl, hbt, hct⟩ := hT.at_ (by omega)
      have et := hct k hlt
      clear hct
      have j0 : (0 : Int) ≤ (k : Int) := by omega
      have j1 : (k : Int) < (nt : Int) := by omega
      have Het := Lib.hid et
      clear et
      have dt := ((Below.then_ HM.out.2.2.2.1 HM.out.2.2.2.1.size hbel).cell (p := ⟨bt, ot + k, none⟩) hbt).trans Het.out
      go_wp2_with fail
      refine (mopen_any _ g b _ (HM.out.1.only (Only.of_below (fs := []) hbel) (by simp) (by simp)) (by decide) (by decide) (tf k) (some ⟨gl, 0, none⟩) nv (nv + 3) vf (lent_views (own_below HM.out.2.2.1 hbel)) (by omega)).mono ?_
      rintro e w5 ⟨va, rfl, hoa, hb5⟩
      have hbel5 := Below.then_ hbel hbel.size hb5
      have hT5 := TRows.snoc hT0 ⟨va, (oC vf (tf k) (least [-4611686018427387904]) nv).length, cellVs (oC vf (tf k) (least [-4611686018427387904]) nv)⟩ hb5 hbel.size hoa
      have hku5 := own_below hku hb5
      have hwu5 := own_below hwu hb5
      obtain ⟨Aa, ca, rfl⟩ := own_slice hoa
      clear dt hb5 hbel hT0 hku hwu 
      have dt := ((Below.then_ HM.out.2.2.2.1 HM.out.2.2.2.1.size hbel5).cell (p := ⟨bt, ot + k, none⟩) hbt).trans Het.out
      go_wp2_with fail
      refine (mopen_any _ g b _ (HM.out.1.only (Only.of_below (fs := []) hbel5) (by simp) (by simp)) (by decide) (by decide) (tf k) (some ⟨gl, 0, none⟩) nv (nv + 3) vf (lent_views (own_below HM.out.2.2.1 hbel5)) (by omega)).mono ?_
      rintro e w6 ⟨vb, rfl, hob, hb6⟩
      have hbel6 := Below.then_ hbel5 hbel5.size hb6
      have hT6 := TRows.snoc hT5 ⟨vb, (oC vf (tf k) (least [-4611686018427387904]) nv).length, cellVs (oC vf (tf k) (least [-4611686018427387904]) nv)⟩ hb6 hbel5.size hob
      have hku6 := own_below hku5 hb6
      have hwu6 := own_below hwu5 hb6
      have hoa6 := own_below hoa hb6
      obtain ⟨Ab, cb, rfl⟩ := own_slice hob
      clear dt hb6 hbel5 hT5 hku5 hwu5 hoa
      have dt := ((Below.then_ HM.out.2.2.2.1 HM.out.2.2.2.1.size hbel6).cell (p := ⟨bt, ot + k, none⟩) hbt).trans Het.out
      go_wp2_with fail
      refine (mopen_any _ g' b' _ (HM.out.2.1.only (Only.of_below (fs := []) hbel6) (by simp) (by simp)) (by rw [HM.out.2.2.2.2]; decide) (by rw [HM.out.2.2.2.2]; decide) (tf k) (some ⟨gl, 0, none⟩) nv (nv + 3) vf (lent_views (own_below HM.out.2.2.1 hbel6)) (by omega)).mono ?_
      rintro e w7 ⟨vc, rfl, hoc, hb7⟩
      have hbel7 := Below.then_ hbel6 hbel6.size hb7
      have hT7 := TRows.snoc hT6 ⟨vc, (oC vf (tf k) (least L2) nv).length, cellVs (oC vf (tf k) (least L2) nv)⟩ hb7 hbel6.size hoc
      have hku7 := own_below hku6 hb7
      have hwu7 := own_below hwu6 hb7
      have hoa7 := own_below hoa6 hb7
      have hob7 := own_below hob hb7
      obtain ⟨Ac, cc, rfl⟩ := own_slice hoc
      clear dt hb7 hbel6 hT6 hku6 hwu6 hoa6 hob
      obtain ⟨La, hLa⟩ : ∃ La, oC vf (tf k) (least [-4611686018427387904]) nv = La := ⟨_, rfl⟩
      obtain ⟨Lb, hLb⟩ : ∃ Lb, oC vf (tf k) (least L2) nv = Lb := ⟨_, rfl⟩
      have hla : La.length ≤ 1000 := by rw [← hLa]; exact oC_le
      have hlb : Lb.length ≤ 1000 := by rw [← hLb]; exact oC_le
      simp only [hLa, hLb] at hT7 hoa7 hob7 hoc ⊢
      have HLa := Lib.hid hLa
      have HLb := Lib.hid hLb
      have Hla := Lib.hid hla
      have Hlb := Lib.hid hlb
      clear hLa hLb hla hlb
      generalize oL vf (tf k) (least [-4611686018427387904]) nv = bl1
      generalize oL vf (tf k) (least L2) nv = bl2
      generalize oE vf (tf k) nv = be
      go_wp2_with (at_builtin; refine wpList_append_own_at _ rfl _ _ 59 rfl w4.heap.size 47 i0 _ 1 24 Try.underlying59 hi hz0 hz1 hz2 rfl (by omega) (.slice Ak ks.length ck) ks.length (ks.map TRow.v) (by rfl) ?c0 ⟨w7.heap.size, 0, none⟩ 3 3 [.slice Aa La.length ca, .slice Ab La.length cb, .slice Ac Lb.length cc] (by rfl) rfl ?c2 ?c3 ?c4 ?c5 ?c6 ?_)
      case c0 => exact own_below hku7 ((Below.refl _ _).alloc (Nat.le_refl _) _)
      case c2 =>
        intro j u hu
        rw [add_plain, Nat.zero_add, World.cell?_alloc_new]
        simpa using hu
      case c3 =>
        intro u hu
        simp at hu
        rcases hu with rfl | rfl | rfl <;> rfl
      case c4 => have := Hkl.out; unfold maxLen; omega
      case c5 => have := Hkl.out; omega
      case c6 => have := hbel7.size; simp; omega
      intro u' w8 hku8 hgrow _ hat
      have hba : Below w7.heap.size w7 (w7.alloc (.cells #[.slice Aa La.length ca, .slice Ab La.length cb, .slice Ac Lb.length cc] 47)) := (Below.refl _ _).alloc (Nat.le_refl _) _
      have hT8 := (hT7.below hba).grown hgrow (fun p hp => own_ne_kind (hT7.own p hp) hku7 (by decide))
      have hwk : Value.ownBlock (.slice Aw ws.length cw) = none ∨ Value.ownBlock (.slice Aw ws.length cw) ≠ Value.ownBlock (.slice Ak ks.length ck) := by
        rcases hb : Value.ownBlock (.slice Aw ws.length cw) with _ | q
        · exact .inl rfl
        · right
          intro he
          rcases hkw with h0 | h0
          · rw [h0] at he; cases he
          · exact h0 (by rw [hb, he])
      have hwu8 := (own_below hwu7 hba).kept hgrow hwk
      have hkw8 : u'.ownBlock = none ∨ u'.ownBlock ≠ Value.ownBlock (.slice Aw ws.length cw) := by
        rcases hat with h0 | h0
        · rw [h0]; exact hkw
        · right
          rw [h0]
          intro he
          have := (hwu7.lt _ he.symm).2
          first | omega | (simp at this; omega)
      have ka : ∀ {B : Nat} {v : Value} {n : Nat} {xs : List Value}, w7.ownsRow B 63 3 v n xs → w8.ownsRow B 63 3 v n xs := fun h => (own_below h hba).kept hgrow (own_ne_kind h hku7 (by decide))
      have hoa8 := ka hoa7
      have hoc8 := ka hoc
      have hbel8 : Below w4.heap.size w4 w8 := (hbel7.alloc hbel7.size _).grown hgrow (by have := hbel7.size; simp; omega) (fun x e => (hku7.lt x e).1)
      clear ka hT7 hku7 hwu7 hoa7 hob7 hoc hbel7 hba hat hgrow hkw hwk
      go_wp2_with fail
      refine (copied_any _ _ _ La _ rfl (by have := Hla.out; omega) hoa8).mono ?_
      rintro e w9 ⟨vx, rfl, hox, hb9⟩
      obtain ⟨Ax, cx, rfl⟩ := own_slice hox
      have hbel9 := Below.then_ hbel8 hbel8.size hb9
      have hT9 := TRows.snoc hT8 ⟨.slice Ax La.length cx, La.length, cellVs La⟩ hb9 hbel8.size hox
      have hku9 := own_below hku8 hb9
      have hwu9 := own_below hwu8 hb9
      have hoa9 := own_below hoa8 hb9
      have hoc9 := own_below hoc8 hb9
      clear hb9 hbel8 hT8 hku8 hwu8 hoa8 hoc8 hox
      go_wp2_with fail
      refine (copied_any _ _ _ La _ rfl (by have := Hla.out; omega) hoa9).mono ?_
      rintro e w10 ⟨vy, rfl, hoy, hb10⟩
      obtain ⟨Ay, cy, rfl⟩ := own_slice hoy
      have hbel10 := Below.then_ hbel9 hbel9.size hb10
      have hT10 := TRows.snoc hT9 ⟨.slice Ay La.length cy, La.length, cellVs La⟩ hb10 hbel9.size hoy
      have hku10 := own_below hku9 hb10
      have hwu10 := own_below hwu9 hb10
      have hoa10 := own_below hoa9 hb10
      have hoc10 := own_below hoc9 hb10
      clear hb10 hbel9 hT9 hku9 hwu9 hoa9 hoc9 hoy
      go_wp2_with fail
      refine (copied_any _ _ _ Lb _ rfl (by have := Hlb.out; omega) hoc10).mono ?_
      rintro e w11 ⟨vz, rfl, hoz, hb11⟩
      obtain ⟨Az, cz, rfl⟩ := own_slice hoz
      have hbel11 := Below.then_ hbel10 hbel10.size hb11
      have hT11 := TRows.snoc hT10 ⟨.slice Az Lb.length cz, Lb.length, cellVs Lb⟩ hb11 hbel10.size hoz
      have hku11 := own_below hku10 hb11
      have hwu11 := own_below hwu10 hb11
      have hoa11 := own_below hoa10 hb11
      have hoc11 := own_below hoc10 hb11
      clear hb11 hbel10 hT10 hku10 hwu10 hoa10 hoc10 hoz
      go_wp2_with (at_builtin; refine wpList_append_own_at _ rfl _ _ 59 rfl w4.heap.size 47 i0 _ 1 24 Try.underlying59 hi hz0 hz1 hz2 rfl (by omega) (.slice Aw ws.length cw) ws.length (ws.map TRow.v) (by rfl) ?c0 ⟨w11.heap.size, 0, none⟩ 3 3 [.slice Ax La.length cx, .slice Ay La.length cy, .slice Az Lb.length cz] (by rfl) rfl ?c2 ?c3 ?c4 ?c5 ?c6 ?_)
      case c0 => exact own_below hwu11 ((Below.refl _ _).alloc (Nat.le_refl _) _)
      case c2 =>
        intro j u hu
        rw [add_plain, Nat.zero_add, World.cell?_alloc_new]
        simpa using hu
      case c3 =>
        intro u hu
        simp at hu
        rcases hu with rfl | rfl | rfl <;> rfl
      case c4 => have := Hwl.out; unfold maxLen; omega
      case c5 => have := Hwl.out; omega
      case c6 => have := hbel11.size; simp; omega
      intro u'' w12 hwu12 hgrow _ hat
      have hba : Below w11.heap.size w11 (w11.alloc (.cells #[.slice Ax La.length cx, .slice Ay La.length cy, .slice Az Lb.length cz] 47)) := (Below.refl _ _).alloc (Nat.le_refl _) _
      have hT12 := (hT11.below hba).grown hgrow (fun p hp => own_ne_kind (hT11.own p hp) hwu11 (by decide))
      have hku12 := (own_below hku11 hba).kept hgrow hkw8
      have hkw12 : u'.ownBlock = none ∨ u'.ownBlock ≠ u''.ownBlock := by
        rcases hat with h0 | h0
        · rw [h0]; exact hkw8
        · right
          rw [h0]
          intro he
          have := (hku11.lt _ he).2
          first | omega | (simp at this; omega)
      have hbel12 : Below w4.heap.size w4 w12 := (hbel11.alloc hbel11.size _).grown hgrow (by have := hbel11.size; simp; omega) (fun x e => (hwu11.lt x e).1)
      clear hT11 hku11 hwu11 hoa11 hoc11 hbel11 hba hat hgrow hkw8
      go_wp2
      go_roundw
      case rel =>
        refine ⟨k + 1, ks ++ [⟨.slice Aa La.length ca, La.length, cellVs La⟩, ⟨.slice Ab La.length cb, La.length, cellVs La⟩, ⟨.slice Ac Lb.length cc, Lb.length, cellVs Lb⟩],
          ws ++ [⟨.slice Ax La.length cx, La.length, cellVs La⟩, ⟨.slice Ay La.length cy, La.length, cellVs La⟩, ⟨.slice Az Lb.length cz, Lb.length, cellVs Lb⟩], Ls ++ [La, La, Lb], by omega, by omega, by go_num, by have := Hknow.out.2; simp; omega, ?_, ?_, ?_, ?_, ?_, ?_, hkw12, ?_, hbel12⟩
        · rw [List.map_append, Hks.out, List.map_append]; rfl
        · rw [List.map_append, Hws.out, List.map_append]; rfl
        · intro L hL
          have := Hla.out
          have := Hlb.out
          rcases List.mem_append.1 hL with hL | hL
          · exact hn64 L hL
          · simp at hL
            rcases hL with rfl | rfl <;> omega
        · intro j hj
          have hlen := Hknow.out.2
          rcases Nat.lt_or_ge j k with hjk | hjk
          · rw [List.getElem?_append_left (by omega), List.getElem?_append_left (by omega)]
            exact Hknow.out.1 j hjk
          · obtain rfl : j = k := by omega
            rw [List.getElem?_append_right (by omega), List.getElem?_append_right (by omega), hlen, Nat.sub_self, show 3 * j + 2 - 3 * j = 2 by omega, HLa.out, HLb.out]
            exact ⟨rfl, rfl⟩
        · simpa using hku12
        · simpa using hwu12
        · refine hT12.perm ?_
          have := ((List.perm_append_comm (l₁ := ws) (l₂ := [⟨.slice Aa La.length ca, La.length, cellVs La⟩, ⟨.slice Ab La.length cb, La.length, cellVs La⟩, ⟨.slice Ac Lb.length cc, Lb.length, cellVs Lb⟩])).append_left ks).append_right [⟨.slice Ax La.length cx, La.length, cellVs La⟩, ⟨.slice Ay La.length cy, La.length, cellVs La⟩, ⟨.slice Az Lb.length cz, Lb.length, cellVs Lb⟩]
          simpa only [List.append_assoc, List.cons_append, List.nil_append] using this
      case measure => simp [intOf]; omega
    · have hcase : (nt : Int) ≤ (k : Int) ∨ ((k : Int) < (nt : Int) ∧ (15 : Int) ≤ (k : Int)) := by omega
      obtain ⟨m, hm⟩ : ∃ m, ks.length = m := ⟨_, rfl⟩
      have hwm : ws.length = m := by have := Hkl.out; have := Hwl.out; omega
      have hm60 : m ≤ 60 := by have := Hkl.out; omega
      have hm4 : m = 3 * k := by have := Hkl.out; omega
      rw [hm] at hku
      rw [hwm] at hwu
      simp only [hm, hwm]
      have Hm := Lib.hid (And.intro hm (And.intro hwm hm4))
      clear hm hwm hm4 hlt
      generalize wr = wo at hku hwu hT0 hbel ⊢
      have Hap := Lib.hid (apart_c wo w4.heap.size hbel.size ks ws Ls m Hm.out.1 Hm.out.2.1 hm60 Hks.out Hws.out hn64 Ak ck Aw cw hku hwu hT0)
      clear hku hwu hT0 hkw
      rcases hcase with hc1 | ⟨hc1, hc2⟩
      all_goals
        go_wp2_with fail
        refine Hap.out.mono ?_
        rintro e wq ⟨rfl, hbq, hwq, hTq⟩
        have hbelq : Below w4.heap.size w4 wq := hbel.trans hbq
        clear hbq hbel
        go_wp2_with fail
        refine (kept_any wq w3.heap.size gl V nv cv vf (hV.below (B := w.heap.size) (Below.then_ HM.out.2.2.2.1 HM.out.2.2.2.1.size hbelq)) (by omega) (own_below HM.out.2.2.1 hbelq)).mono ?_
        rintro e wp ⟨rfl, hbp⟩
        have hwp := own_below hwq hbp
        have hTp := hTq.below hbp
        have hbelp := Below.then_ hbelq hbelq.size hbp
        clear hwq hTq hbelq hbp
        go_wp2_with fail
        go_loopw [22] (fun i wz => ∃ z : Nat, z ≤ k ∧ i = .int .i64 z ∧ Below wp.heap.size wp wz) (fun i _ => k - (intOf i).toNat)
        case atStart => exact ⟨0, Nat.zero_le _, rfl, Below.refl _ _⟩
        case round =>
          obtain ⟨z, hz, rfl, hbz⟩ := hrel
          have hbelz := Below.then_ hbelp hbelp.size hbz
          by_cases hzk : z < k
          · obtain ⟨bt, ot, rfl, hbt, hct⟩ := hT.at_ (by omega)
            have et := hct z (by omega)
            clear hct
            have dt := ((Below.then_ HM.out.2.2.2.1 HM.out.2.2.2.1.size hbelz).cell (p := ⟨bt, ot + z, none⟩) hbt).trans et
            obtain ⟨hk0, hk2⟩ := Hknow.out.1 z hzk
            have j0 : (0 : Int) ≤ (z : Int) := by omega
            have j1 : (z : Int) < (nt : Int) := by omega
            have j2 : (z : Int) < 15 := by omega
            have HK2 := Lib.hid (And.intro hk0 (And.intro hk2 et))
            clear hk0 hk2 et
            go_wp2_with fail
            refine (mopen_any _ g b _ (HM.out.1.only (Only.of_below (fs := []) hbelz) (by simp) (by simp)) (by decide) (by decide) (tf z) (some ⟨gl, 0, none⟩) nv (nv + 3) vf (lent_views (own_below HM.out.2.2.1 hbelz)) (by omega)).mono ?_
            rintro e wa ⟨vx, rfl, hox, hba⟩
            have hbza := Below.then_ hbz hbz.size hba
            have hbela := Below.then_ hbelz hbelz.size hba
            have dta := ((Below.then_ HM.out.2.2.2.1 HM.out.2.2.2.1.size hbela).cell (p := ⟨bt, ot + z, none⟩) hbt).trans HK2.out.2.2
            obtain ⟨Ax, cx, rfl⟩ := own_slice hox
            clear dt hba hbz hbelz
            go_wp2_with fail
            refine (mopen_any _ g' b' _ (HM.out.2.1.only (Only.of_below (fs := []) hbela) (by simp) (by simp)) (by rw [HM.out.2.2.2.2]; decide) (by rw [HM.out.2.2.2.2]; decide) (tf z) (some ⟨gl, 0, none⟩) nv (nv + 3) vf (lent_views (own_below HM.out.2.2.1 hbela)) (by omega)).mono ?_
            rintro e wb ⟨vz, rfl, hoz, hbb⟩
            have hbzb := Below.then_ hbza hbza.size hbb
            have hoxb := own_below hox hbb
            obtain ⟨Az, cz, rfl⟩ := own_slice hoz
            clear dta hbb hbza hbela hox
            have hm4 := Hm.out.2.2
            obtain ⟨gv, cv', e, hgv, hgvl⟩ := own_form hwp (by omega)
            cases e
            obtain ⟨q0, hq0⟩ : ∃ q, ws[3 * z]? = some q := ⟨_, List.getElem?_eq_getElem (by have := Hm.out.2.1; omega)⟩
            obtain ⟨q2, hq2⟩ : ∃ q, ws[3 * z + 2]? = some q := ⟨_, List.getElem?_eq_getElem (by have := Hm.out.2.1; omega)⟩
            obtain ⟨L0, hL0, hn0, hx0⟩ := telling_at Hws.out hq0
            obtain ⟨L3, hL3, hn2, hx2⟩ := telling_at Hws.out hq2
            rw [HK2.out.1] at hL0
            rw [HK2.out.2.1] at hL3
            obtain rfl := Option.some.inj hL0
            obtain rfl := Option.some.inj hL3
            have ho0 := hTp.own q0 (List.mem_of_getElem? hq0)
            have ho2 := hTp.own q2 (List.mem_of_getElem? hq2)
            have hv0 : (ws.map TRow.v)[3 * z]? = some q0.v := by rw [List.getElem?_map, hq0]; rfl
            have hv2 : (ws.map TRow.v)[3 * z + 2]? = some q2.v := by rw [List.getElem?_map, hq2]; rfl
            obtain ⟨v0, n0, xs0⟩ := q0
            obtain ⟨v2, n2, xs2⟩ := q2
            simp only at hn0 hx0 hn2 hx2 ho0 ho2 hv0 hv2
            subst hn0 hx0 hn2 hx2
            obtain ⟨A0, cc0, rfl⟩ := own_slice ho0
            obtain ⟨A2, cc2, rfl⟩ := own_slice ho2
            have d0 : wb.cell? ⟨gv, 3 * z, none⟩ = some (.slice A0 (oC vf (tf z) (least [-4611686018427387904]) nv).length cc0) := (hbzb.cell (p := ⟨gv, 3 * z, none⟩) hgvl).trans (by
              have := hwp.cells (g := gv) rfl (3 * z) _ hv0
              rwa [add_plain, Nat.zero_add] at this)
            have d2 : wb.cell? ⟨gv, 3 * z + 2, none⟩ = some (.slice A2 (oC vf (tf z) (least L2) nv).length cc2) := (hbzb.cell (p := ⟨gv, 3 * z + 2, none⟩) hgvl).trans (by
              have := hwp.cells (g := gv) rfl (3 * z + 2) _ hv2
              rwa [add_plain, Nat.zero_add] at this)
            have ho04 := own_below ho0 hbzb
            have ho24 := own_below ho2 hbzb
            have i0' : (0 : Int) ≤ 3 * (z : Int) := by omega
            have i1' : 3 * (z : Int) < (m : Int) := by omega
            have i2' : (3 * (z : Int)).toNat = 3 * z := by omega
            have i3' : (0 : Int) ≤ 3 * (z : Int) + 2 := by omega
            have i4' : 3 * (z : Int) + 2 < (m : Int) := by omega
            have i5' : (3 * (z : Int) + 2).toNat = 3 * z + 2 := by omega
            have hla : (oC vf (tf z) (least [-4611686018427387904]) nv).length ≤ 1000 := oC_le
            have hlb : (oC vf (tf z) (least L2) nv).length ≤ 1000 := oC_le
            have HS := Lib.hid (And.intro (And.intro hoxb ho04) (And.intro hoz (And.intro ho24 (And.intro hla hlb))))
            clear hq0 hq2 hL0 hL3 ho0 ho2 hv0 hv2 hoxb ho04 hoz ho24 hm4 hla hlb
            go_wp2_with fail
            refine (same_any wb _ _ _ _ (oC vf (tf z) (least [-4611686018427387904]) nv) _ rfl (by have := HS.out.2.2.2.1; omega) HS.out.1.1 HS.out.1.2).mono ?_
            rintro e w5 ⟨rfl, h5⟩
            have d2' := (h5.cell (p := ⟨gv, 3 * z + 2, none⟩) (World.block_lt_of_cell? _ _ d2)).trans d2
            have hz5 := Below.then_ hbzb hbzb.size h5
            have HH5 := Lib.hid h5
            clear d0 d2 h5 hbzb
            go_wp2_with fail
            refine (same_any w5 _ _ _ _ (oC vf (tf z) (least L2) nv) _ rfl (by have := HS.out.2.2.2.2; omega) (own_below HS.out.2.1 HH5.out) (own_below HS.out.2.2.1 HH5.out)).mono ?_
            rintro e w6 ⟨rfl, h6⟩
            have hz6 := Below.then_ hz5 hz5.size h6
            clear d2' hz5 h6
            go_wp2_with fail
            go_roundw
            case rel => exact ⟨z + 1, by omega, by go_num, hz6⟩
            case measure => simp [intOf]; omega
          · obtain rfl : z = k := by omega
            go_wp2_with fail
            refine (Hend.out _ (Below.then_ HM.out.2.2.2.1 HM.out.2.2.2.1.size hbelz)).mono ?_
            rintro e w5 ⟨rfl, hb5⟩
            go_wp2
            go_ret
            exact ⟨rfl, hb5⟩

set_option maxRecDepth 100000 in
theorem ans_walk (w : World) (v2 : Value) (o2 : ∃ (A : Option Addr) (n c : Nat) (f : Nat → Nat → Int), v2 = .slice A n c ∧ n ≤ c ∧ Flat w 3 A n f ∧ n * 24 ≤ 140737488351232 ∧ (A = none → n = 0 ∧ c = 0))
    (v3 : Value) (o3 : ∃ (A : Option Addr) (n c : Nat) (f : Nat → Int), v3 = .slice A n c ∧ n ≤ c ∧ Flat1 w A n f ∧ n * 8 ≤ 140737488351232) :
    Calls Try.prog 10 #[v2, v3] w fun e w' => e = .returned (.bool true) ∧ Below w.heap.size w w' := by
  obtain ⟨V, nv, cv, vf, rfl, hcv, hVF, hnv, hnil⟩ := o2
  obtain ⟨T, nt, ct, tf, rfl, hct, hT, hnt⟩ := o3
  by_cases h100 : nv ≤ 100
  · exact ans_good w V nv cv vf (Views.of_flat hVF) hcv hnil h100 T nt ct tf hT (by omega)
  · have h1 : (100 : Int) < (nv : Int) := by omega
    clear hVF hT
    go_enter Try.func10, Try.ntmps10
    go_wp2_with fail
    refine (new_good 1 _ (by omega) (by omega)).mono ?_
    rintro e w1 ⟨g, b, rfl, hM, hb1, hg, hbb⟩
    clear hM hg hbb
    go_wp2_with fail
    refine (new_good 1 _ (by omega) (by omega)).mono ?_
    rintro e w2 ⟨g', b', rfl, hM', hb2, hg', hbb'⟩
    clear hM' hg' hbb'
    go_wp2_with fail
    refine (head_any _).mono ?_
    rintro e w5 ⟨rfl, hb5⟩
    go_wp2
    go_ret
    have hbel2 := Below.then_ hb1 hb1.size hb2
    exact ⟨rfl, Below.then_ hbel2 hbel2.size hb5⟩
end Go.Proofs.Ytdnamidhbloaoaa.Mark
