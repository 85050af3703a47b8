/-
  The call of the law MarkOwn.
-/
import Derived.Test.YtdnamidhbloaoaaOrder
import Derived.Test.YtdnamidhbloaoaaTold
import Derived.Test.YtdnamidhbloaoaaClone
set_option linter.unusedVariables false
namespace Go.Proofs.Ytdnamidhbloaoaa.Mark
open Go.RowKit Go.Proofs.Ytdnamidhbloaoaa.K
attribute [local go_sem ↓] Go.wp_at_zero Go.wp_at_succ

theorem info47 : (Try.prog.info? 47).map (fun i => (i.zero, i.size, i.bytes)) = some (some (.slice none 0 0), 1, 24) := by kernel_rfl

theorem blk_grown_ {w w' : World} {g : Nat} {t : TypeId} {cs : Array Value} {row : Option Nat} (h : Blk w g t cs) (hg : w.grownBy w' row) (hne : row = none ∨ row ≠ some g) : Blk w' g t cs :=
  (hg.block g h.lt (by rcases hne with h | h; · rw [h]; simp
                       · exact fun e => h e.symm)).trans h
theorem Marks.grown {w w' : World} {g b : Nat} {L : List Int} {row : Option Nat} (h : Marks w g b L) (hg : w.grownBy w' row) (h1 : row = none ∨ row ≠ some g) (h2 : row = none ∨ row ≠ some b) : Marks w' g b L :=
  ⟨blk_grown_ h.str hg h1, blk_grown_ h.row hg h2⟩

/-- Row i written over up to y. -/
def marked (i y : Nat) : List Value := cellVs ((List.range y).map fun j : Nat => ((i, (j : Int)) : Nat × Int))
theorem marked_length (i y : Nat) : (marked i y).length = 3 * y := by unfold marked; rw [cellVs_length]; simp
theorem marked_succ (i y : Nat) : marked i (y + 1) = marked i y ++ [.int .i64 i, .string ⟨#[]⟩, .int .i64 y] := by
  unfold marked
  rw [List.range_succ, List.map_append, cellVs_append]
  rfl
theorem marked_set (i y n : Nat) (xs : List Value) (hx : xs.length = n * 3) (hy : y < n) :
    ((((marked i y ++ xs.drop (y * 3)).set (y * 3) (.int .i64 i)).set (y * 3 + 1) (.string ⟨#[]⟩)).set (y * 3 + 2) (.int .i64 y)) = marked i (y + 1) ++ xs.drop ((y + 1) * 3) := by
  have hl := marked_length i y
  obtain ⟨a, b, c, tl, htl⟩ : ∃ a b c tl, xs.drop (y * 3) = a :: b :: c :: tl := by
    rcases h : xs.drop (y * 3) with _ | ⟨a, _ | ⟨b, _ | ⟨c, tl⟩⟩⟩
    · have := congrArg List.length h; simp at this; omega
    · have := congrArg List.length h; simp at this; omega
    · have := congrArg List.length h; simp at this; omega
    · exact ⟨a, b, c, tl, rfl⟩
  have h3 : xs.drop ((y + 1) * 3) = tl := by
    rw [show (y + 1) * 3 = y * 3 + 3 by omega, ← List.drop_drop, htl]; rfl
  rw [h3, htl, marked_succ, List.append_assoc]
  rw [List.set_append_right _ _ (by omega), List.set_append_right _ _ (by omega), List.set_append_right _ _ (by omega), hl, show y * 3 - 3 * y = 0 by omega, show y * 3 + 1 - 3 * y = 1 by omega, show y * 3 + 2 - 3 * y = 2 by omega]
  rfl

theorem marked_at (i n y : Nat) (h : y < n) (tl : List Value) :
    (marked i n ++ tl)[y * 3]? = some (.int .i64 i) ∧ (marked i n ++ tl)[y * 3 + 1]? = some (.string ⟨#[]⟩) ∧ (marked i n ++ tl)[y * 3 + 2]? = some (.int .i64 y) := by
  induction n generalizing tl with
  | zero => omega
  | succ n ih =>
    rw [marked_succ, List.append_assoc]
    by_cases h1 : y < n
    · exact ih h1 _
    · obtain rfl : y = n := by omega
      have hl := marked_length i y
      refine ⟨?_, ?_, ?_⟩
      · rw [List.getElem?_append_right (by omega), hl, show y * 3 - 3 * y = 0 by omega]; simp
      · rw [List.getElem?_append_right (by omega), hl, show y * 3 + 1 - 3 * y = 1 by omega]; simp
      · rw [List.getElem?_append_right (by omega), hl, show y * 3 + 2 - 3 * y = 2 by omega]; simp
theorem set_of_get {α : Type} (l : List α) (x : Nat) (a : α) (h : l[x]? = some a) : l.set x a = l := by
  obtain ⟨hl, rfl⟩ := List.getElem?_eq_some_iff.1 h
  exact List.set_getElem_self hl
theorem grown_set3 (w : World) (g i j k : Nat) (a b c : Value) : w.grownBy (((w.setCell ⟨g, i, none⟩ a).setCell ⟨g, j, none⟩ b).setCell ⟨g, k, none⟩ c) (some g) := by
  refine ⟨rfl, rfl, rfl, by simp [World.setCell], fun q hq hne => ?_⟩
  have : q ≠ g := fun e => hne (by rw [e])
  rw [Below.heap_setCell _ _ _ _ this, Below.heap_setCell _ _ _ _ this, Below.heap_setCell _ _ _ _ this]

set_option maxRecDepth 100000 in
set_option maxHeartbeats 1600000 in
theorem own_walk (w : World)
    (v2 : Value) (o2 : ∃ (A : Option Addr) (n c : Nat) (f : Nat → Nat → Int), v2 = .slice A n c ∧ n ≤ c ∧ Flat w 3 A n f ∧ n * 24 ≤ 140737488351232)
    (v3 : Value) (o3 : ∃ (A : Option Addr) (n c : Nat) (f : Nat → Int), v3 = .slice A n c ∧ n ≤ c ∧ Flat1 w A n f ∧ n * 8 ≤ 140737488351232) :
    Calls Try.prog 9 #[v2, v3] w fun e w' => e = .returned (.bool true) ∧ Below w.heap.size w w' := by
  obtain ⟨V, nv, cv, vf, rfl, hcv, hVF, hnv⟩ := o2
  obtain ⟨T, nt, ct, tf, rfl, hct, hT, hnt⟩ := o3
  have hV : Views w V nv vf := Views.of_flat hVF
  clear hVF hct
  have hend : ∀ W, Below w.heap.size w W → Calls Try.prog 19 #[] W fun e w' => e = .returned (.bool true) ∧ Below w.heap.size w w' := fun W h => (head_any W).mono fun _ _ ⟨he, hb⟩ => ⟨he, Below.then_ h h.size hb⟩
  have Hend := Lib.hid hend
  clear hend
  obtain ⟨i0, hi, hz0, hz1, hz2⟩ := info_parts info47
  obtain ⟨i1, hi1, hy0, hy1, hy2⟩ := info_parts info63
  go_enter Try.func9, Try.ntmps9
  go_wp2_with fail
  refine (new_good 1 _ (by omega) (by omega)).mono ?_
  rintro e w1 ⟨g, b, rfl, hM, hb1, hg, hbb⟩
  go_wp2_with fail
  refine (new_good 2 _ (by omega) (by omega)).mono ?_
  rintro e w2 ⟨g', b', rfl, hM', hb2, hg', hbb'⟩
  have hMb : Marks w2 g b [-4611686018427387904] := hM.only (Only.of_below (fs := []) hb2) (by simp) (by simp)
  have lg := hM.str.lt
  have lb := hM.row.lt
  have sz1 := hb1.size
  have hbel2 : Below w.heap.size w w2 := Below.then_ hb1 sz1 hb2
  have n1 : g ≠ b' := by omega
  have n2 : b ≠ b' := by omega
  have fg' : w.heap.size ≤ g' := by omega
  have fb' : w.heap.size ≤ b' := by omega
  clear hM hb1 hb2 lg lb sz1 hg' hbb'
  go_wp2_with fail
  go_loopw [9, 10] (fun u i wr => ∃ (k : Nat) (rs : List TRow) (L' : List Int), k ≤ nt ∧ k ≤ 20 ∧ i = .int .i64 k ∧ rs.length = 2 * k ∧ (∀ p ∈ rs, p.n ≤ 1000) ∧ wr.ownsRow w.heap.size 47 1 u rs.length (rs.map TRow.v) ∧ TRows wr w.heap.size 63 3 rs ∧
    Marks wr g b [-4611686018427387904] ∧ L'.length = 2 ∧ Marks wr g' b' L' ∧ Below w.heap.size w wr) (fun _ i _ => nt - (intOf i).toNat)
  case atStart => exact ⟨0, [], _, Nat.zero_le _, Nat.zero_le _, rfl, rfl, by simp, World.ownsRow_nil _ _ _ _, TRows.nil _ _ _ _, hMb, rfl, hM', hbel2⟩
  case round =>
    clear hMb hM' hbel2
    obtain ⟨k, rs, L', hk, hk20, rfl, hrs, hrn, hu, hT0, hM, hL', hM', hbel⟩ := hrel
    obtain ⟨Au, cu, rfl⟩ := own_slice hu
    have Hrs := Lib.hid hrs
    clear hrs
    by_cases hlt : k < nt ∧ k < 20
    · obtain ⟨hlt, h20⟩ := hlt
      obtain ⟨bt, ot, rfl, hbt, hct⟩ := hT.at_ (by omega)
      have et := hct k hlt
      clear hct
      have dt := (hbel.cell (p := ⟨bt, ot + k, none⟩) hbt).trans et
      have j0 : (0 : Int) ≤ (k : Int) := by omega
      have j1 : (k : Int) < (nt : Int) := by omega
      go_wp2_with fail
      refine (mopen_any _ g b _ hM (by decide) (by decide) (tf k) V nv cv vf (hV.below (B := w.heap.size) hbel) (by omega)).mono ?_
      rintro e w3 ⟨va, rfl, hoa, hb3⟩
      have hbel3 := Below.then_ hbel hbel.size hb3
      have hT3 := TRows.snoc hT0 ⟨va, _, _⟩ hb3 hbel.size hoa
      have hu3 := own_below hu hb3
      have hM3 := hM.only (Only.of_below (fs := []) hb3) (by simp) (by simp)
      have hM3' := hM'.only (Only.of_below (fs := []) hb3) (by simp) (by simp)
      obtain ⟨Aa, ca, rfl⟩ := own_slice hoa
      clear hu hM hM' hT0 dt hb3 hbel
      go_wp2_with fail
      refine (rise_any _ g' b' L' 0 5 hM3' (by omega) (by omega)).mono ?_
      rintro e w4 ⟨rfl, hM4', ho4⟩
      go_wp2_with fail
      refine (rise_any _ g' b' _ 1 1152921504606846976 hM4' (by rw [riseL_length]; omega) (by rw [riseL_length]; omega)).mono ?_
      rintro e w5 ⟨rfl, hM5', ho5⟩
      have ho := ho4.trans ho5
      have hL5 : (riseL (riseL L' 0 5) 1 1152921504606846976).length = 2 := by rw [riseL_length, riseL_length, hL']
      have hbel5 : Below w.heap.size w w5 := Below.only_ hbel3 ho hbel3.size (by simpa using fb')
      have hM5 := hM3.only ho (by simpa using n1) (by simpa using n2)
      have hne : ∀ {v : Value} {n : Nat} {xs : List Value} {e : TypeId} {B s : Nat}, w3.ownsRow B e s v n xs → e ≠ 2 → ∀ q, v.ownBlock = some q → q ∉ [b'] := by
        intro v n xs e B s h he q hq
        rcases own_ne_blk h hM3'.row he with h0 | h0
        · rw [h0] at hq; cases hq
        · rw [hq] at h0; simpa using fun e => h0 (by rw [e])
      have hT5 := hT3.only ho (fun p hp => hne (hT3.own p hp) (by decide))
      have hu5 := own_only hu3 ho (hne hu3 (by decide))
      have dt5 := (hbel5.cell (p := ⟨bt, ot + k, none⟩) hbt).trans et
      have hoa5 := own_only hoa ho (hne hoa (by decide))
      generalize riseL (riseL L' 0 5) 1 1152921504606846976 = L5 at hM5' hL5
      generalize riseB (riseL L' 0 5) 1 1152921504606846976 = rb1
      generalize riseE (riseL L' 0 5) 1 1152921504606846976 = re1
      clear hne ho ho4 ho5 hM3 hM3' hM4' hT3 hu3 hoa
      go_wp2_with fail
      refine (mopen_any _ g b _ hM5 (by decide) (by decide) (tf k) V nv cv vf (hV.below (B := w.heap.size) hbel5) (by omega)).mono ?_
      rintro e w6 ⟨vb, rfl, hob, hb6⟩
      have hbel6 := Below.then_ hbel5 hbel5.size hb6
      have hT6 := TRows.snoc hT5 ⟨vb, _, _⟩ hb6 hbel5.size hob
      have hu6 := own_below hu5 hb6
      have hM6 := hM5.only (Only.of_below (fs := []) hb6) (by simp) (by simp)
      have hM6' := hM5'.only (Only.of_below (fs := []) hb6) (by simp) (by simp)
      have hoa6 := own_below hoa5 hb6
      obtain ⟨Ab, cb, rfl⟩ := own_slice hob
      have hlenC := Lib.hid (oC_le (f := vf) (t := tf k) (m := least [-4611686018427387904]) (n := nv))
      clear hu5 hM5 hM5' hT5 dt5 hb6 hoa5
      generalize oL vf (tf k) (least [-4611686018427387904]) nv = bl
      generalize oE vf (tf k) nv = be
      generalize oC vf (tf k) (least [-4611686018427387904]) nv = lc at *
      go_wp2_with fail
      refine (same_any _ _ _ _ _ lc _ rfl (by have := hlenC.out; omega) hoa6 hob).mono ?_
      rintro e w7 ⟨rfl, hb7⟩
      have hbel7 := Below.then_ hbel6 hbel6.size hb7
      have hT7 := hT6.below hb7
      have hu7 := own_below hu6 hb7
      have hM7 := hM6.only (Only.of_below (fs := []) hb7) (by simp) (by simp)
      have hM7' := hM6'.only (Only.of_below (fs := []) hb7) (by simp) (by simp)
      clear hu6 hM6 hM6' hT6 hb7 hoa6 hob
      go_wp2_with fail
      refine (least_any _ g b _ hM7 (by decide) (by decide)).mono ?_
      rintro e w8 ⟨rfl, rfl⟩
      rw [show least [-4611686018427387904] = -4611686018427387904 by decide]
      go_wp2_with (at_builtin; go_loud (refine wpList_append_own_at _ rfl _ _ 59 rfl w.heap.size 47 i0 _ 1 24 Try.underlying59 hi hz0 hz1 hz2 rfl (by omega) (.slice Au rs.length cu) rs.length (rs.map TRow.v) (by rfl) ?c0 ⟨w7.heap.size, 0, none⟩ 2 2 [.slice Aa lc.length ca, .slice Ab lc.length cb] (by rfl) rfl ?c2 ?c3 ?c4 ?c5 ?c6 ?_))
      case c0 => exact own_below hu7 ((Below.refl _ _).alloc (Nat.le_refl _) _)
      case c2 =>
        intro j u hu
        rw [add_plain, Nat.zero_add, World.cell?_alloc_new]
        simpa using hu
      case c3 =>
        intro u hu
        simp at hu
        rcases hu with rfl | rfl <;> rfl
      case c4 => have := Hrs.out; unfold maxLen; omega
      case c5 => have := Hrs.out; omega
      case c6 => have := hbel7.size; simp; omega
      intro u' w9 hown9 hgrow _ hat
      have hba : Below w7.heap.size w7 (w7.alloc (.cells #[.slice Aa lc.length ca, .slice Ab lc.length cb] 47)) := (Below.refl _ _).alloc (Nat.le_refl _) _
      have hT9 := (hT7.below hba).grown hgrow (fun p hp => own_ne_kind (hT7.own p hp) hu7 (by decide))
      have q1 : ∀ {x t cs}, Blk w7 x t cs → 47 ≠ t → Value.ownBlock (.slice Au rs.length cu) = none ∨ Value.ownBlock (.slice Au rs.length cu) ≠ some x := fun hb he => own_ne_blk hu7 hb he
      have hM9 := (hM7.only (Only.of_below (fs := []) hba) (by simp) (by simp)).grown hgrow (q1 hM7.str (by decide)) (q1 hM7.row (by decide))
      have hM9' := (hM7'.only (Only.of_below (fs := []) hba) (by simp) (by simp)).grown hgrow (q1 hM7'.str (by decide)) (q1 hM7'.row (by decide))
      have hbel9 : Below w.heap.size w w9 := (hbel7.alloc hbel7.size _).grown hgrow (by have := hbel7.size; simp; omega) (fun x e => (hu7.lt x e).1)
      clear hT7 hM7 hM7' hu7 hba q1 hat hgrow hbel7
      go_wp2
      go_roundw
      case rel =>
        refine ⟨k + 1, rs ++ [⟨.slice Aa lc.length ca, lc.length, cellVs lc⟩] ++ [⟨.slice Ab lc.length cb, lc.length, cellVs lc⟩], L5, by omega, by omega, by go_num, by have := Hrs.out; simp; omega, ?_, ?_, hT9, hM9, hL5, hM9', hbel9⟩
        · intro p hp
          have := hlenC.out
          simp at hp
          rcases hp with hp | rfl | rfl
          · exact hrn p hp
          · omega
          · omega
        · simpa using hown9
      case measure => simp [intOf]; omega
    · have hcase : (nt : Int) ≤ (k : Int) ∨ ((k : Int) < (nt : Int) ∧ (20 : Int) ≤ (k : Int)) := by omega
      have hm40 : rs.length ≤ 40 := by have := Hrs.out; omega
      clear Hrs hM hM' hL' hk hk20 hlt hT hV hnv hnt hcv n1 n2 fg' fb' hg hbb
      generalize hvs : rs.map TRow.v = vs at hu
      have hvl : vs.length = rs.length := by rw [← hvs]; simp
      obtain ⟨m, hm⟩ : ∃ m, rs.length = m := ⟨_, rfl⟩
      rw [hm] at hu hm40 hvl
      simp only [hm]
      clear hm
      generalize wr = wo at hu hT0 hbel ⊢
      rcases hcase with hc1 | ⟨hc1, hc2⟩
      all_goals
        go_wp2_with fail
        go_loopw [17] (fun i wx => ∃ (x : Nat) (rt : List TRow), x ≤ m ∧ i = .int .i64 x ∧ rt.map TRow.v = vs ∧ (∀ p ∈ rt, p.n ≤ 1000) ∧ (∀ j p, rt[j]? = some p → j < x → p.xs = marked j p.n) ∧
          wx.ownsRow w.heap.size 47 1 (.slice Au m cu) m vs ∧ TRows wx w.heap.size 63 3 rt ∧ Below w.heap.size w wx) (fun i _ => m - (intOf i).toNat)
        case atStart => exact ⟨0, rs, Nat.zero_le _, rfl, hvs, hrn, fun _ _ _ h => absurd h (by omega), hu, hT0, hbel⟩
        case round =>
          clear hu hT0 hbel hvs hrn
          obtain ⟨x, rt, hx, rfl, hvs, hrn, hmk, hu, hT, hbel⟩ := hrel
          have hrl : rt.length = m := by rw [← hvl, ← hvs]; simp
          have Hvs := Lib.hid hvs
          have Hrl := Lib.hid hrl
          clear hvs hrl
          by_cases hxm : x < m
          · obtain ⟨gu, cu', e, hgu, hgl⟩ := own_form hu (by omega)
            cases e
            obtain ⟨p, hp⟩ : ∃ p, rt[x]? = some p := ⟨_, List.getElem?_eq_getElem (by have := Hrl.out; omega)⟩
            have hpn := hrn p (List.mem_of_getElem? hp)
            have hpo := hT.get x p hp
            have hpv : vs[x]? = some p.v := by rw [← Hvs.out, List.getElem?_map, hp]; rfl
            obtain ⟨pv, pn, pxs⟩ := p
            simp only at hpn hpo hpv
            obtain ⟨Ap, cp, rfl⟩ := own_slice hpo
            have cx : wr.cell? ⟨gu, x, none⟩ = some (.slice Ap pn cp) := by
              have := hu.cells (g := gu) rfl x _ hpv
              rwa [add_plain, Nat.zero_add] at this
            have hx0 : (0 : Int) ≤ (x : Int) := by omega
            have hx1 : (x : Int) < (m : Int) := by omega
            have Hp := Lib.hid hp
            have Hpv := Lib.hid hpv
            clear hp hpv
            go_wp2_with (at_builtin; refine wpList_append_keeps rfl _ _ 47 rfl w.heap.size 63 i1 _ 3 32 Try.underlying47 hi1 hy0 hy1 hy2 rfl (by omega) (.slice Ap pn cp) pn pxs (by rfl) ?c0 ⟨wr.heap.size, 0, none⟩ 2 2 [.int .i64 9, .string ⟨#[]⟩, .int .i64 0, .int .i64 9, .string ⟨#[]⟩, .int .i64 0] (by rfl) rfl ?c2 ?c3 ?c4 ?c5 ?c6 ?_)
            case c0 => exact own_below hpo ((Below.refl _ _).alloc (Nat.le_refl _) _)
            case c2 =>
              intro j u hu
              rw [add_plain, Nat.zero_add, World.cell?_alloc_new]
              simpa using hu
            case c3 =>
              intro u hu
              simp at hu
              rcases hu with rfl | rfl | rfl | rfl | rfl | rfl <;> rfl
            case c4 => unfold maxLen; omega
            case c5 => omega
            case c6 => have := hbel.size; simp; omega
            intro v' w3 hnew hold hgrow
            have hba : Below wr.heap.size wr (wr.alloc (.cells #[.int .i64 9, .string ⟨#[]⟩, .int .i64 0, .int .i64 9, .string ⟨#[]⟩, .int .i64 0] 63)) := (Below.refl _ _).alloc (Nat.le_refl _) _
            have hu3 := (own_below hu hba).kept hgrow (own_ne_kind hu hpo (by decide))
            have hT3 := (hT.below hba).write x ⟨.slice Ap pn cp, pn, pxs⟩ ⟨.slice Ap pn cp, pn, pxs⟩ Hp.out rfl hold hgrow
            have hbel3 : Below w.heap.size w w3 := (hbel.alloc hbel.size _).grown hgrow (by have := hbel.size; simp; omega) (fun q e => (hpo.lt q e).1)
            obtain ⟨A', c', rfl⟩ := own_slice hnew
            have cx3 : w3.cell? ⟨gu, x, none⟩ = some (.slice Ap pn cp) := by
              have := hu3.cells (g := gu) rfl x _ Hpv.out
              rwa [add_plain, Nat.zero_add] at this
            have hpl : pxs.length = pn * 3 := hold.1
            have Hpl := Lib.hid hpl
            clear hu hT hbel hpo hold hgrow hba cx hnew hpl
            go_wp2_with fail
            go_loopw [19] (fun j wy => ∃ y : Nat, y ≤ pn ∧ j = .int .i64 y ∧ wy.ownsRow w.heap.size 47 1 (.slice (some ⟨gu, 0, none⟩) m cu) m vs ∧
              TRows wy w.heap.size 63 3 (rt.set x ⟨.slice Ap pn cp, pn, marked x y ++ pxs.drop (y * 3)⟩) ∧ Below w.heap.size w wy) (fun j _ => pn - (intOf j).toNat)
            case atStart => exact ⟨0, Nat.zero_le _, rfl, hu3, hT3, hbel3⟩
            case round =>
              clear hu3 hT3 hbel3 cx3
              obtain ⟨y, hy, rfl, hu, hT, hbel⟩ := hrel
              have cx : wr.cell? ⟨gu, x, none⟩ = some (.slice Ap pn cp) := by
                have := hu.cells (g := gu) rfl x _ Hpv.out
                rwa [add_plain, Nat.zero_add] at this
              have hq : wr.ownsRow w.heap.size 63 3 (.slice Ap pn cp) pn (marked x y ++ pxs.drop (y * 3)) := hT.get x _ (List.getElem?_set_self (by have := Hrl.out; omega))
              by_cases hyp : y < pn
              · obtain ⟨gp, cp', e, hgp, hgpl⟩ := own_form hq (by simpa using by omega)
                cases e
                have hxl : (marked x y ++ pxs.drop (y * 3)).length = pn * 3 := hq.1
                have cell : ∀ j, j < pn * 3 → ∃ a, wr.cell? ⟨gp, j, none⟩ = some a := fun j hj => ⟨_, (World.ownsRow.cellAt hq j hj).trans (List.getElem?_eq_getElem (by omega))⟩
                obtain ⟨a0, c0⟩ := cell (y * 3) (by omega)
                obtain ⟨a1, c1⟩ := cell (y * 3 + 1) (by omega)
                obtain ⟨a2, c2⟩ := cell (y * 3 + 2) (by omega)
                have f0 := World.ownsRow.frozenAt hq (y * 3)
                have f1 := World.ownsRow.frozenAt hq (y * 3 + 1)
                have f2 := World.ownsRow.frozenAt hq (y * 3 + 2)
                have y0 : (0 : Int) ≤ (y : Int) := by omega
                have y1 : (y : Int) < (pn : Int) := by omega
                clear hxl cell
                go_wp2_with fail
                go_roundw
                case rel =>
                  have hq3 := (World.ownsRow.stored (World.ownsRow.stored (World.ownsRow.stored hq (y * 3) (.int .i64 x)).1 (y * 3 + 1) (.string ⟨#[]⟩)).1 (y * 3 + 2) (.int .i64 y)).1
                  rw [marked_set x y pn pxs Hpl.out hyp] at hq3
                  have hgr := grown_set3 wr gp (y * 3) (y * 3 + 1) (y * 3 + 2) (.int .i64 x) (.string ⟨#[]⟩) (.int .i64 y)
                  have hT3 := hT.write x _ ⟨.slice (some ⟨gp, 0, none⟩) pn cp, pn, marked x (y + 1) ++ pxs.drop ((y + 1) * 3)⟩ (List.getElem?_set_self (by have := Hrl.out; omega)) rfl hq3 hgr
                  rw [List.set_set] at hT3
                  exact ⟨y + 1, by omega, by go_num, hu.kept hgr (own_ne_kind hu hq (by decide)), hT3, ((hbel.setCell hgp _).setCell hgp _).setCell hgp _⟩
                case measure => simp [intOf]; omega
              · obtain rfl : y = pn := by omega
                go_wp2_with fail
                go_roundw
                case rel =>
                  have hd : pxs.drop (y * 3) = [] := List.drop_of_length_le (by rw [Hpl.out]; omega)
                  refine ⟨x + 1, rt.set x ⟨.slice Ap y cp, y, marked x y ++ pxs.drop (y * 3)⟩, by omega, by go_num, ?_, ?_, ?_, hu, hT, hbel⟩
                  · rw [List.map_set, Hvs.out]
                    exact set_of_get _ _ _ Hpv.out
                  · intro p hp
                    rcases List.mem_or_eq_of_mem_set hp with hp | rfl
                    · exact hrn p hp
                    · exact hpn
                  · intro j p hp hj
                    by_cases hjx : j = x
                    · subst hjx
                      rw [List.getElem?_set_self (by have := Hrl.out; omega)] at hp
                      obtain rfl := Option.some.inj hp
                      show marked j y ++ pxs.drop (y * 3) = marked j y
                      rw [hd, List.append_nil]
                    · rw [List.getElem?_set_ne (fun e => hjx e.symm)] at hp
                      exact hmk j p hp (by omega)
                case measure => simp [intOf]; omega
          · obtain rfl : x = m := by omega
            generalize wr = wq at hu hT hbel ⊢
            go_wp2_with fail
            go_loopw [20] (fun i wz => ∃ z : Nat, z ≤ x ∧ i = .int .i64 z ∧ Below wq.heap.size wq wz) (fun i _ => x - (intOf i).toNat)
            case atStart => exact ⟨0, Nat.zero_le _, rfl, Below.refl _ _⟩
            case round =>
              obtain ⟨z, hz, rfl, hbz⟩ := hrel
              by_cases hzx : z < x
              · obtain ⟨gu, cu', e, hgu, hgl⟩ := own_form hu (by omega)
                cases e
                obtain ⟨p, hp⟩ : ∃ p, rt[z]? = some p := ⟨_, List.getElem?_eq_getElem (by have := Hrl.out; omega)⟩
                have hpn := hrn p (List.mem_of_getElem? hp)
                have hpo := hT.get z p hp
                have hpm := hmk z p hp hzx
                have hpv : vs[z]? = some p.v := by rw [← Hvs.out, List.getElem?_map, hp]; rfl
                obtain ⟨pv, pn, pxs⟩ := p
                simp only at hpn hpo hpv hpm
                subst hpm
                obtain ⟨Ap, cp, rfl⟩ := own_slice hpo
                have cx0 : wq.cell? ⟨gu, z, none⟩ = some (.slice Ap pn cp) := by
                  have := hu.cells (g := gu) rfl z _ hpv
                  rwa [add_plain, Nat.zero_add] at this
                have cx : wr.cell? ⟨gu, z, none⟩ = some (.slice Ap pn cp) := (hbz.cell (p := ⟨gu, z, none⟩) hgl).trans cx0
                have hz0' : (0 : Int) ≤ (z : Int) := by omega
                have hz1' : (z : Int) < (x : Int) := by omega
                clear hp hpv
                go_wp2_with fail
                go_loopw [21] (fun j wy => ∃ y : Nat, y ≤ pn ∧ j = .int .i64 y ∧ Below wq.heap.size wq wy) (fun j _ => pn - (intOf j).toNat)
                case atStart => exact ⟨0, Nat.zero_le _, rfl, hbz⟩
                case round =>
                  clear hbz cx
                  obtain ⟨y, hy, rfl, hbz⟩ := hrel
                  have cx : wr.cell? ⟨gu, z, none⟩ = some (.slice Ap pn cp) := (hbz.cell (p := ⟨gu, z, none⟩) hgl).trans cx0
                  by_cases hyp : y < pn
                  · obtain ⟨gp, cp', e, hgp, hgpl⟩ := own_form hpo (by omega)
                    cases e
                    obtain ⟨m0, m1, m2⟩ := marked_at z pn y hyp []
                    rw [List.append_nil] at m0 m1 m2
                    have c0 : wr.cell? ⟨gp, y * 3, none⟩ = some (.int .i64 z) := (hbz.cell (p := ⟨gp, y * 3, none⟩) hgpl).trans ((World.ownsRow.cellAt hpo (y * 3) (by omega)).trans m0)
                    have c1 : wr.cell? ⟨gp, y * 3 + 1, none⟩ = some (.string ⟨#[]⟩) := (hbz.cell (p := ⟨gp, y * 3 + 1, none⟩) hgpl).trans ((World.ownsRow.cellAt hpo (y * 3 + 1) (by omega)).trans m1)
                    have c2 : wr.cell? ⟨gp, y * 3 + 2, none⟩ = some (.int .i64 y) := (hbz.cell (p := ⟨gp, y * 3 + 2, none⟩) hgpl).trans ((World.ownsRow.cellAt hpo (y * 3 + 2) (by omega)).trans m2)
                    have y0 : (0 : Int) ≤ (y : Int) := by omega
                    have y1 : (y : Int) < (pn : Int) := by omega
                    clear m0 m1 m2
                    go_wp2_with fail
                    go_roundw
                    case rel => exact ⟨y + 1, by omega, by go_num, hbz⟩
                    case measure => simp [intOf]; omega
                  · obtain rfl : y = pn := by omega
                    go_wp2_with fail
                    go_roundw
                    case rel => exact ⟨z + 1, by omega, by go_num, hbz⟩
                    case measure => simp [intOf]; omega
              · go_wp2_with fail
                refine (Hend.out _ (Below.then_ hbel hbel.size hbz)).mono ?_
                rintro e w5 ⟨rfl, hb5⟩
                go_wp2
                go_ret
                exact ⟨rfl, hb5⟩
end Go.Proofs.Ytdnamidhbloaoaa.Mark
