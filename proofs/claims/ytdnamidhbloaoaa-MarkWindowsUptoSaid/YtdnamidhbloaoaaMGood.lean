/-
  What mark's Open does with right views and a time that may be: the cells of the open windows, and whether the time is late.
-/
import Derived.Test.YtdnamidhbloaoaaClone
set_option linter.unusedVariables false
namespace Go.Proofs.Ytdnamidhbloaoaa.Mark
open Go.RowKit Go.Proofs.Ytdnamidhbloaoaa.K Go.Proofs.Ytdnamidhbloaoaa.Math2

/-- 260 cells, all zero. -/
@[irreducible] def zeros : Array Value := madeCells #[.int .i64 0, .string ⟨#[]⟩, .int .i64 0] (260 * 3)
theorem zeros_size : zeros.size = 780 := by unfold zeros; rw [size_madeCells]
theorem make_n (n : Nat) (hn : n ≤ 1000) (W : World) : (Instr.makeSlice 47 (.int .i64 n) (.int .i64 n)).run Try.prog W = .ok (.slice (some ⟨W.heap.size, 0, none⟩) n n) (W.alloc (.cells (madeCells #[.int .i64 0, .string ⟨#[]⟩, .int .i64 0] (n * 3)) 63)) := by
  obtain ⟨i0, hi, hz0, hz1, hz2⟩ := info_parts info63
  have h := run_make_rowN (P := Try.prog) 47 63 i0 _ Try.underlying47 hi hz0 .i64 .i64 n n (by omega) (by rw [hz2]; omega) (by omega) W
  rw [hz1] at h
  exact h
theorem make260 (W : World) : (Instr.makeSlice 47 (.int .i64 260) (.int .i64 260)).run Try.prog W = .ok (.slice (some ⟨W.heap.size, 0, none⟩) 260 260) (W.alloc (.cells zeros 63)) := by
  unfold zeros
  exact make_n 260 (by omega) W

/-- Block b: the cells l first, then room up to 260. -/
def Content (w : World) (b : Nat) (l : List (Nat × Int)) : Prop := ∃ rest : List Value, Blk w b 63 (cellVs l ++ rest).toArray ∧ 3 * l.length + rest.length = 780

theorem Content.new' (w : World) (z : Array Value) (hz : z.size = 780) : Content (w.alloc (.cells z 63)) w.heap.size [] :=
  ⟨z.toList, by have := Blk.new w 63 z; simpa [cellVs] using this, by rw [List.length_nil, Array.length_toList, hz]⟩
theorem Content.new (w : World) : Content (w.alloc (.cells zeros 63)) w.heap.size [] := Content.new' w zeros zeros_size
theorem Content.below {w w' : World} {b : Nat} {l : List (Nat × Int)} (h : Content w b l) (hb : Below w.heap.size w w') : Content w' b l := by
  obtain ⟨r, h1, h2⟩ := h; exact ⟨r, h1.below' hb, h2⟩
theorem Content.cells {w : World} {b : Nat} {l : List (Nat × Int)} (h : Content w b l) (j : Nat) (u : Value) (hj : (cellVs l)[j]? = some u) : w.cell? ⟨b, j, none⟩ = some u := by
  obtain ⟨r, h1, h2⟩ := h
  rw [h1.cell j]
  have hlt : j < (cellVs l).length := (List.getElem?_eq_some_iff.1 hj).1
  rw [List.getElem?_toArray, List.getElem?_append_left hlt, hj]
theorem Content.lt {w : World} {b : Nat} {l : List (Nat × Int)} (h : Content w b l) : b < w.heap.size := by
  obtain ⟨r, h1, h2⟩ := h; exact h1.lt
theorem Content.room {w : World} {b : Nat} {l : List (Nat × Int)} (h : Content w b l) (hl : l.length < 260) (q : Nat) (hq : q < 3) : ∃ u, w.cell? ⟨b, l.length * 3 + q, none⟩ = some u := by
  obtain ⟨r, h1, h2⟩ := h
  rw [h1.cell]
  have hlen : (cellVs l ++ r).toArray.size = 780 := by simp [cellVs_length]; omega
  exact ⟨_, Array.getElem?_eq_getElem (by rw [hlen]; omega)⟩
theorem Content.free {w : World} {b : Nat} {l : List (Nat × Int)} (h : Content w b l) (q : Nat) : w.frozen? ⟨b, q, none⟩ = false := by
  obtain ⟨r, h1, h2⟩ := h; exact h1.frozen q
theorem three (r : List Value) (h : 3 ≤ r.length) : ∃ x y z r', r = x :: y :: z :: r' := by
  cases r with
  | nil => simp at h
  | cons x r => cases r with
    | nil => simp at h
    | cons y r => cases r with
      | nil => simp at h
      | cons z r => exact ⟨x, y, z, r, rfl⟩
theorem Content.add {w : World} {b : Nat} {l : List (Nat × Int)} (h : Content w b l) (hl : l.length < 260) (c : Nat × Int) :
    Content (((w.setCell ⟨b, l.length * 3, none⟩ (.int .i64 c.1)).setCell ⟨b, l.length * 3 + 1, none⟩ (.string ⟨#[]⟩)).setCell ⟨b, l.length * 3 + 2, none⟩ (.int .i64 c.2)) b (l ++ [c]) := by
  obtain ⟨r, h1, h2⟩ := h
  have h3 := ((h1.set_ (l.length * 3) (.int .i64 c.1)).set_ (l.length * 3 + 1) (.string ⟨#[]⟩)).set_ (l.length * 3 + 2) (.int .i64 c.2)
  obtain ⟨x, y, z, r', rfl⟩ := three r (by omega)
  refine ⟨r', ?_, by simp only [List.length_cons, List.length_append, List.length_nil] at h2 ⊢; omega⟩
  have hl3 := cellVs_length l
  have e : (((cellVs l ++ x :: y :: z :: r').toArray.setIfInBounds (l.length * 3) (.int .i64 c.1)).setIfInBounds (l.length * 3 + 1) (.string ⟨#[]⟩)).setIfInBounds (l.length * 3 + 2) (.int .i64 c.2) = (cellVs (l ++ [c]) ++ r').toArray := by
    simp only [List.setIfInBounds_toArray]
    congr 1
    rw [show l.length * 3 = (cellVs l).length by omega, cellVs_append]
    simp [cellVs, cellV]
  rw [e] at h3
  exact h3

theorem opens_le {f : Nat → Nat → Int} {i : Nat} (h : RightV f i) (t m : Int) : (opens f t m i).length ≤ 64 := by
  have := (cnt_le h t).2
  have h2 := List.length_filter_le (fun a => !cl (f i 0) (f i 2) m a) (starts (f i 0) (f i 1) t)
  rw [starts_length] at h2
  unfold opens
  omega
theorem cellsOf_le {f : Nat → Nat → Int} {n : Nat} (h : AllRight f n) (t m : Int) : (cellsOf f t m n).length ≤ 64 * n := by
  induction n with
  | zero => simp [cellsOf]
  | succ n ih =>
    rw [cellsOf_succ, List.length_append, List.length_map]
    have := ih fun i hi => h i (by omega)
    have := opens_le (h n (by omega)) t m
    omega
theorem winds_le {f : Nat → Nat → Int} {n : Nat} (h : AllRight f n) (t : Int) : winds f t n ≤ 64 * n := by
  induction n with
  | zero => simp [winds]
  | succ n ih =>
    rw [winds_succ, starts_length]
    have := ih fun i hi => h i (by omega)
    have := (cnt_le (h n (by omega)) t).2
    omega

theorem keep3 {w w' : World} {g : Nat} {x y z : Value} (h : Blk w g 58 #[x, y, z]) (hb : Below w.drew.heap.size w.drew w') : w'.cell? ⟨g, 0, none⟩ = some x ∧ w'.cell? ⟨g, 1, none⟩ = some y ∧ w'.cell? ⟨g, 2, none⟩ = some z := by
  have h1 := h.drew.below' hb
  have q0 := h1.cell 0
  have q1 := h1.cell 1
  have q2 := h1.cell 2
  simp only [List.getElem?_toArray, List.getElem?_cons_zero, List.getElem?_cons_succ] at q0 q1 q2
  exact ⟨q0, q1, q2⟩

theorem snoc_take (base : List (Nat × Int)) (os : List Int) (j x : Nat) (h : x < os.length) : (base ++ (os.take x).map fun a => (j, a)) ++ [(j, nth os x)] = base ++ (os.take (x + 1)).map fun a => (j, a) := by
  rw [List.take_succ_eq_append_getElem h, nth_eq os x h, List.map_append, List.map_cons, List.map_nil, List.append_assoc]
theorem own_far {w : World} {base n c : Nat} {A : Option Addr} {xs : List Value} {b : Nat} {l : List (Nat × Int)} (h : w.ownsRow base 2 1 (.slice A n c) n xs) (hC : Content w b l) : ∀ k, (Value.slice A n c).ownBlock = some k → k ∉ [b] := by
  intro k hk
  obtain ⟨r, hB, _⟩ := hC
  rcases h.2 with ⟨e, _⟩ | ⟨g, cap, cur, e, _, hh, _⟩
  · rw [e] at hk; simp [Value.ownBlock] at hk
  · rw [e] at hk
    simp [Value.ownBlock] at hk
    subst hk
    have : Blk w g 2 cur := hh
    simpa using this.ne_ hB (by decide)

set_option maxRecDepth 100000 in
set_option maxHeartbeats 1600000 in
theorem mopen_good (w : World) (g b : Nat) (L : List Int) (hM : Marks w g b L) (hL1 : 1 ≤ L.length) (hL2 : L.length ≤ 1000000) (t : Int) (A : Option Addr) (nv cv : Nat) (f : Nat → Nat → Int) (hV : Views w A nv f) (h4 : nv ≤ 4) (hgood : AllRight f nv) (ht : Tm t) :
    Calls Try.prog 23 #[.pointer (some ⟨g, 0, none⟩), .int .i64 t, .slice A nv cv] w fun e w' =>
      ∃ v, e = .returned (.tuple #[v, .bool (decide (winds f t nv > 0) && decide ((cellsOf f t (least L) nv).length = 0)), .int .i64 0]) ∧ w'.ownsRow w.heap.size 63 3 v (cellsOf f t (least L) nv).length (cellVs (cellsOf f t (least L) nv)) ∧ Below w.heap.size w w' := by
  have HG := Lib.hid hgood
  clear hgood
  have t0 := ht.lo
  have t1 := ht.hi
  have hmk := make260
  go_enter Try.func23, Try.ntmps23
  go_wp2_with fail
  go_loopw [28] (fun i wr => ∃ k : Nat, k ≤ nv ∧ i = .int .i64 k ∧ Below w.heap.size w wr) (fun i _ => nv - (intOf i).toNat)
  case atStart => exact ⟨0, Nat.zero_le _, rfl, Below.refl _ _⟩
  case round =>
    obtain ⟨k, hk, rfl, hbel⟩ := hrel
    by_cases hkn : k < nv
    · obtain ⟨bv, ov, rfl, hbv, hcv⟩ := hV.at_ (by omega)
      obtain ⟨e0, e1, e2⟩ := hcv k hkn
      clear hcv
      have d0 := (hbel.cell (p := ⟨bv, ov + k * 3, none⟩) hbv).trans e0
      have d1 := (hbel.cell (p := ⟨bv, ov + k * 3 + 1, none⟩) hbv).trans e1
      have d2 := (hbel.cell (p := ⟨bv, ov + k * 3 + 2, none⟩) hbv).trans e2
      clear e0 e1 e2
      go_wp2_with fail
      refine (check_ok (show Right (f k 0) (f k 1) (f k 2) from HG.out k hkn) _).mono ?_
      rintro e w1 ⟨rfl, hb1⟩
      have hbel1 : Below w.heap.size w w1 := Below.then_ ((hbel.alloc hbel.size _)) (by have := hbel.size; simp; omega) hb1
      clear d0 d1 d2
      go_wp2
      go_roundw
      case rel => exact ⟨k + 1, by omega, by go_num, hbel1⟩
      case measure => simp [intOf]; omega
    · go_wp2_with fail
      obtain ⟨ba, hba⟩ : ∃ ba, ba = wr.heap.size := ⟨_, rfl⟩
      have hC0 : Content (wr.alloc (.cells zeros 63)) ba [] := by rw [hba]; exact Content.new wr
      have hwba : w.heap.size ≤ ba := by have := hbel.size; omega
      simp only [← hba]
      have hbel0 : Below w.heap.size w (wr.alloc (.cells zeros 63)) := hbel.alloc hbel.size _
      generalize wr.alloc (.cells zeros 63) = w0 at hC0 hbel0 ⊢
      clear hba hbel hmk
      go_loopw [13, 14, 47] (fun n x i wx => ∃ j : Nat, j ≤ nv ∧ i = .int .i64 j ∧ n = .int .i64 (cellsOf f t (least L) j).length ∧ x = .int .i64 (winds f t j) ∧ Content wx ba (cellsOf f t (least L) j) ∧ Below w.heap.size w wx) (fun _ _ i _ => nv - (intOf i).toNat)
      case atStart => exact ⟨0, Nat.zero_le _, rfl, rfl, rfl, hC0, hbel0⟩
      case round =>
        clear hC0 hbel0
        obtain ⟨j, hj, rfl, rfl, rfl, hC, hbel⟩ := hrel
        have hcl := cellsOf_le (f := f) (n := j) (fun i hi => HG.out i (by omega)) t (least L)
        have hwl := winds_le (f := f) (n := j) (fun i hi => HG.out i (by omega)) t
        by_cases hjn : j < nv
        · obtain ⟨bv, ov, rfl, hbv, hcv⟩ := hV.at_ (by omega)
          obtain ⟨e0, e1, e2⟩ := hcv j hjn
          clear hcv
          have hR : Right (f j 0) (f j 1) (f j 2) := HG.out j hjn
          have d0 := (hbel.cell (p := ⟨bv, ov + j * 3, none⟩) hbv).trans e0
          have d1 := (hbel.cell (p := ⟨bv, ov + j * 3 + 1, none⟩) hbv).trans e1
          have d2 := (hbel.cell (p := ⟨bv, ov + j * 3 + 2, none⟩) hbv).trans e2
          clear e0 e1 e2
          go_wp2_with fail
          refine (starts_c hR ht _).mono ?_
          rintro e w1 ⟨v1, rfl, hown1, hb1⟩
          have hC1 : Content w1 ba (cellsOf f t (least L) j) := by
            obtain ⟨r, h1, h2⟩ := hC
            exact ⟨r, (h1.alloc _).below' hb1, h2⟩
          have hbel1 : Below w.heap.size w w1 := Below.then_ ((hbel.alloc hbel.size _)) (by have := hbel.size; simp; omega) hb1
          have hBox : Blk w1 wr.heap.size 58 #[.int .i64 (f j 0), .int .i64 (f j 1), .int .i64 (f j 2)] := (Blk.new wr 58 #[.int .i64 (f j 0), .int .i64 (f j 1), .int .i64 (f j 2)]).below' hb1
          have q0 := hBox.cell 0
          have q1 := hBox.cell 1
          have q2 := hBox.cell 2
          simp only [List.getElem?_toArray, List.getElem?_cons_zero, List.getElem?_cons_succ] at q0 q1 q2
          obtain ⟨A1, c1, rfl⟩ := own_slice hown1
          have hM1 := hM.only (Only.of_below (fs := []) hbel1) (by simp) (by simp)
          have hwl1 := winds_le (f := f) (n := j + 1) (fun i hi => HG.out i (by omega)) t
          have hws := winds_succ f t j
          have hwx : w.heap.size ≤ w1.heap.size := hbel1.size
          have HWS := Lib.hid hws
          have hsl : (winds f t j : Int) + ((starts (f j 0) (f j 1) t).length : Int) ≤ 1000 := by omega
          clear hws d0 d1 d2 hown1 hC hbel hb1
          go_wp2_with fail
          go_region_held3 (fun w' => w'.cell? ⟨wr.heap.size, 0, none⟩ = some (.int .i64 (f j 0)) ∧ w'.cell? ⟨wr.heap.size, 1, none⟩ = some (.int .i64 (f j 1)) ∧ w'.cell? ⟨wr.heap.size, 2, none⟩ = some (.int .i64 (f j 2))) (first | go_keep | exact keep3 hBox ‹Below w1.drew.heap.size w1.drew _›)
            (first | (go_at_call 15; refine (least_any w1.drew g b L ⟨hM1.str, hM1.row⟩ hL1 hL2).mono ?_; rintro e w5 ⟨rfl, rfl⟩) | (go_at_call 37; refine (open_c (least L) hR ht w1.drew).mono ?_; rintro e w2 ⟨v2, rfl, hown2, hb2⟩))
          have hown3 : w2.ownsRow 0 2 1 v2 (opens f t (least L) j).length (nums .i64 (opens f t (least L) j)) := own_mono hown2 (Nat.zero_le _)
          have hb2' : Below w1.heap.size w1 w2 := ⟨hb2.os, hb2.tape, hb2.output, hb2.size, hb2.block⟩
          have hC2 : Content w2 ba (cellsOf f t (least L) j) := hC1.below hb2'
          have hbel2 : Below w.heap.size w w2 := Below.then_ hbel1 hbel1.size hb2'
          have HCS := Lib.hid (cellsOf_succ f t (least L) j)
          have hol := opens_le (f := f) (HG.out j hjn) t (least L)
          obtain ⟨A2, c2, rfl⟩ := own_slice hown3
          clear hown2 hb2 hb2' hC1 hbel1 hBox q0 q1 q2 hM1
          generalize hos : opens f t (least L) j = os at hown3 HCS hol
          clear hos
          generalize hbase : cellsOf f t (least L) j = base at hC2 hcl HCS ⊢
          clear hbase
          have hroom : base.length + os.length < 260 ∨ 260 ≤ base.length + os.length := by omega
          have hroom1 : base.length + os.length ≤ 256 := by omega
          clear hroom
          go_wp2_with fail
          go_loopw [13, 72] (fun n i wz => ∃ x : Nat, x ≤ os.length ∧ i = .int .i64 x ∧ n = .int .i64 ((base.length : Int) + x) ∧ Content wz ba (base ++ (os.take x).map fun a => (j, a)) ∧ wz.ownsRow 0 2 1 (.slice A2 os.length c2) os.length (nums .i64 os) ∧ Below w.heap.size w wz) (fun _ i _ => os.length - (intOf i).toNat)
          case atStart => exact ⟨0, Nat.zero_le _, rfl, by simp, by simpa using hC2, hown3, hbel2⟩
          case round =>
            clear hC2 hown3 hbel2
            obtain ⟨x, hx, rfl, rfl, hC, hown, hbel⟩ := hrel
            by_cases hxo : x < os.length
            · obtain ⟨g2, cap2, e2, _, _⟩ := own_form hown (by omega)
              cases e2
              have cx := hown.cellAt x (by omega)
              rw [nums_get _ _ _ hxo] at cx
              have hlx : (base ++ (os.take x).map fun a => (j, a)).length = base.length + x := by simp; omega
              have hlx2 : base.length + x < 260 := by omega
              obtain ⟨y0, r0⟩ := hC.room (by omega) 0 (by omega)
              obtain ⟨y1, r1⟩ := hC.room (by omega) 1 (by omega)
              obtain ⟨y2, r2⟩ := hC.room (by omega) 2 (by omega)
              have z0 := hC.free ((base.length + x) * 3)
              have z1 := hC.free ((base.length + x) * 3 + 1)
              have z2 := hC.free ((base.length + x) * 3 + 2)
              rw [hlx] at r0 r1 r2
              rw [Nat.add_zero] at r0
              have hadd := hC.add (by omega) (j, nth os x)
              rw [hlx, snoc_take base os j x hxo] at hadd
              have hne : ∀ k, (Value.slice (some ⟨g2, 0, none⟩) os.length c2).ownBlock = some k → k ∉ [ba] := own_far hown hC
              have hO : Only [ba] wr (((wr.setCell ⟨ba, (base.length + x) * 3, none⟩ (.int .i64 j)).setCell ⟨ba, (base.length + x) * 3 + 1, none⟩ (.string ⟨#[]⟩)).setCell ⟨ba, (base.length + x) * 3 + 2, none⟩ (.int .i64 (nth os x))) :=
                (((Only.refl _ _).setCell (.inl (by simp)) _).setCell (.inl (by simp)) _).setCell (.inl (by simp)) _
              have Hadd := Lib.hid hadd
              have HO := Lib.hid hO
              have Hne := Lib.hid hne
              clear hadd hO hne hC
              go_wp2_with fail
              go_roundw
              case rel => exact ⟨x + 1, by omega, by go_num, by go_num, Hadd.out, own_only hown HO.out Hne.out, Below.only_ hbel HO.out hbel.size (by simpa using hwba)⟩
              case measure => simp [intOf]; omega
            · obtain rfl : x = os.length := by omega
              rw [List.take_length] at hC
              rw [← HCS.out] at hC
              have hlen3 : ((cellsOf f t (least L) (j + 1)).length : Int) = (base.length : Int) + (os.length : Int) := by rw [HCS.out]; simp
              have H3 := Lib.hid hlen3
              have H4 : Hid ((winds f t (j + 1) : Int) = (winds f t j : Int) + ((starts (f j 0) (f j 1) t).length : Int)) := by show (winds f t (j + 1) : Int) = _; rw [HWS.out]; simp
              clear hlen3 hown
              go_wp2_with fail
              go_roundw
              case rel => exact ⟨j + 1, by omega, by go_num, by rw [H3.out], by rw [H4.out], hC, hbel⟩
              case measure => simp [intOf]; omega
        · obtain rfl : j = nv := by omega
          have hl3 : (cellsOf f t (least L) j).length ≤ 256 := by omega
          have hCl := clone_any wr ba (cellsOf f t (least L) j) _ rfl (by omega) (fun i u hu => hC.cells i u hu) hC.lt
          generalize hcs : cellsOf f t (least L) j = cs at hC hcl hl3 hCl ⊢
          have HCl := Lib.hid hCl
          have HCs := Lib.hid hcs
          clear hcs hCl hC
          by_cases hw : 0 < winds f t j
          · have hw' : (0 : Int) < (winds f t j : Int) := by omega
            by_cases hz : cs.length = 0
            · have hz' : ((cs.length : Int) == 0) = true := beq_iff_eq.2 (by omega)
              have Hz := Lib.hid hz
              clear hz
              go_wp2_with fail
              refine (HCl.out).mono ?_
              rintro e w3 ⟨v3, rfl, hown3, hb3⟩
              go_wp2
              go_ret3
              rw [HCs.out]
              exact ⟨v3, by simp [hw, Hz.out], own_mono hown3 hbel.size, Below.then_ hbel hbel.size hb3⟩
            · have hz' : ((cs.length : Int) == 0) = false := beq_eq_false_iff_ne.2 (by omega)
              have Hz := Lib.hid hz
              clear hz
              go_wp2_with fail
              refine (HCl.out).mono ?_
              rintro e w3 ⟨v3, rfl, hown3, hb3⟩
              go_wp2
              go_ret3
              rw [HCs.out]
              exact ⟨v3, by simp [Hz.out], own_mono hown3 hbel.size, Below.then_ hbel hbel.size hb3⟩
          · have hw' : ¬ (0 : Int) < (winds f t j : Int) := by omega
            go_wp2_with fail
            refine (HCl.out).mono ?_
            rintro e w3 ⟨v3, rfl, hown3, hb3⟩
            go_wp2
            go_ret3
            rw [HCs.out]
            exact ⟨v3, by simp [hw], own_mono hown3 hbel.size, Below.then_ hbel hbel.size hb3⟩
end Go.Proofs.Ytdnamidhbloaoaa.Mark
