/-
  The call of the law MarkOrder.
-/
import Derived.Test.YtdnamidhbloaoaaSame
set_option linter.unusedVariables false
namespace Go.Proofs.Ytdnamidhbloaoaa.Mark
open Go.RowKit Go.Proofs.Ytdnamidhbloaoaa.K
attribute [local go_sem ↓] Go.wp_at_zero Go.wp_at_succ

theorem stepL_ok (f : Nat → Nat → Int) (n : Nat) (L : List Int) (i q : Nat) (hq : wn (f i 0) n = q) : stepL f n L i = riseL L q (Int.tmod (f i 1) 1152921504606846976) := by
  unfold stepL; rw [hq]

theorem oC_le {f : Nat → Nat → Int} {t m : Int} {n : Nat} : (oC f t m n).length ≤ 1000 := by
  unfold oC
  by_cases h : oE f t n = 0
  · rw [if_pos h]
    unfold oE at h
    by_cases h4 : 4 < n
    · rw [if_pos h4] at h; omega
    · rw [if_neg h4] at h
      by_cases hr : ∀ i, i < n → RightV f i
      · have := cellsOf_le (f := f) (n := n) hr t m
        omega
      · rw [if_neg hr] at h; omega
  · rw [if_neg h]; simp

set_option maxRecDepth 100000 in
set_option maxHeartbeats 1600000 in
theorem order_walk (w : World) (s : Int) (ws : (Lit.int .i64 s).wf = true) (v1 : Value) (o1 : ∃ (A : Option Addr) (n c : Nat) (f : Nat → Nat → Int), v1 = .slice A n c ∧ n ≤ c ∧ Flat w 2 A n f ∧ n * 16 ≤ 140737488351232)
    (tu : Int) (wt : (Lit.int .i64 tu).wf = true)
    (v2 : Value) (o2 : ∃ (A : Option Addr) (n c : Nat) (f : Nat → Nat → Int), v2 = .slice A n c ∧ n ≤ c ∧ Flat w 3 A n f ∧ n * 24 ≤ 140737488351232)
    (v3 : Value) (o3 : ∃ (A : Option Addr) (n c : Nat) (f : Nat → Int), v3 = .slice A n c ∧ n ≤ c ∧ Flat1 w A n f ∧ n * 8 ≤ 140737488351232) :
    Calls Try.prog 7 #[.int .i64 s, v1, .int .i64 tu, v2, v3] w fun e w' => e = .returned (.bool true) ∧ Below w.heap.size w w' := by
  obtain ⟨A, nl, cl, f, rfl, hc, hA, hnl⟩ := o1
  obtain ⟨V, nv, cv, vf, rfl, hcv, hVF, hnv⟩ := o2
  obtain ⟨T, nt, ct, tf, rfl, hct, hT, hnt⟩ := o3
  have hV : Views w V nv vf := Views.of_flat hVF
  clear hVF hc hct
  have hend : ∀ W, Below w.heap.size w W → Calls Try.prog 19 #[] W fun e w' => e = .returned (.bool true) ∧ Below w.heap.size w w' := fun W h => (head_any W).mono fun _ _ ⟨he, hb⟩ => ⟨he, Below.then_ h h.size hb⟩
  have Hend := Lib.hid hend
  clear hend
  have hwn := wn_bounds s 8 (by omega)
  go_enter Try.func7, Try.ntmps7
  go_wp2_with fail
  refine (within_any s 8 (by omega) (by omega) _).mono ?_
  rintro e w1 ⟨rfl, rfl⟩
  obtain ⟨n0, hn0⟩ := Int.eq_ofNat_of_zero_le hwn.1
  rw [hn0] at hwn ⊢
  clear hn0
  obtain ⟨n, hN⟩ : ∃ n : Nat, (1 + (n0 : Int)) = n := ⟨n0 + 1, by omega⟩
  have hn8 : n ≤ 8 := by omega
  have hn1 : 1 ≤ n := by omega
  clear hwn
  by_cases hlow : nl < 1
  · go_wp2_with fail
    refine (Hend.out _ (Below.refl _ _)).mono ?_
    rintro e w5 ⟨rfl, hb5⟩
    go_wp2
    go_ret
    exact ⟨rfl, hb5⟩
  by_cases hhigh : 200 < nl
  · go_wp2_with fail
    refine (Hend.out _ (Below.refl _ _)).mono ?_
    rintro e w5 ⟨rfl, hb5⟩
    go_wp2
    go_ret
    exact ⟨rfl, hb5⟩
  have hl1 : 1 ≤ nl := by omega
  have hl2 : nl ≤ 200 := by omega
  clear hlow hhigh
  go_wp2_with fail
  clear hN
  refine (new_good n _ hn1 hn8).mono ?_
  rintro e w1 ⟨g, b, rfl, hM, hb1, hg, hbb⟩
  go_wp2_with fail
  refine (new_good n _ hn1 hn8).mono ?_
  rintro e w2 ⟨g', b', rfl, hM', hb2, hg', hbb'⟩
  have hMb : Marks w2 g b (List.replicate n (-4611686018427387904)) := hM.only (Only.of_below (fs := []) hb2) (by simp) (by simp)
  have lg := hM.str.lt
  have lb := hM.row.lt
  have sz1 := hb1.size
  have hbel2 : Below w.heap.size w w2 := Below.then_ hb1 sz1 hb2
  have n1 : g' ≠ b := by omega
  have n2 : b' ≠ b := by omega
  have n3 : g ≠ b' := by omega
  have fg' : w.heap.size ≤ g' := by omega
  have fb' : w.heap.size ≤ b' := by omega
  clear hM hb1 hb2 lg lb sz1 hg' hbb'
  obtain ⟨ba, oa, rfl, hba, hca⟩ := hA.at_ (by omega)
  have HA := Lib.hid hca
  clear hca hA
  generalize hL0 : List.replicate n (-4611686018427387904) = L0 at hMb hM'
  have hlen0 : L0.length = n := by rw [← hL0]; simp
  clear hL0
  go_wp2_with fail
  go_loopw [16] (fun i wr => ∃ k : Nat, k ≤ nl ∧ i = .int .i64 k ∧ Marks wr g b (runL f n L0 k) ∧ Marks wr g' b' L0 ∧ Below w.heap.size w wr) (fun i _ => nl - (intOf i).toNat)
  case atStart => exact ⟨0, Nat.zero_le _, rfl, hMb, hM', hbel2⟩
  case round =>
    clear hMb hM' hbel2
    obtain ⟨k, hk, rfl, hM, hM', hbel⟩ := hrel
    have hlen : (runL f n L0 k).length = n := by rw [runL_length, hlen0]
    by_cases hlt : k < nl
    · have e0 := HA.out k hlt 0 (by omega)
      have e1 := HA.out k hlt 1 (by omega)
      rw [Nat.add_zero] at e0
      rw [← Nat.add_assoc] at e1
      have d0 := (hbel.cell (p := ⟨ba, oa + k * 2, none⟩) hba).trans e0
      have d1 := (hbel.cell (p := ⟨ba, oa + k * 2 + 1, none⟩) hba).trans e1
      have i0 : (0 : Int) ≤ (k : Int) := by omega
      have i1 : (k : Int) < (nl : Int) := by omega
      have tb := tmod_bounds (f k 1) 1152921504606846976 (by omega)
      have hs := runL_succ f n L0 k
      unfold stepL at hs
      generalize runL f n L0 k = L at hM hlen hs
      go_wp2_with fail
      go_region_held3 (fun w' => w'.cell? ⟨ba, oa + k * 2, none⟩ = some (.int .i64 (f k 0)) ∧ w'.cell? ⟨ba, oa + k * 2 + 1, none⟩ = some (.int .i64 (f k 1))) (first | go_keep | exact keep2 hba hbel.size hbb ‹Only [b] wr.drew _› d0 d1)
        ((first | (go_at_call 20; refine (within_any (f k 0) n (by omega) (by omega) _).mono ?_; rintro e w3 ⟨rfl, rfl⟩) | (go_at_call 13; refine (rise_any wr.drew g b L (wn (f k 0) n) (Int.tmod (f k 1) 1152921504606846976) ⟨hM.str, hM.row⟩ (by omega) (by omega)).mono ?_; rintro e w3 ⟨rfl, hM3, ho3⟩)))
      have hM4 : Marks w3 g' b' L0 := (Marks.mk (w := wr.drew) hM'.str hM'.row).only ho3 (by simpa using n1) (by simpa using n2)
      have hbel3 : Below w.heap.size w w3 := Below.only_ (w := wr.drew) hbel.drew ho3 hbel.size (by simpa using hbb)
      rw [← hs] at hM3
      clear hM hM' hbel d0 d1 ho3 hs e0 e1
      go_wp2
      go_roundw
      case rel => exact ⟨k + 1, by omega, by go_num, hM3, hM4, hbel3⟩
      case measure => simp [intOf]; omega
    · obtain rfl : k = nl := by omega
      have ht := wn_bounds tu k (by omega)
      go_wp2_with fail
      refine (within_any tu k (by omega) (by omega) _).mono ?_
      rintro e w3 ⟨rfl, rfl⟩
      obtain ⟨t, hT0⟩ := Int.eq_ofNat_of_zero_le ht.1
      rw [hT0] at ht ⊢
      clear hT0
      have htk : t < k := by omega
      clear ht
      have hrt := Lib.hid (run_turned f n k t L0 htk)
      generalize hLe : runL f n L0 k = Le at hM hlen hrt
      clear hLe
      go_wp2_with fail
      go_loopw [17] (fun i wx => ∃ x : Nat, x ≤ k ∧ i = .int .i64 x ∧ Marks wx g b Le ∧ Marks wx g' b' (runT f n k t L0 x) ∧ Below w.heap.size w wx) (fun i _ => k - (intOf i).toNat)
      case atStart => exact ⟨0, Nat.zero_le _, rfl, hM, hM', hbel⟩
      case round =>
        clear hM hM' hbel
        obtain ⟨x, hx, rfl, hM, hM', hbel⟩ := hrel
        by_cases hxk : x < k
        · have hpos : (x + t) % k < k := Nat.mod_lt _ (by omega)
          have e0 := HA.out ((x + t) % k) hpos 0 (by omega)
          have e1 := HA.out ((x + t) % k) hpos 1 (by omega)
          rw [Nat.add_zero] at e0
          rw [← Nat.add_assoc] at e1
          have d0 := (hbel.cell (p := ⟨ba, oa + ((x + t) % k) * 2, none⟩) hba).trans e0
          have d1 := (hbel.cell (p := ⟨ba, oa + ((x + t) % k) * 2 + 1, none⟩) hba).trans e1
          have m0 : (0 : Int) ≤ ((x : Int) + (t : Int)) % (k : Int) := Int.emod_nonneg _ (by omega)
          have m1 : ((x : Int) + (t : Int)) % (k : Int) < (k : Int) := Int.emod_lt_of_pos _ (by omega)
          have m2 : (((x : Int) + (t : Int)) % (k : Int)).toNat = (x + t) % k := by
            rw [← Int.natCast_add, ← Int.natCast_emod, Int.toNat_natCast]
          clear e0 e1
          go_upto_region 18 with fail
          have hb6 := Blk.new wr 34 #[.int .i64 (f ((x + t) % k) 0), .int .i64 (f ((x + t) % k) 1)]
          have d0' := hb6.cell 0
          have d1' := hb6.cell 1
          have hM6 : Marks _ g b Le := ⟨hM.str.alloc (.cells #[.int .i64 (f ((x + t) % k) 0), .int .i64 (f ((x + t) % k) 1)] 34), hM.row.alloc _⟩
          have hM6' : Marks _ g' b' (runT f n k t L0 x) := ⟨hM'.str.alloc (.cells #[.int .i64 (f ((x + t) % k) 0), .int .i64 (f ((x + t) % k) 1)] 34), hM'.row.alloc _⟩
          have hbel6 := hbel.alloc hbel.size (.cells #[.int .i64 (f ((x + t) % k) 0), .int .i64 (f ((x + t) % k) 1)] 34)
          have hz1 : wr.heap.size ≠ b' := by have := hM'.row.lt; omega
          have hlen' : (runT f n k t L0 x).length = n := by rw [runT_length, hlen0]
          have hs := runT_succ f n k t L0 x
          unfold stepL at hs
          have tb := tmod_bounds (f ((x + t) % k) 1) 1152921504606846976 (by omega)
          generalize (x + t) % k = y at *
          generalize runT f n k t L0 x = L at *
          generalize wr.alloc (.cells #[.int .i64 (f y 0), .int .i64 (f y 1)] 34) = w6 at *
          generalize wr.heap.size = z at *
          clear hM hM' hbel d0 d1 hb6 m0 m1 m2
          have k0 : ∀ w', Only [b'] w6.drew w' → w'.cell? ⟨z, 0, none⟩ = some (.int .i64 (f y 0)) ∧ w'.cell? ⟨z, 1, none⟩ = some (.int .i64 (f y 1)) := by
            intro w' ho
            have hk : w'.heap[z]? = w6.heap[z]? := ho.block z (World.block_lt_of_cell? w6 _ d0') (by simpa using hz1)
            exact ⟨(World.cell?_of_block (w := w6) (a := ⟨z, 0, none⟩) hk).trans d0', (World.cell?_of_block (w := w6) (a := ⟨z, 1, none⟩) hk).trans d1'⟩
          have K0 := Lib.hid k0
          clear k0
          go_region_held3 (fun w' => w'.cell? ⟨z, 0, none⟩ = some (.int .i64 (f y 0)) ∧ w'.cell? ⟨z, 1, none⟩ = some (.int .i64 (f y 1))) (first | go_keep | exact K0.out _ ‹Only [b'] w6.drew _›)
            ((first | (go_at_call 20; refine (within_any (f y 0) n (by omega) (by omega) _).mono ?_; rintro e w3 ⟨rfl, rfl⟩) | (go_at_call 13; refine (rise_any w6.drew g' b' L (wn (f y 0) n) (Int.tmod (f y 1) 1152921504606846976) ⟨hM6'.str, hM6'.row⟩ (by omega) (by omega)).mono ?_; rintro e w3 ⟨rfl, hM3, ho3⟩)))
          have hM4 : Marks w3 g b Le := (Marks.mk (w := w6.drew) hM6.str hM6.row).only ho3 (by simpa using n3) (by simpa using fun e => n2 e.symm)
          have hbel3 : Below w.heap.size w w3 := Below.only_ (w := w6.drew) hbel6.drew ho3 hbel6.size (by simpa using fb')
          rw [← hs] at hM3
          clear hM6 hM6' hbel6 d0' d1' ho3 hs K0
          go_wp2
          go_roundw
          case rel => exact ⟨x + 1, by omega, by go_num, hM4, hM3, hbel3⟩
          case measure => simp [intOf]; omega
        · obtain rfl : x = k := by omega
          rw [hrt.out] at hM'
          clear hrt
          go_wp2_with fail
          refine (least_any _ g b Le hM (by omega) (by omega)).mono ?_
          rintro e w3 ⟨rfl, rfl⟩
          go_wp2_with fail
          refine (least_any _ g' b' Le hM' (by omega) (by omega)).mono ?_
          rintro e w3 ⟨rfl, rfl⟩
          have hVo := hV.below (B := w.heap.size) hbel
          generalize wr = wo at *
          have hwo : w.heap.size ≤ wo.heap.size := hbel.size
          go_wp2_with fail
          go_loopw [19] (fun i wz => ∃ y : Nat, y ≤ nt ∧ i = .int .i64 y ∧ Below wo.heap.size wo wz) (fun i _ => nt - (intOf i).toNat)
          case atStart => exact ⟨0, Nat.zero_le _, rfl, Below.refl _ _⟩
          case round =>
            obtain ⟨y, hy, rfl, hbz⟩ := hrel
            by_cases hlt : y < nt ∧ y < 20
            · obtain ⟨hlt, h20⟩ := hlt
              obtain ⟨bt, ot, rfl, hbt, hct⟩ := hT.at_ (by omega)
              have et := hct y hlt
              clear hct
              have dt := (hbz.cell (p := ⟨bt, ot + y, none⟩) (show bt < _ by omega)).trans ((hbel.cell (p := ⟨bt, ot + y, none⟩) hbt).trans et)
              have j0 : (0 : Int) ≤ (y : Int) := by omega
              have j1 : (y : Int) < (nt : Int) := by omega
              have hMr := hM.only (Only.of_below (fs := []) hbz) (by simp) (by simp)
              go_wp2_with fail
              refine (mopen_any _ g b Le hMr (by omega) (by omega) (tf y) V nv cv vf (hVo.below (B := wo.heap.size) hbz) (by omega)).mono ?_
              rintro e w4 ⟨va, rfl, hoa, hb4⟩
              have hb4' := Below.then_ hbz hbz.size hb4
              have dt4 := (hb4.cell (p := ⟨bt, ot + y, none⟩) (show bt < _ by have := hbz.size; omega)).trans dt
              have hMr' := hM'.only (Only.of_below (fs := []) hb4') (by simp) (by simp)
              clear hb4 dt hMr
              obtain ⟨Aa, ca, rfl⟩ := own_slice hoa
              go_wp2_with fail
              refine (mopen_any _ g' b' Le hMr' (by omega) (by omega) (tf y) V nv cv vf (hVo.below (B := wo.heap.size) hb4') (by omega)).mono ?_
              rintro e w5 ⟨vb, rfl, hob, hb5⟩
              have hoa5 := own_below hoa hb5
              have hb5' := Below.then_ hb4' hb4'.size hb5
              have hlenC := Lib.hid (oC_le (f := vf) (t := tf y) (m := least Le) (n := nv))
              clear hb5 hoa dt4 hMr' hb4'
              obtain ⟨Ab, cb, rfl⟩ := own_slice hob
              generalize oL vf (tf y) (least Le) nv = bl
              generalize oE vf (tf y) nv = be
              generalize oC vf (tf y) (least Le) nv = lc at *
              go_wp2_with fail
              refine (same_any _ _ _ _ _ lc _ rfl (by have := hlenC.out; omega) hoa5 hob).mono ?_
              rintro e w6 ⟨rfl, hb6⟩
              have hb6' := Below.then_ hb5' hb5'.size hb6
              clear hb6 hb5' hoa5 hob
              go_wp2
              go_roundw
              case rel => exact ⟨y + 1, by omega, by go_num, hb6'⟩
              case measure => simp [intOf]; omega
            · have hbe := Below.then_ hbel hbel.size hbz
              by_cases h1 : y < nt
              · have h3 : ¬ y < 20 := fun h => hlt ⟨h1, h⟩
                have h4 : (20 : Int) ≤ (y : Int) := by omega
                go_wp2_with fail
                refine (Hend.out _ hbe).mono ?_
                rintro e w5 ⟨rfl, hb5⟩
                go_wp2
                go_ret
                exact ⟨rfl, hb5⟩
              · go_wp2_with fail
                refine (Hend.out _ hbe).mono ?_
                rintro e w5 ⟨rfl, hb5⟩
                go_wp2
                go_ret
                exact ⟨rfl, hb5⟩
end Go.Proofs.Ytdnamidhbloaoaa.Mark
