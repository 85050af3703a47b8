/-
  The call of the law MarkWindows.
-/
import Derived.Test.YtdnamidhbloaoaaToldW
set_option linter.unusedVariables false
set_option linter.unusedSimpArgs false
namespace Go.Proofs.Ytdnamidhbloaoaa.Mark
open Go.RowKit Go.Proofs.Ytdnamidhbloaoaa.K Go.Proofs.Ytdnamidhbloaoaa.Math2
attribute [local go_sem ↓] Go.wp_at_zero Go.wp_at_succ

/-- A greater mark closes more. -/
theorem cellsOf_sub (f : Nat → Nat → Int) (t m m' : Int) (n : Nat) (h : m ≤ m') : ∀ c ∈ cellsOf f t m' n, c ∈ cellsOf f t m n := by
  intro c hc
  unfold cellsOf at hc ⊢
  rw [List.mem_flatMap] at hc ⊢
  obtain ⟨i, hi, hc⟩ := hc
  refine ⟨i, hi, ?_⟩
  rw [List.mem_map] at hc ⊢
  obtain ⟨a, ha, e⟩ := hc
  refine ⟨a, ?_, e⟩
  unfold opens at ha ⊢
  rw [List.mem_filter] at ha ⊢
  refine ⟨ha.1, ?_⟩
  have h2 := ha.2
  simp only [cl, Bool.not_eq_true', decide_eq_false_iff_not] at h2 ⊢
  omega
theorem tm_tmod (x : Int) : Tm (Int.tmod x 1152921504606846976) := by
  have h1 : -1152921504606846976 < Int.tmod x 1152921504606846976 := Int.lt_tmod_of_pos x (by decide)
  have h2 : Int.tmod x 1152921504606846976 < 1152921504606846976 := Int.tmod_lt_of_pos x (by decide)
  exact ⟨by omega, by omega⟩

/-- The rows that were told at the beginning: of each time its cells under no mark. -/
structure Was (wr : World) (B : Nat) (u : Value) (rs : List TRow) (C : Nat → List (Nat × Int)) (k : Nat) : Prop where
  len : rs.length = k
  own : wr.ownsRow B 47 1 u rs.length (rs.map TRow.v)
  rows : TRows wr B 63 3 rs
  xs : ∀ j p, rs[j]? = some p → p.n = (C j).length ∧ p.xs = cellVs (C j)
theorem Was.below {wr w' : World} {B : Nat} {u : Value} {rs : List TRow} {C : Nat → List (Nat × Int)} {k : Nat} (h : Was wr B u rs C k) (hb : Below wr.heap.size wr w') : Was w' B u rs C k := ⟨h.len, own_below h.own hb, h.rows.below hb, h.xs⟩
theorem Was.only {wr w' : World} {B : Nat} {u : Value} {rs : List TRow} {C : Nat → List (Nat × Int)} {k b : Nat} {L : List Value} (h : Was wr B u rs C k) (hb : Blk wr b 2 L.toArray) (ho : Only [b] wr w') : Was w' B u rs C k := by
  have hne : ∀ {v : Value} {n : Nat} {xs : List Value} {e : TypeId} {B s : Nat}, wr.ownsRow B e s v n xs → e ≠ 2 → ∀ q, v.ownBlock = some q → q ∉ [b] := by
    intro v n xs e B s h he q hq
    rcases own_ne_blk h hb he with h0 | h0
    · rw [h0] at hq; cases hq
    · rw [hq] at h0; simpa using fun e => h0 (by rw [e])
  exact ⟨h.len, own_only h.own ho (hne h.own (by decide)), h.rows.only ho (fun p hp => hne (h.rows.own p hp) (by decide)), h.xs⟩

theorem rise_one (m t : Int) : ∃ m', riseL [m] 0 t = [m'] ∧ m ≤ m' := by
  unfold riseL
  split
  · exact ⟨max m t, rfl, by omega⟩
  · exact ⟨m, rfl, Int.le_refl _⟩
theorem least_one (m : Int) : least [m] = m := rfl

set_option maxRecDepth 100000 in
set_option maxHeartbeats 6400000 in
theorem win_walk (w : World)
    (v0 : Value) (o0 : ∃ (A : Option Addr) (n c : Nat) (f : Nat → Int), v0 = .slice A n c ∧ n ≤ c ∧ Flat1 w A n f ∧ n * 8 ≤ 140737488351232)
    (v1 : Value) (o1 : ∃ (A : Option Addr) (n c : Nat) (f : Nat → Nat → Int), v1 = .slice A n c ∧ n ≤ c ∧ Flat w 3 A n f ∧ n * 24 ≤ 140737488351232)
    (v2 : Value) (o2 : ∃ (A : Option Addr) (n c : Nat) (f : Nat → Int), v2 = .slice A n c ∧ n ≤ c ∧ Flat1 w A n f ∧ n * 8 ≤ 140737488351232) :
    Calls Try.prog 8 #[v0, v1, v2] w fun e w' => e = .returned (.bool true) ∧ Below w.heap.size w w' := by
  obtain ⟨T, nt, ct, tf, rfl, hct, hT, hnt⟩ := o0
  obtain ⟨V, nv, cv, vf, rfl, hcv, hVF, hnv⟩ := o1
  obtain ⟨K, nm, cm, mf, rfl, hcm, hK, hnm⟩ := o2
  have HV := Lib.hid (Views.of_flat hVF)
  have HT := Lib.hid hT
  have HK := Lib.hid hK
  clear hVF hct hcm hT hK
  obtain ⟨C, hC⟩ : ∃ C : Nat → List (Nat × Int), C = fun j => cellsOf vf (Int.tmod (tf j) 1152921504606846976) (-4611686018427387904) nv := ⟨_, rfl⟩
  have HC := Lib.hid hC
  clear hC
  have hend : ∀ W, Below w.heap.size w W → Calls Try.prog 19 #[] W fun e w' => e = .returned (.bool true) ∧ Below w.heap.size w w' := fun W h => (head_any W).mono fun _ _ ⟨he, hb⟩ => ⟨he, Below.then_ h h.size hb⟩
  have Hend := Lib.hid hend
  clear hend
  obtain ⟨i0, hi, hz0, hz1, hz2⟩ := info_parts info47
  have HI := Lib.hid (And.intro hi (And.intro hz0 (And.intro hz1 hz2)))
  clear hi hz0 hz1 hz2
  go_enter Try.func8, Try.ntmps8
  go_wp2_with fail
  refine (new_good 1 _ (by omega) (by omega)).mono ?_
  rintro e w1 ⟨g, b, rfl, hM, hb1, hg, hbb⟩
  have HM1 := Lib.hid (And.intro hM (And.intro hb1 (And.intro hg hbb)))
  clear hM hb1 hg hbb
  by_cases h4 : 4 < nv
  · have h5 : (4 : Int) < (nv : Int) := by omega
    go_wp2_with fail
    refine (Hend.out _ HM1.out.2.1).mono ?_
    rintro e w5 ⟨rfl, hb5⟩
    go_wp2
    go_ret
    exact ⟨rfl, hb5⟩
  · have h5 : ¬ (4 : Int) < (nv : Int) := by omega
    go_wp2_with fail
    go_loopw [9] (fun i wr => ∃ k : Nat, k ≤ nv ∧ i = .int .i64 k ∧ AllRight vf k ∧ Below w1.heap.size w1 wr) (fun i _ => nv - (intOf i).toNat)
    case atStart => exact ⟨0, Nat.zero_le _, rfl, fun i hi => absurd hi (Nat.not_lt_zero _), Below.refl _ _⟩
    case round =>
      obtain ⟨k, hk, rfl, hall, hbz⟩ := hrel
      have Hall := Lib.hid hall
      have HB := Lib.hid (And.intro hbz (Below.then_ HM1.out.2.1 HM1.out.2.1.size hbz))
      clear hall hbz
      by_cases hkn : k < nv
      · have k0 : (0 : Int) ≤ (k : Int) := by omega
        have k1 : (k : Int) < (nv : Int) := by omega
        obtain ⟨bv, ov, rfl, hbv, hcv⟩ := HV.out.at_ (by omega)
        obtain ⟨e0, e1, e2⟩ := hcv k hkn
        have d0 := (HB.out.2.cell (p := ⟨bv, ov + k * 3, none⟩) hbv).trans e0
        have d1 := (HB.out.2.cell (p := ⟨bv, ov + k * 3 + 1, none⟩) hbv).trans e1
        have d2 := (HB.out.2.cell (p := ⟨bv, ov + k * 3 + 2, none⟩) hbv).trans e2
        clear e0 e1 e2 hcv
        by_cases hR : RightV vf k
        · go_wp2_with fail
          refine (check_ok (show Right (vf k 0) (vf k 1) (vf k 2) from hR) _).mono ?_
          rintro e w2 ⟨rfl, hb2⟩
          have HB2 := Lib.hid (Below.then_ HB.out.1 HB.out.1.size hb2)
          clear hb2 d0 d1 d2
          go_wp2
          go_roundw
          case rel => exact ⟨k + 1, by omega, by go_num, fun i hi => by
            by_cases h : i = k
            · subst h; exact hR
            · exact Hall.out i (by omega), HB2.out⟩
          case measure => simp [intOf]; omega
        · go_wp2_with fail
          refine (check_no (show ¬ Right (vf k 0) (vf k 1) (vf k 2) from hR) _).mono ?_
          rintro e w2 ⟨rfl, hb2⟩
          have HB2 := Lib.hid (Below.then_ HB.out.2 HB.out.2.size hb2)
          clear hb2 d0 d1 d2
          go_wp2_with fail
          refine (Hend.out _ HB2.out).mono ?_
          rintro e w5 ⟨rfl, hb5⟩
          go_wp2
          go_ret
          exact ⟨rfl, hb5⟩
      · obtain rfl : nv = k := by omega
        have HMr : Hid (Marks wr g b [-4611686018427387904] ∧ Below w.heap.size w wr ∧ w.heap.size ≤ g ∧ w.heap.size ≤ b) := Lib.hid ⟨HM1.out.1.only (Only.of_below (fs := []) HB.out.1) (by simp) (by simp), HB.out.2, HM1.out.2.2⟩
        clear HB HM1
        generalize wr = wq at HMr ⊢
        go_wp2_with fail
        go_loopw [10, 11] (fun u i wr => ∃ (i' : Nat) (rs : List TRow) (m : Int), i' ≤ nm ∧ i' ≤ 12 ∧ i = .int .i64 i' ∧ Was wr w.heap.size u rs C (if i' = 0 then 0 else min nt 12) ∧ Marks wr g b [m] ∧ -4611686018427387904 ≤ m ∧ (i' = 0 → m = -4611686018427387904) ∧ Below w.heap.size w wr) (fun _ i _ => nm - (intOf i).toNat)
        case atStart => exact ⟨0, [], _, Nat.zero_le _, Nat.zero_le _, rfl, ⟨rfl, World.ownsRow_nil _ _ _ _, TRows.nil _ _ _ _, fun j p h => by simp at h⟩, HMr.out.1, Int.le_refl _, fun _ => rfl, HMr.out.2.1⟩
        case round =>
          obtain ⟨i', rs, m, hi1, hi2, rfl, hW, hM, hm0, hmi, hbel⟩ := hrel
          obtain ⟨Au, cu, rfl⟩ := own_slice hW.own
          have HW := Lib.hid (And.intro hW (And.intro hM (And.intro hm0 (And.intro hmi hbel))))
          clear hW hM hm0 hmi hbel
          by_cases hlt : i' < nm ∧ i' < 12
          · obtain ⟨hlt, hl12⟩ := hlt
            have a0 : (0 : Int) ≤ (i' : Int) := by omega
            have a1 : (i' : Int) < (nm : Int) := by omega
            have a2 : (i' : Int) < 12 := by omega
            go_upto_if 57 with fail
            go_cut [] (fun w' => ∃ m', Was w' w.heap.size (.slice Au rs.length cu) rs C (if i' = 0 then 0 else min nt 12) ∧ Marks w' g b [m'] ∧ -4611686018427387904 ≤ m' ∧ (i' = 0 → m' = -4611686018427387904) ∧ Below w.heap.size w w')
            case first =>
              by_cases hz : i' = 0
              · have a3 : ¬ (0 : Int) < (i' : Int) := by omega
                clear hz
                go_wp2_with fail
                go_meet
                case rel => exact ⟨m, HW.out.1, HW.out.2.1, HW.out.2.2.1, HW.out.2.2.2.1, HW.out.2.2.2.2⟩
              · have a3 : (0 : Int) < (i' : Int) := by omega
                obtain ⟨bk, ok, rfl, hbk, hck⟩ := HK.out.at_ (by omega)
                have ek := hck i' hlt
                have dk := (HW.out.2.2.2.2.cell (p := ⟨bk, ok + i', none⟩) hbk).trans ek
                clear hck ek
                generalize mf i' = x at dk
                go_wp2_with fail
                refine (rise_any _ g b [m] 0 (Int.tmod x 1152921504606846976) HW.out.2.1 (by simp) (by simp)).mono ?_
                rintro e w3 ⟨rfl, hM3, ho3⟩
                obtain ⟨m', hm', hmm⟩ := rise_one m (Int.tmod x 1152921504606846976)
                rw [hm'] at hM3
                have HR : Hid (∃ m', Was w3 w.heap.size (.slice Au rs.length cu) rs C (if i' = 0 then 0 else min nt 12) ∧ Marks w3 g b [m'] ∧ -4611686018427387904 ≤ m' ∧ (i' = 0 → m' = -4611686018427387904) ∧ Below w.heap.size w w3) :=
                  Lib.hid ⟨m', HW.out.1.only HW.out.2.1.row ho3, hM3, by have := HW.out.2.2.1; omega, fun e => absurd e hz, Below.only_ HW.out.2.2.2.2 ho3 HW.out.2.2.2.2.size (by simpa using HMr.out.2.2.2)⟩
                generalize riseB [m] 0 (Int.tmod x 1152921504606846976) = rb
                generalize riseE [m] 0 (Int.tmod x 1152921504606846976) = re
                clear hM3 ho3 hm' hmm
                go_wp2_with fail
                go_meet
                case rel => exact HR.out
            case rest =>
              rename World => w3
              obtain ⟨m', hW3, hM3, hm3, hmi3, hbel3⟩ := hcut
              have Hm3 := Lib.hid (And.intro hm3 hmi3)
              have HW3 := Lib.hid (And.intro hW3 (And.intro hM3 hbel3))
              clear hW3 hM3 hm3 hmi3 hbel3 HW
              go_wp2_with fail
              go_loopw [10, 12] (fun u k wr => ∃ (k' : Nat) (rs' : List TRow), k' ≤ nt ∧ k' ≤ 12 ∧ k = .int .i64 k' ∧ Was wr w.heap.size u rs' C (if i' = 0 then k' else min nt 12) ∧ Marks wr g b [m'] ∧ Below w.heap.size w wr) (fun _ k _ => nt - (intOf k).toNat)
              case atStart => exact ⟨0, rs, Nat.zero_le _, Nat.zero_le _, rfl, HW3.out.1, HW3.out.2.1, HW3.out.2.2⟩
              case round =>
                clear HW3
                obtain ⟨k', rs', hk1, hk2, rfl, hW, hM, hbel⟩ := hrel
                obtain ⟨Aw, cw, rfl⟩ := own_slice hW.own
                have HW := Lib.hid (And.intro hW (And.intro hM hbel))
                clear hW hM hbel
                by_cases hkt : k' < nt ∧ k' < 12
                · obtain ⟨hkt, hk12⟩ := hkt
                  have b0 : (0 : Int) ≤ (k' : Int) := by omega
                  have b1 : (k' : Int) < (nt : Int) := by omega
                  have b2 : (k' : Int) < 12 := by omega
                  obtain ⟨bt, ot, rfl, hbt, hctt⟩ := HT.out.at_ (by omega)
                  have et := hctt k' hkt
                  have dt := (HW.out.2.2.cell (p := ⟨bt, ot + k', none⟩) hbt).trans et
                  have hCk : C k' = cellsOf vf (Int.tmod (tf k') 1152921504606846976) (-4611686018427387904) nv := by rw [HC.out]
                  have htm := tm_tmod (tf k')
                  clear hctt et
                  have hto := fun W (hb : Below w.heap.size w W) (h : Marks W g b [m']) => mopen_good W g b [m'] h (by simp) (by simp) (Int.tmod (tf k') 1152921504606846976) V nv cv vf (HV.out.below (B := w.heap.size) hb) (by omega) Hall.out htm
                  rw [least_one] at hto
                  have htd := fun W (hb : Below w.heap.size w W) (B : Nat) (v : Value) => told_c W B v vf (Int.tmod (tf k') 1152921504606846976) m' V nv cv (HV.out.below (B := w.heap.size) hb) (by omega) Hall.out htm _ rfl
                  have hsub := cellsOf_sub vf (Int.tmod (tf k') 1152921504606846976) (-4611686018427387904) m' nv Hm3.out.1
                  rw [← hCk] at hsub
                  have hlen := cellsOf_le (f := vf) (n := nv) Hall.out (Int.tmod (tf k') 1152921504606846976) m'
                  have hlenC := cellsOf_le (f := vf) (n := nv) Hall.out (Int.tmod (tf k') 1152921504606846976) (-4611686018427387904)
                  rw [← hCk] at hlenC
                  have heq : i' = 0 → cellsOf vf (Int.tmod (tf k') 1152921504606846976) m' nv = C k' := fun h => by rw [hCk, Hm3.out.2 h]
                  generalize hlate : (decide (winds vf (Int.tmod (tf k') 1152921504606846976) nv > 0) && decide ((cellsOf vf (Int.tmod (tf k') 1152921504606846976) m' nv).length = 0)) = late at hto htd
                  generalize cellsOf vf (Int.tmod (tf k') 1152921504606846976) m' nv = lc at hto htd hsub hlen heq
                  have Hto := Lib.hid hto
                  have Htd := Lib.hid htd
                  have HX := Lib.hid (And.intro hsub (And.intro hlen (And.intro hlenC heq)))
                  clear hto htd hsub hlen hlenC heq hlate hCk htm
                  generalize tf k' = x at *
                  go_wp2_with fail
                  refine (Hto.out _ HW.out.2.2 HW.out.2.1).mono ?_
                  rintro e w4 ⟨va, rfl, hoa, hb4⟩
                  obtain ⟨Aa, ca, rfl⟩ := own_slice hoa
                  have HW4 := Lib.hid (And.intro (HW.out.1.below hb4) (And.intro (HW.out.2.1.only (Only.of_below (fs := []) hb4) (by simp) (by simp)) (And.intro (Below.then_ HW.out.2.2 HW.out.2.2.size hb4) (And.intro hoa (TRows.snoc HW.out.1.rows ⟨_, _, _⟩ hb4 HW.out.2.2.size hoa)))))
                  clear dt hoa hb4 Hto
                  obtain ⟨n, hn⟩ : ∃ n, lc.length = n := ⟨_, rfl⟩
                  rw [hn] at HW4 ⊢
                  have Hn := Lib.hid hn
                  clear hn
                  go_wp2_with fail
                  refine (least_any _ g b _ HW4.out.2.1 (by simp) (by simp)).mono ?_
                  rintro e w5 ⟨rfl, rfl⟩
                  rw [least_one]
                  go_wp2_with fail
                  refine (Htd.out _ HW4.out.2.2.1 _ _ (by rw [Hn.out]; exact HW4.out.2.2.2.1)).mono ?_
                  rintro e w6 ⟨rfl, hb6⟩
                  have HW6 := Lib.hid (And.intro (HW4.out.1.below hb6) (And.intro (HW4.out.2.1.only (Only.of_below (fs := []) hb6) (by simp) (by simp)) (And.intro (Below.then_ HW4.out.2.2.1 HW4.out.2.2.1.size hb6) (And.intro (own_below HW4.out.2.2.2.1 hb6) (HW4.out.2.2.2.2.below hb6)))))
                  clear hb6 HW4 Htd HW
                  by_cases hz : i' = 0
                  · have hz1 : ((i' : Int) == 0) = true := by simp [hz]
                    have Hz := Lib.hid hz
                    clear hz
                    obtain ⟨hi, hz0, hzz1, hz2⟩ := HI.out
                    go_wp2_with (at_builtin; go_loud (refine wpList_append_own_at _ rfl _ _ 59 rfl w.heap.size 47 i0 _ 1 24 Try.underlying59 hi hz0 hzz1 hz2 rfl (by omega) (.slice Aw rs'.length cw) rs'.length (rs'.map TRow.v) (by rfl) ?c0 ⟨w6.heap.size, 0, none⟩ 1 1 [.slice Aa n ca] (by rfl) rfl ?c2 ?c3 ?c4 ?c5 ?c6 ?_))
                    case c0 => exact own_below HW6.out.1.own ((Below.refl _ _).alloc (Nat.le_refl _) _)
                    case c2 =>
                      intro j u hu
                      rw [add_plain, Nat.zero_add, World.cell?_alloc_new]
                      simpa using hu
                    case c3 =>
                      intro u hu
                      simp at hu
                      subst hu
                      rfl
                    case c4 => have := HW6.out.1.len; rw [if_pos Hz.out] at this; unfold maxLen; omega
                    case c5 => have := HW6.out.1.len; rw [if_pos Hz.out] at this; omega
                    case c6 => have := HW6.out.2.2.1.size; simp; omega
                    intro u' w9 hown9 hgrow _ hat
                    have hba : Below w6.heap.size w6 (w6.alloc (.cells #[.slice Aa n ca] 47)) := (Below.refl _ _).alloc (Nat.le_refl _) _
                    have hT9 := (HW6.out.2.2.2.2.below hba).grown hgrow (fun p hp => own_ne_kind (HW6.out.2.2.2.2.own p hp) HW6.out.1.own (by decide))
                    have q1 : ∀ {x t cs}, Blk w6 x t cs → 47 ≠ t → Value.ownBlock (.slice Aw rs'.length cw) = none ∨ Value.ownBlock (.slice Aw rs'.length cw) ≠ some x := fun hb he => own_ne_blk HW6.out.1.own hb he
                    have hM9 := (HW6.out.2.1.only (Only.of_below (fs := []) hba) (by simp) (by simp)).grown hgrow (q1 HW6.out.2.1.str (by decide)) (q1 HW6.out.2.1.row (by decide))
                    have hbel9 : Below w.heap.size w w9 := (HW6.out.2.2.1.alloc HW6.out.2.2.1.size _).grown hgrow (by have := HW6.out.2.2.1.size; simp; omega) (fun x e => (HW6.out.1.own.lt x e).1)
                    have hW9 : Was w9 w.heap.size u' (rs' ++ [⟨.slice Aa n ca, n, cellVs lc⟩]) C (k' + 1) := by
                      have hl := HW6.out.1.len
                      rw [if_pos Hz.out] at hl
                      refine ⟨by simp [hl], by simpa using hown9, hT9, fun j p hp => ?_⟩
                      by_cases hj : j < rs'.length
                      · rw [List.getElem?_append_left hj] at hp
                        exact HW6.out.1.xs j p hp
                      · rw [List.getElem?_append_right (by omega)] at hp
                        obtain rfl : j = rs'.length := by
                          rcases h : j - rs'.length with _ | q
                          · omega
                          · rw [h] at hp; simp at hp
                        simp at hp
                        subst hp
                        rw [hl, ← HX.out.2.2.2 Hz.out]
                        exact ⟨Hn.out.symm, rfl⟩
                    have HR := Lib.hid (And.intro hW9 (And.intro hM9 hbel9))
                    clear hba hT9 q1 hM9 hbel9 hW9 hat hgrow hown9 hi hz0 hzz1 hz2
                    go_wp2
                    go_roundw
                    case rel => exact ⟨k' + 1, _, by omega, by omega, by go_num, by rw [if_pos Hz.out]; exact HR.out.1, HR.out.2.1, HR.out.2.2⟩
                    case measure => simp [intOf]; omega
                  · have hz1 : ((i' : Int) == 0) = false := by simp; omega
                    have hl := HW6.out.1.len
                    rw [if_neg hz] at hl
                    obtain ⟨gu, cu', e, hgu, hgl⟩ := own_form HW6.out.1.own (by omega)
                    cases e
                    obtain ⟨p, hp⟩ : ∃ p, rs'[k']? = some p := ⟨_, List.getElem?_eq_getElem (by omega)⟩
                    obtain ⟨hpn, hpx⟩ := HW6.out.1.xs k' p hp
                    have hpo := HW6.out.1.rows.get k' p hp
                    have hpv : (rs'.map TRow.v)[k']? = some p.v := by rw [List.getElem?_map, hp]; rfl
                    obtain ⟨pv, pn, pxs⟩ := p
                    simp only at hpn hpx hpo hpv
                    subst hpx
                    obtain ⟨Ap, cp, rfl⟩ := own_slice hpo
                    have cx : w6.cell? ⟨gu, k', none⟩ = some (.slice Ap pn cp) := by
                      have := HW6.out.1.own.cells (g := gu) rfl k' _ hpv
                      rwa [add_plain, Nat.zero_add] at this
                    have b3 : (k' : Int) < (rs'.length : Int) := by omega
                    have ham := among_c w6 _ _ _ _ lc (C k') n pn Hn.out hpn.symm (by have := HX.out.2.1; have := Hn.out; omega) (by have := HX.out.2.2.1; omega) HX.out.1 HW6.out.2.2.2.1 hpo
                    have Ham := Lib.hid ham
                    clear ham hpo hpv hp hpn hl
                    go_wp2_with fail
                    refine Ham.out.mono ?_
                    rintro e w7 ⟨rfl, hb7⟩
                    have HR := Lib.hid (And.intro (HW6.out.1.below hb7) (And.intro (HW6.out.2.1.only (Only.of_below (fs := []) hb7) (by simp) (by simp)) (Below.then_ HW6.out.2.2.1 HW6.out.2.2.1.size hb7)))
                    clear hb7 cx Ham
                    go_wp2
                    go_roundw
                    case rel => exact ⟨k' + 1, _, by omega, by omega, by go_num, by have := HR.out.1; rw [if_neg hz] at this ⊢; exact this, HR.out.2.1, HR.out.2.2⟩
                    case measure => simp [intOf]; omega
                · have hkm : k' = min nt 12 := by omega
                  have hcase : (nt : Int) ≤ (k' : Int) ∨ ((k' : Int) < (nt : Int) ∧ (12 : Int) ≤ (k' : Int)) := by omega
                  have hW' : Was wr w.heap.size (.slice Aw rs'.length cw) rs' C (if i' + 1 = 0 then 0 else min nt 12) := by
                    have := HW.out.1
                    rw [if_neg (by omega)]
                    by_cases hz : i' = 0
                    · rw [if_pos hz, hkm] at this; exact this
                    · rw [if_neg hz] at this; exact this
                  have HR := Lib.hid (And.intro hW' HW.out.2)
                  clear hW' HW hkm hkt hk1 hk2
                  rcases hcase with hc1 | ⟨hc1, hc2⟩
                  all_goals
                    go_wp2_with fail
                    go_roundw
                    case rel => exact ⟨i' + 1, rs', m', by omega, by omega, by go_num, HR.out.1, HR.out.2.1, Hm3.out.1, fun e => absurd e (by omega), HR.out.2.2⟩
                    case measure => simp [intOf]; omega
          · have hcase : (nm : Int) ≤ (i' : Int) ∨ ((i' : Int) < (nm : Int) ∧ (12 : Int) ≤ (i' : Int)) := by omega
            rcases hcase with hc1 | ⟨hc1, hc2⟩
            all_goals
              go_wp2_with fail
              refine (Hend.out _ HW.out.2.2.2.2).mono ?_
              rintro e w5 ⟨rfl, hb5⟩
              go_wp2
              go_ret
              exact ⟨rfl, hb5⟩
end Go.Proofs.Ytdnamidhbloaoaa.Mark
