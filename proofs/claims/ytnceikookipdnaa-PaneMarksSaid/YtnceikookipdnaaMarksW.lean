/-
  The call of the law PaneMarks.
-/
import Derived.Test.YtnceikookipdnaaPaneC
import Derived.Test.YtnceikookipdnaaOwn
import Derived.Test.YtnceikookipdnaaTold
import Derived.Test.YtnceikookipdnaaOpen
import Derived.Lib.MinMax
import Derived.Lib.Hide
import Derived.Outline
import Derived.Deep.RegionHeld3
import Derived.Deep.DrawnRows
import Derived.Deep.QuietTactic
import Derived.BigQuiet
import Derived.BigRegion
import Derived.WalkLawsBesides
import Derived.WalkSpells
import Derived.StillTailTactics
import Derived.Deep.DeepCutAuto
set_option linter.unusedVariables false
namespace Go.Proofs.Ytnceikookipdnaa.PaneC
open Go.RowKit Go.Proofs.Ytnceikookipdnaa.K Go.Proofs.Ytnceikookipdnaa.PAll2 Go.Proofs.Ytnceikookipdnaa.Math2
open Go.Proofs.YtnceikookipdnaaW.PrintWords (Kd Drawn0)
attribute [local go_sem ↓] Go.wp_at_zero Go.wp_at_succ

theorem closed_c {s d l a : Int} (m : Int) (h : Right s d l) (h0 : -3000000000000000000 ≤ a) (h1 : a ≤ 3000000000000000000) (r : Bool) (hr : cl s l m a = r) (w : World) :
    Calls Try.prog 24 #[.agg #[.int .i64 s, .int .i64 d, .int .i64 l], .int .i64 a, .int .i64 m] w fun e w' => e = .returned (.bool r) ∧ Below w.heap.size w w' :=
  pane_Closed.calls s d l a m r w (by rw [closed_eq h h0 h1, hr])
theorem first_c {s d l : Int} (m : Int) (h : Right s d l) (h0 : -5000000000000000000 ≤ m) (h1 : m ≤ 5000000000000000000) (F : Int) (hF : d * ((m - s - l) / d + 1) = F) (w : World) :
    Calls Try.prog 26 #[.agg #[.int .i64 s, .int .i64 d, .int .i64 l], .int .i64 m] w fun e w' => e = .returned (.int .i64 F) ∧ Below w.heap.size w w' :=
  pane_First.calls s d l m F w (by rw [first_eq h h0 h1, hF])
theorem end_c {s d l a : Int} (h : Right s d l) (h0 : -3000000000000000000 ≤ a) (h1 : a ≤ 3000000000000000000) (w : World) :
    Calls Try.prog 21 #[.agg #[.int .i64 s, .int .i64 d, .int .i64 l], .int .i64 a] w fun e w' => e = .returned (.int .i64 (a + s)) ∧ Below w.heap.size w w' :=
  pane_End.calls s d l a (a + s) w (by have := h.s1; have := h.s2; unfold pane_End.f; rw [Math2.wrap_in (n := a + s) (by omega) (by omega)])

theorem own_cap {w : World} {B e sz n c : Nat} {A : Option Addr} {xs : List Value} (h : w.ownsRow B e sz (.slice A n c) n xs) : n ≤ c := by
  rcases h.2 with ⟨e, h0⟩ | ⟨g, cap, cur, e, _, _, hc, _⟩
  · cases e; omega
  · cases e; exact hc

/-- Same, over a slice's end. -/
theorem same_tail (w : World) (B B' : Nat) (v : Value) (A : Option Addr) (cap n m : Nat) (xs : List Int) (hn : xs.length = n) (hx : xs.length ≤ 1000000) (c : Nat) (hc : c ≤ n) (hm : (xs.drop c).length = m)
    (h0 : w.ownsRow B 2 1 v m (nums .i64 (xs.drop c))) (h1 : w.ownsRow B' 2 1 (.slice A n cap) n (nums .i64 xs)) (c2 : Nat) :
    ∀ A2, A2 = (if cap = c then A else A.map (·.add c)) → ∀ k, k = m → m ≤ c2 → Calls Try.prog 18 #[v, .slice A2 k c2] w fun e w' => e = .returned (.bool true) ∧ Below w.heap.size w w' := by
  intro A2 hA2 k hk hc2
  subst hk hm hn
  obtain ⟨A0, c0, rfl, hc0, hC0⟩ := Kd.R_reads (R_of_nums h0)
  obtain ⟨A1, c1, e, hc1, hC1⟩ := Kd.R_reads (R_of_nums h1)
  cases e
  have hd := Kd.C_drop (m := c) (c := cap) hC1 hc hc1
  have e1 : c * (Kd.int IntKind.i64).sz = c := Nat.mul_one c
  rw [e1, ← hA2] at hd
  exact (spatelaw4_Same.calls ((xs.drop c).length + 1) A0 c0 (xs.drop c) A2 c2 (xs.drop c) true w hC0 hc0 hd hc2 (same_eq _ (by simp; omega) _ (by omega))).mono fun e w' ⟨he, hd⟩ => ⟨he, by obtain ⟨n, rfl⟩ := hd.out; exact below_drewN (Below.refl _ _) n⟩

theorem marks_facts {s d l t mk lt : Int} (h : Right s d l) (ht : Tm t) (hm0 : -600000000000000000 ≤ mk) (hml : mk ≤ lt) (hl1 : lt ≤ 600000000000000000) :
    ∃ (c1 c2 : Nat) (F F2 : Int), c1 ≤ c2 ∧ c2 ≤ (starts s d t).length ∧ opn s d l t mk = (starts s d t).drop c1 ∧ opn s d l t lt = (starts s d t).drop c2 ∧ d * ((mk - s - l) / d + 1) = F ∧ d * ((lt - s - l) / d + 1) = F2 ∧
      F ≤ F2 ∧ Int.tmod F d = 0 ∧ cl s l mk F = false ∧ cl s l mk (F - d) = true ∧ -2000000000000000000 ≤ F ∧ F ≤ 2000000000000000000 ∧
      ∀ i (hi : i < (starts s d t).length), (i < c1 ∧ (starts s d t)[i] + s + l ≤ mk ∧ (starts s d t)[i] < F) ∨ (c1 ≤ i ∧ mk < (starts s d t)[i] + s + l ∧ F ≤ (starts s d t)[i]) := by
  have s1 := h.s1
  have s2 := h.s2
  have l1 := h.l1
  have l2 := h.l2
  have d1 := h.d1
  have d2 := h.d2
  obtain ⟨c1, h1, e1, k1⟩ := dw_drop _ _ (starts_cl h t mk)
  obtain ⟨c2, h2, e2, k2⟩ := dw_drop _ _ (starts_cl h t lt)
  have h12 : c1 ≤ c2 := by
    rcases Nat.lt_or_ge c2 c1 with hlt | hge
    · exfalso
      have hi : c2 < (starts s d t).length := by omega
      have a1 := (k1 c2 hi).2 hlt
      have a2 : ¬ cl s l lt (starts s d t)[c2] = true := fun hq => by have := (k2 c2 hi).1 hq; omega
      simp only [cl, decide_eq_true_eq] at a1 a2
      omega
    · exact hge
  have f1 := div_facts (mk - s - l) d d1
  have f2 := div_facts (lt - s - l) d d1
  have hmono : (mk - s - l) / d ≤ (lt - s - l) / d := Int.ediv_le_ediv (by omega) (by omega)
  have hmono2 : d * ((mk - s - l) / d + 1) ≤ d * ((lt - s - l) / d + 1) := mul_le d1 (by omega)
  have hx1 : d * ((mk - s - l) / d + 1) = d * ((mk - s - l) / d) + d := mul_add_one' _ _
  refine ⟨c1, c2, _, _, h12, h2, e1, e2, rfl, rfl, hmono2, Int.mul_tmod_right _ _, by simp only [cl, decide_eq_false_iff_not]; omega, by simp only [cl, decide_eq_true_eq]; omega, by omega, by omega, fun i hi => ?_⟩
  have hk := k1 i hi
  simp only [cl, decide_eq_true_eq] at hk
  obtain ⟨q, hq⟩ := starts_mul' s d t _ (List.getElem_mem hi)
  generalize (starts s d t)[i] = X at hk hq ⊢
  by_cases hP : X + s + l ≤ mk
  · exact .inl ⟨hk.1 hP, hP, by omega⟩
  · refine .inr ⟨?_, by omega, ?_⟩
    · rcases Nat.lt_or_ge i c1 with hh | hh
      · exact absurd (hk.2 hh) hP
      · exact hh
    · have hq2 : (mk - s - l) / d + 1 ≤ q := by
        by_cases hh : (mk - s - l) / d < q
        · omega
        · have := mul_le (a := q) (b := (mk - s - l) / d) d1 (by omega)
          omega
      have := mul_le d1 hq2
      omega

set_option maxRecDepth 100000 in
set_option maxHeartbeats 6400000 in
theorem marks_good (w : World) (s d l : Int) (hR : Right s d l) (t0 m0 more : Int) :
    Calls Try.prog 12 #[.agg #[.int .i64 s, .int .i64 d, .int .i64 l], .int .i64 t0, .int .i64 m0, .int .i64 more] w fun e w' => e = .returned (.bool true) ∧ Below w.heap.size w w' := by
  have HR := Lib.hid hR
  clear hR
  go_enter Try.func12, Try.ntmps12
  go_wp2_with fail
  refine (right_ok HR.out _).mono ?_
  rintro e w1 ⟨rfl, hb1⟩
  have hBk : Blk w1 w.heap.size 24 #[.int .i64 s, .int .i64 d, .int .i64 l] := (Blk.new w 24 _).below' hb1
  have hbel1 : Below w.heap.size w w1 := Below.then_ ((Below.refl _ _).alloc (Nat.le_refl _) _) (by simp) hb1
  obtain ⟨gb, hgb⟩ : ∃ gb, gb = w.heap.size := ⟨_, rfl⟩
  rw [← hgb] at hBk
  simp only [← hgb]
  have Hgb := Lib.hid hgb
  clear hb1 hgb
  go_wp2_with fail
  refine (within_c t0 _).mono ?_
  rintro e w2 ⟨rfl, hb2⟩
  obtain ⟨ht, _, ht0, ht1⟩ := tmod_within t0
  have hBk2 := hBk.below' hb2
  have hbel2 := Below.then_ hbel1 hbel1.size hb2
  generalize Int.tmod t0 576460752303423488 = t at ht ht0 ht1 ⊢
  have Ht := Lib.hid ht
  have hb1' := tmod_bounds m0 4398046511104 (by omega)
  have hb2' := tmod_bounds more 4398046511104 (by omega)
  clear ht hb2 hBk hbel1
  go_upto_region 6 with fail
  have hmx : 0 ≤ max 0 (Int.tmod more 4398046511104) ∧ max 0 (Int.tmod more 4398046511104) ≤ 4398046511104 := by omega
  generalize max 0 (Int.tmod more 4398046511104) = v at hmx ⊢
  generalize Int.tmod m0 4398046511104 = u at hb1' ⊢
  obtain ⟨mk, hmk⟩ : ∃ mk, t + u = mk := ⟨_, rfl⟩
  simp only [hmk]
  obtain ⟨lt, hlt⟩ : ∃ lt, mk + v = lt := ⟨_, rfl⟩
  simp only [hlt]
  have hm0 : -600000000000000000 ≤ mk := by omega
  have hml : mk ≤ lt := by omega
  have hl1 : lt ≤ 600000000000000000 := by omega
  clear hmk hlt hmx hb1' hb2' ht0 ht1
  obtain ⟨c1, c2, F, F2, h12, h2, e1, e2, eF, eF2, hFF, hF0, hcF, hcd, hb1, hb2, hX⟩ := marks_facts HR.out Ht.out hm0 hml hl1
  obtain ⟨c0', -, -, -, -, -, e0, -⟩ := marks_facts (mk := mk) (lt := mk) HR.out Ht.out hm0 (Int.le_refl _) (by omega)
  have hmax : opn s d l t (-4611686018427387904) = starts s d t := by
    have s1 := HR.out.s1
    have l1 := HR.out.l1
    unfold opn
    rw [drop_filter _ _ (starts_cl HR.out t _)]
    refine List.filter_eq_self.2 fun a ha => ?_
    have := starts_big HR.out Ht.out a ha
    simp only [cl, Bool.not_eq_true', decide_eq_false_iff_not]
    omega
  have hlen : (starts s d t).length ≤ 64 := by
    have := (cnt_le HR.out t).2
    have := starts_length s d t
    omega
  have hbig := fun i hi => starts_big HR.out Ht.out _ (List.getElem_mem (l := starts s d t) (n := i) hi)
  have Hlen := Lib.hid hlen
  have H12 := Lib.hid h12
  have H2 := Lib.hid h2
  have E1 := Lib.hid e1
  have E2 := Lib.hid e2
  have EF := Lib.hid eF
  have EF2 := Lib.hid eF2
  have HcF := Lib.hid hcF
  have Hcd := Lib.hid hcd
  have HX := Lib.hid hX
  have Hmax := Lib.hid hmax
  have Hbig := Lib.hid hbig
  have hd0 : d ≠ 0 := by have := HR.out.d1; omega
  have hd1 : 1 ≤ d ∧ d ≤ 1099511627776 := ⟨HR.out.d1, HR.out.d2⟩
  clear e0 hlen h12 h2 e1 e2 eF eF2 hcF hcd hX hmax hbig
  have c0 := hBk2.cell 0
  have c1' := hBk2.cell 1
  have c2' := hBk2.cell 2
  go_wp2_with fail
  refine (starts_c HR.out Ht.out _).mono ?_
  rintro e w3 ⟨va, rfl, hoa, hb3⟩
  have hBk3 := hBk2.below' hb3
  have hbel3 := Below.then_ hbel2 hbel2.size hb3
  obtain ⟨Aa, ca, rfl⟩ := own_slice hoa
  clear c0 c1' c2' hBk2 hbel2 hb3
  have c0 := hBk3.cell 0
  have c1' := hBk3.cell 1
  have c2' := hBk3.cell 2
  go_wp2_with fail
  refine (open_c mk HR.out Ht.out _).mono ?_
  rintro e w4 ⟨vb, rfl, hob, hb4⟩
  rw [E1.out] at hob
  have hBk4 := hBk3.below' hb4
  have hbel4 := Below.then_ hbel3 hbel3.size hb4
  have hoa4 := own_below hoa hb4
  obtain ⟨Ab, cb, rfl⟩ := own_slice hob
  clear c0 c1' c2' hBk3 hbel3 hb4 hoa
  have c0 := hBk4.cell 0
  have c1' := hBk4.cell 1
  have c2' := hBk4.cell 2
  go_wp2_with fail
  refine (open_c lt HR.out Ht.out _).mono ?_
  rintro e w5 ⟨vc, rfl, hoc, hb5⟩
  rw [E2.out] at hoc
  have hBk5 := hBk4.below' hb5
  have hbel5 := Below.then_ hbel4 hbel4.size hb5
  have hoa5 := own_below hoa4 hb5
  have hob5 := own_below hob hb5
  obtain ⟨Ac, cc, rfl⟩ := own_slice hoc
  clear c0 c1' c2' hBk4 hbel4 hb5 hoa4 hob
  obtain ⟨n, hn⟩ : ∃ n, (starts s d t).length = n := ⟨_, rfl⟩
  simp only [List.length_drop, hn]
  obtain ⟨nb, hnb⟩ : ∃ nb, n - c1 = nb := ⟨_, rfl⟩
  obtain ⟨nc, hnc⟩ : ∃ nc, n - c2 = nc := ⟨_, rfl⟩
  simp only [hnb, hnc]
  have h2n : c2 ≤ n := by rw [← hn]; exact H2.out
  have hn64 : n ≤ 64 := by rw [← hn]; exact Hlen.out
  have hc12 : c1 ≤ c2 := H12.out
  rw [hn] at hoa5
  rw [List.length_drop, hn, hnb, show c1 = n - nb by omega] at hob5
  rw [List.length_drop, hn, hnc, show c2 = (n - nb) + (nb - nc) by omega, ← List.drop_drop] at hoc
  have Hn := Lib.hid hn
  have Hc1 := Lib.hid (show c1 = n - nb by omega)
  have q1 : nb ≤ n := by omega
  have q2 : nc ≤ nb := by omega
  clear hn hnb hnc h2n hc12
  have c0 := hBk5.cell 0
  have c1' := hBk5.cell 1
  have c2' := hBk5.cell 2
  go_wp2_with fail
  refine (first_c mk HR.out (by omega) (by omega) F EF.out _).mono ?_
  rintro e w6 ⟨rfl, hb6⟩
  have hBk6 := hBk5.below' hb6
  have hbel6 := Below.then_ hbel5 hbel5.size hb6
  have hoa6 := own_below hoa5 hb6
  have hob6 := own_below hob5 hb6
  have hoc6 := own_below hoc hb6
  clear c0 c1' c2' hBk5 hbel5 hb6 hoa5 hob5 hoc
  have c0 := hBk6.cell 0
  have c1' := hBk6.cell 1
  have c2' := hBk6.cell 2
  go_wp2_with fail
  refine (closed_c mk HR.out (by omega) (by omega) false HcF.out _).mono ?_
  rintro e w7 ⟨rfl, hb7⟩
  have hBk7 := hBk6.below' hb7
  have hbel7 := Below.then_ hbel6 hbel6.size hb7
  have hoa7 := own_below hoa6 hb7
  have hob7 := own_below hob6 hb7
  have hoc7 := own_below hoc6 hb7
  clear c0 c1' c2' hBk6 hbel6 hb7 hoa6 hob6 hoc6
  have c0 := hBk7.cell 0
  have c1' := hBk7.cell 1
  have c2' := hBk7.cell 2
  go_wp2_with fail
  refine (closed_c mk HR.out (by omega) (by omega) true Hcd.out _).mono ?_
  rintro e w8 ⟨rfl, hb8⟩
  have hBk8 := hBk7.below' hb8
  have hbel8 := Below.then_ hbel7 hbel7.size hb8
  have hoa8 := own_below hoa7 hb8
  have hob8 := own_below hob7 hb8
  have hoc8 := own_below hoc7 hb8
  clear c0 c1' c2' hBk7 hbel7 hb8 hoa7 hob7 hoc7
  have c0 := hBk8.cell 0
  have c1' := hBk8.cell 1
  have c2' := hBk8.cell 2
  go_wp2_with fail
  refine (first_c lt HR.out (by omega) (by omega) F2 EF2.out _).mono ?_
  rintro e w9 ⟨rfl, hb9⟩
  have hBk9 := hBk8.below' hb9
  have hbel9 := Below.then_ hbel8 hbel8.size hb9
  have hoa9 := own_below hoa8 hb9
  have hob9 := own_below hob8 hb9
  have hoc9 := own_below hoc8 hb9
  clear c0 c1' c2' hBk8 hbel8 hb9 hoa8 hob8 hoc8
  have hca := own_cap hoa9
  have hcb := own_cap hob9
  go_upto_region 14 with fail
  go_cut [132] (fun z w' => z = .bool false ∧ Below w9.heap.size w9 w')
  case first =>
    rcases Decidable.em (ca = n - nb) with rfl | hqa
    all_goals
      rcases Decidable.em (cb = nb - nc) with rfl | hqb
    all_goals
      go_wp2_with fail
      refine (same_tail _ _ _ _ Aa _ n nb (starts s d t) Hn.out (by have := Hlen.out; omega) (n - nb) (by omega) (by rw [List.length_drop, Hn.out]; omega) hob9 hoa9 _ _ (by first | exact (if_pos rfl).symm | exact (if_neg hqa).symm) _ (by omega) (by omega)).mono ?_
      rintro e w10 ⟨rfl, hb10⟩
      have hob10 := own_below hob9 hb10
      have hoc10 := own_below hoc9 hb10
      have HB10 := Lib.hid hb10
      clear hBk9 hbel9 hb10 hoa9 hob9 hoc9
      go_wp2_with fail
      refine (same_tail _ _ _ _ Ab _ nb nc ((starts s d t).drop (n - nb)) (by rw [List.length_drop, Hn.out]; omega) (by rw [List.length_drop]; have := Hlen.out; omega) (nb - nc) (by omega) (by rw [List.length_drop, List.length_drop, Hn.out]; omega) hoc10 hob10 _ _ (by first | exact (if_pos rfl).symm | exact (if_neg hqb).symm) _ (by omega) (by omega)).mono ?_
      rintro e w11 ⟨rfl, hb11⟩
      have HB11 := Lib.hid hb11
      clear hb11
      go_wp2_with fail
      go_meet
      case rel => exact ⟨rfl, Below.then_ HB10.out HB10.out.size HB11.out⟩
  case rest =>
    rename World => w11
    obtain ⟨rfl, hb11⟩ := hcut
    have hBk11 := hBk9.below' hb11
    have hbel11 := Below.then_ hbel9 hbel9.size hb11
    have hoa11 := own_below hoa9 hb11
    have HW := Lib.hid (And.intro hBk11 (And.intro hbel11 hoa11))
    have HO := Lib.hid (And.intro hm0 (And.intro hml (And.intro hl1 (And.intro hb1 (And.intro hb2 (And.intro hd1 (And.intro q1 (And.intro q2 hn64))))))))
    clear hBk9 hbel9 hb11 hoa9 hob9 hoc9 hBk11 hbel11 hoa11 hm0 hml hl1 hFF hF0 hb1 hb2 hd0 hd1 q1 q2 hn64 hca hcb
    go_wp2_with fail
    go_loopw [17] (fun i wr => ∃ k : Nat, k ≤ n ∧ i = .int .i64 k ∧ Below w11.heap.size w11 wr) (fun i _ => n - (intOf i).toNat)
    case atStart => exact ⟨0, Nat.zero_le _, rfl, Below.refl _ _⟩
    case round =>
      obtain ⟨k, hk, rfl, hbz⟩ := hrel
      obtain ⟨hBk11, hbel11, hoa11⟩ := HW.out
      have hBk := hBk11.below' hbz
      have hoa := own_below hoa11 hbz
      by_cases hkn : k < n
      · obtain ⟨ga, ca', e, hga, hgal⟩ := own_form hoa (by omega)
        cases e
        have hxn : k < (starts s d t).length := by rw [Hn.out]; exact hkn
        obtain ⟨X, hXe⟩ : ∃ X, (starts s d t)[k] = X := ⟨_, rfl⟩
        have hXb := Hbig.out k hxn
        have hXc := HX.out k hxn
        rw [hXe] at hXb hXc
        have e0 : wr.cell? ⟨ga, k, none⟩ = some (.int .i64 X) := by
          have := hoa.cells (g := ga) rfl k (.int .i64 X) (by rw [nums_get _ _ _ hxn, nth_eq _ _ hxn, hXe])
          rwa [add_plain, Nat.zero_add] at this
        clear hXe
        have s12 := HR.out.s1
        have s22 := HR.out.s2
        have l12 := HR.out.l1
        have l22 := HR.out.l2
        have HSL := Lib.hid (And.intro s12 (And.intro s22 (And.intro l12 l22)))
        have HXX := Lib.hid (And.intro hXb hXc)
        have k4 : ∀ w', Below wr.heap.size wr.drew w' → w'.cell? ⟨gb, 0, none⟩ = some (.int .i64 s) ∧ w'.cell? ⟨gb, 1, none⟩ = some (.int .i64 d) ∧ w'.cell? ⟨gb, 2, none⟩ = some (.int .i64 l) ∧ w'.cell? ⟨ga, k, none⟩ = some (.int .i64 X) := fun w' hb =>
          ⟨(hb.cell (p := ⟨gb, 0, none⟩) hBk.lt).trans (hBk.cell 0), (hb.cell (p := ⟨gb, 1, none⟩) hBk.lt).trans (hBk.cell 1), (hb.cell (p := ⟨gb, 2, none⟩) hBk.lt).trans (hBk.cell 2), (hb.cell (p := ⟨ga, k, none⟩) hgal).trans e0⟩
        have K4 := Lib.hid k4
        have kend : ∀ W, Below wr.heap.size wr.drew W → Calls Try.prog 21 #[.agg #[.int .i64 s, .int .i64 d, .int .i64 l], .int .i64 X] W fun e w' => e = .returned (.int .i64 (X + s)) ∧ Below wr.heap.size wr.drew w' :=
          fun W hb => (end_c HR.out hXb.1 hXb.2 W).mono fun _ _ ⟨he, h⟩ => ⟨he, Below.then_ hb hb.size h⟩
        have Kend := Lib.hid kend
        have hw0 : IntKind.i64.wrap ((n : Int) - (nb : Int)) = (n : Int) - (nb : Int) := by have := HO.out; rw [IntKind.wrap_i64]; omega
        have hw1 : IntKind.i64.wrap (X + s + l) = X + s + l := by rw [IntKind.wrap_i64]; omega
        have hw2 : IntKind.i64.wrap (X + s + l - 1) = X + s + l - 1 := by rw [IntKind.wrap_i64]; omega
        have HW02 := Lib.hid (And.intro hw0 hw2)
        have HZ := Lib.hid hbz
        have Hkn := Lib.hid (And.intro hk hkn)
        have c0 := hBk.cell 0
        have c1' := hBk.cell 1
        have c2' := hBk.cell 2
        have kz0 : (0 : Int) ≤ (k : Int) := by omega
        have kz1 : (k : Int) < (n : Int) := by omega
        have fin : ∀ W, Below wr.heap.size wr.drew W → Below w11.heap.size w11 W := fun W hb => Below.then_ (w := wr.drew) hbz.drew hbz.size hb
        have Fin := Lib.hid fin
        clear k4 kend hXb hXc s12 s22 l12 l22 hw0 hw2 hbz hk hkn hBk hoa hgal hga hxn hBk11 hbel11 hoa11 fin
        go_wp2_with fail
        go_cut [18] (fun z w' => z = .int .i64 (X + s + l) ∧ Below wr.heap.size wr.drew w')
        case first =>
          go_region_held3 (fun w' => w'.cell? ⟨gb, 0, none⟩ = some (.int .i64 s) ∧ w'.cell? ⟨gb, 1, none⟩ = some (.int .i64 d) ∧ w'.cell? ⟨gb, 2, none⟩ = some (.int .i64 l) ∧ w'.cell? ⟨ga, k, none⟩ = some (.int .i64 X)) (first | go_keep | exact K4.out _ (by first | assumption | exact Below.refl _ _))
            ((go_at_call 21; refine (Kend.out _ (by first | assumption | exact Below.refl _ _)).mono ?_; rintro e w12 ⟨rfl, hb12⟩))
          try rw [hw1]
          go_wp2_with fail
          go_meet
          case rel => exact ⟨rfl, by assumption⟩
        case rest =>
          rename World => w12
          obtain ⟨rfl, hb12⟩ := hcut
          have Hb12 := Lib.hid hb12
          obtain ⟨z0, z1, z2, z3⟩ := K4.out w12 hb12
          have k5 : ∀ w', Below w12.heap.size w12.drew w' → w'.cell? ⟨gb, 0, none⟩ = some (.int .i64 s) ∧ w'.cell? ⟨gb, 1, none⟩ = some (.int .i64 d) ∧ w'.cell? ⟨gb, 2, none⟩ = some (.int .i64 l) ∧ w'.cell? ⟨ga, k, none⟩ = some (.int .i64 X) := fun w' hb =>
            ⟨(hb.cell (p := ⟨gb, 0, none⟩) (World.block_lt_of_cell? w12 _ z0)).trans z0, (hb.cell (p := ⟨gb, 1, none⟩) (World.block_lt_of_cell? w12 _ z1)).trans z1, (hb.cell (p := ⟨gb, 2, none⟩) (World.block_lt_of_cell? w12 _ z2)).trans z2, (hb.cell (p := ⟨ga, k, none⟩) (World.block_lt_of_cell? w12 _ z3)).trans z3⟩
          have K5 := Lib.hid k5
          have kx : ∀ (m : Int) (r : Bool), cl s l m X = r → ∀ W, Below w12.heap.size w12.drew W → Calls Try.prog 24 #[.agg #[.int .i64 s, .int .i64 d, .int .i64 l], .int .i64 X, .int .i64 m] W fun e w' => e = .returned (.bool r) ∧ Below w12.heap.size w12.drew w' :=
            fun m r hr W hb => (closed_c m HR.out HXX.out.1.1 HXX.out.1.2 r hr W).mono fun _ _ ⟨he, h⟩ => ⟨he, Below.then_ hb hb.size h⟩
          have KX := Lib.hid kx
          have Hkb : Hid (cl s l (X + s + l) X = true) := Lib.hid (by simp only [cl, decide_eq_true_eq]; omega)
          have Hkc : Hid (cl s l (X + s + l - 1) X = false) := Lib.hid (by simp only [cl, decide_eq_false_iff_not]; omega)
          clear k5 kx K4 Kend e0 c0 c1' c2' hb12 hw1
          go_upto_region 20 with fail
          go_cut [194] (fun z w' => z = .bool false ∧ Below w12.heap.size w12.drew w')
          case first =>
            have hw1 : IntKind.i64.wrap (X + s + l) = X + s + l := by have := HXX.out; have := HSL.out; rw [IntKind.wrap_i64]; omega
            obtain ⟨hw0, hw2⟩ := HW02.out
            have hc1n := Hc1.out
            have hXX := HXX.out
            have hkn := Hkn.out.2
            rcases hXX.2 with ⟨x1, x2, x3⟩ | ⟨x1, x2, x3⟩
            · have hz : (k : Int) < (n : Int) - (nb : Int) := by have := HO.out; omega
              have g1 : decide (F ≤ X) = false := decide_eq_false (by omega)
              have g2 : decide ((n : Int) - (nb : Int) ≤ (k : Int)) = false := decide_eq_false (by omega)
              have g2' : decide (IntKind.i64.wrap ((n : Int) - (nb : Int)) ≤ (k : Int)) = false := by rw [hw0]; exact g2
              have g3 : decide (X + s + l ≤ mk) = true := decide_eq_true x2
              have Ha : Hid (cl s l mk X = true) := Lib.hid (by simp only [cl, decide_eq_true_eq]; omega)
              clear x1 x2 x3 hc1n hXX hkn hz HW HO HSL HXX HW02 Hkn HZ Fin Hb12 HR Hgb Ht Hlen H12 H2 E1 E2 EF EF2 HcF Hcd HX Hmax Hbig Hn Hc1
              go_region_held3 (fun w' => w'.cell? ⟨gb, 0, none⟩ = some (.int .i64 s) ∧ w'.cell? ⟨gb, 1, none⟩ = some (.int .i64 d) ∧ w'.cell? ⟨gb, 2, none⟩ = some (.int .i64 l) ∧ w'.cell? ⟨ga, k, none⟩ = some (.int .i64 X)) (first | exact K5.out _ (by first | assumption | exact Below.refl _ _) | go_keep)
                ((go_at_call 24; refine (KX.out _ _ (by first | exact Ha.out | exact Hkb.out | exact Hkc.out) _ (by first | assumption | exact Below.refl _ _)).mono ?_; rintro e w13 ⟨rfl, hb13⟩))
              go_wp2_with fail
              go_meet
              case rel => exact ⟨rfl, by assumption⟩
            · have hz : (n : Int) - (nb : Int) ≤ (k : Int) := by have := HO.out; omega
              have g1 : decide (F ≤ X) = true := decide_eq_true x3
              have g2 : decide ((n : Int) - (nb : Int) ≤ (k : Int)) = true := decide_eq_true hz
              have g2' : decide (IntKind.i64.wrap ((n : Int) - (nb : Int)) ≤ (k : Int)) = true := by rw [hw0]; exact g2
              have g3 : decide (X + s + l ≤ mk) = false := decide_eq_false (by omega)
              have Ha : Hid (cl s l mk X = false) := Lib.hid (by simp only [cl, decide_eq_false_iff_not]; omega)
              clear x1 x2 x3 hc1n hXX hkn hz HW HO HSL HXX HW02 Hkn HZ Fin Hb12 HR Hgb Ht Hlen H12 H2 E1 E2 EF EF2 HcF Hcd HX Hmax Hbig Hn Hc1
              go_region_held3 (fun w' => w'.cell? ⟨gb, 0, none⟩ = some (.int .i64 s) ∧ w'.cell? ⟨gb, 1, none⟩ = some (.int .i64 d) ∧ w'.cell? ⟨gb, 2, none⟩ = some (.int .i64 l) ∧ w'.cell? ⟨ga, k, none⟩ = some (.int .i64 X)) (first | exact K5.out _ (by first | assumption | exact Below.refl _ _) | go_keep)
                ((go_at_call 24; refine (KX.out _ _ (by first | exact Ha.out | exact Hkb.out | exact Hkc.out) _ (by first | assumption | exact Below.refl _ _)).mono ?_; rintro e w13 ⟨rfl, hb13⟩))
              go_wp2_with fail
              go_meet
              case rel => exact ⟨rfl, by assumption⟩
          case rest =>
            rename World => w13
            obtain ⟨rfl, hb13⟩ := hcut
            have hz1 := Fin.out _ (Below.then_ Hb12.out Hb12.out.size (Below.then_ (Below.refl _ _).drew (Nat.le_refl _) hb13))
            have hkn := Hkn.out
            have hn64 : n ≤ 64 := by have := HO.out; omega
            go_wp2
            go_roundw
            case rel => exact ⟨k + 1, by omega, by go_num, hz1⟩
            case measure => simp [intOf]; omega
      · obtain rfl : k = n := by omega
        have hbelr := Below.then_ hbel11 hbel11.size hbz
        have c0 := hBk.cell 0
        have c1' := hBk.cell 1
        have c2' := hBk.cell 2
        clear hBk11 hbel11 hoa11
        go_wp2_with fail
        refine (open_c _ HR.out Ht.out _).mono ?_
        rintro e w14 ⟨vd, rfl, hod, hb14⟩
        rw [Hmax.out] at hod
        rw [Hn.out] at hod
        have hoa14 := own_below hoa hb14
        have hbel14 := Below.then_ hbelr hbelr.size hb14
        clear hb14 hoa hBk c0 c1' c2'
        go_wp2_with fail
        refine (same_c _ _ _ _ _ (starts s d t) _ Hn.out (by have := Hlen.out; omega) hod hoa14).mono ?_
        rintro e w15 ⟨rfl, mm, rfl⟩
        have hbel15 := below_drewN hbel14 mm
        go_wp2_with fail
        refine (head_c _).mono ?_
        rintro e w16 ⟨rfl, hb16⟩
        go_wp2
        go_ret
        exact ⟨rfl, Below.then_ hbel15 hbel15.size hb16⟩

set_option maxRecDepth 100000 in
theorem marks_bad (w : World) (s d l : Int) (hR : ¬ Right s d l) (t0 m0 more : Int) :
    Calls Try.prog 12 #[.agg #[.int .i64 s, .int .i64 d, .int .i64 l], .int .i64 t0, .int .i64 m0, .int .i64 more] w fun e w' => e = .returned (.bool true) ∧ Below w.heap.size w w' := by
  go_enter Try.func12, Try.ntmps12
  go_wp2_with fail
  refine (right_no hR _).mono ?_
  rintro e w1 ⟨rfl, hb1⟩
  have hbel1 : Below w.heap.size w w1 := Below.then_ ((Below.refl _ _).alloc (Nat.le_refl _) _) (by simp) hb1
  go_wp2_with fail
  refine (head_c _).mono ?_
  rintro e w5 ⟨rfl, hb5⟩
  go_wp2
  go_ret
  exact ⟨rfl, Below.then_ hbel1 hbel1.size hb5⟩

theorem marks_walk (s d l : Int) (_h0 : (Lit.int .i64 s).wf = true) (_h1 : (Lit.int .i64 d).wf = true) (_h2 : (Lit.int .i64 l).wf = true) (t : Int) (_h3 : (Lit.int .i64 t).wf = true) (m : Int) (_h4 : (Lit.int .i64 m).wf = true) (b : Int) (_h5 : (Lit.int .i64 b).wf = true) (w : World) :
    Calls Try.prog 12 #[.agg #[.int .i64 s, .int .i64 d, .int .i64 l], .int .i64 t, .int .i64 m, .int .i64 b] w fun e w' => e = .returned (.bool true) ∧ Below w.heap.size w w' := by
  by_cases h : Right s d l
  · exact marks_good w s d l h t m b
  · exact marks_bad w s d l h t m b
end Go.Proofs.Ytnceikookipdnaa.PaneC
