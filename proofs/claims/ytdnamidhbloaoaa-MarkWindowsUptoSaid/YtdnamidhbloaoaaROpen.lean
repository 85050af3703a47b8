/-
  What the reference's Open does; both tell the same cells.
-/
import Derived.Test.YtdnamidhbloaoaaMGood
set_option linter.unusedVariables false
namespace Go.Proofs.Ytdnamidhbloaoaa.Mark
open Go.RowKit Go.Proofs.Ytdnamidhbloaoaa.K Go.Proofs.Ytdnamidhbloaoaa.PFn Go.Proofs.Ytdnamidhbloaoaa.Math2
open Go.Proofs.YtdnamidhbloaoaaW.PrintWords (Kd ReadsRow Reps rd)

/-! ### Views and cells in the printed words -/
def VL (f : Nat → Nat → Int) (n : Nat) : List S58 := (List.range n).map fun i => ⟨f i 0, f i 1, f i 2⟩
def toS (c : Nat × Int) : S63 := ⟨c.1, ⟨#[]⟩, c.2⟩
theorem VL_length (f : Nat → Nat → Int) (n : Nat) : (VL f n).length = n := by simp [VL]
theorem VL_get (f : Nat → Nat → Int) (n i : Nat) (h : i < n) : (VL f n)[i]? = some ⟨f i 0, f i 1, f i 2⟩ := by simp [VL, h]
theorem rd_VL (f : Nat → Nat → Int) (n i : Nat) (h : i < n) : rd_T58 (VL f n) i = ⟨f i 0, f i 1, f i 2⟩ := by
  unfold rd_T58
  rw [Int.toNat_natCast, List.getD_eq_getElem?_getD, VL_get f n i h]
  rfl

theorem Views.C {w : World} {A : Option Addr} {nv : Nat} {f : Nat → Nat → Int} (h : Views w A nv f) (h2 : nv ≤ 1000000) : Kd.C k58 w A (VL f nv).length (VL f nv) := by
  rw [VL_length]
  refine ⟨VL_length f nv, by omega, fun hn => ?_⟩
  obtain ⟨b, off, rfl, _, hc⟩ := h.at_ hn
  refine ⟨_, rfl, fun j p hp => ?_⟩
  have hj : j < nv := by
    have := (List.getElem?_eq_some_iff.1 hp).1
    rw [VL_length] at this; exact this
  rw [VL_get f nv j hj] at hp
  obtain rfl := Option.some.inj hp
  obtain ⟨h0, h1, h2⟩ := hc j hj
  refine ⟨[.int .i64 (f j 0), .int .i64 (f j 1), .int .i64 (f j 2)], rfl, k58_mk w _, fun i u hu => ?_⟩
  have hadd : (⟨b, off, none⟩ : Addr).add (j * k58.sz + i) = ⟨b, off + j * 3 + i, none⟩ := by rw [add_plain, Nat.add_assoc]; rfl
  rw [hadd]
  match i, hu with
  | 0, hu => simp at hu; subst hu; exact h0
  | 1, hu => simp at hu; subst hu; exact h1
  | 2, hu => simp at hu; subst hu; exact h2
  | n + 3, hu => simp at hu

theorem reps_flat {α : Type} (g : α → List Value) (hg : ∀ p, (g p).length = 3) (ps : List α) : ∀ cs : List Value, Reps (fun p c => c = g p) 3 ps cs → cs = ps.flatMap g := by
  induction ps with
  | nil => intro cs h; have := h.1; simp at this; simpa using this
  | cons a ps ih =>
    intro cs h
    have h0 := h.2 0 a rfl
    rw [Nat.zero_mul, List.drop_zero] at h0
    have h1 : Reps (fun p c => c = g p) 3 ps (cs.drop 3) := by
      refine ⟨by rw [List.length_drop, h.1]; simp; omega, fun j p hp => ?_⟩
      have := h.2 (j + 1) p hp
      rw [List.drop_drop, show 3 + j * 3 = (j + 1) * 3 by omega]
      exact this
    rw [List.flatMap_cons, ← h0, ← ih _ h1, List.take_append_drop]

theorem cells_of_R {w : World} {base : Nat} {ok : Nat → Prop} {v : Value} {cs : List (Nat × Int)} (h : Kd.R k63 63 w base ok v (cs.map toS)) : w.ownsRow base 63 3 v cs.length (cellVs cs) := by
  obtain ⟨_, inner, ho, hr⟩ := h
  have h2 : Reps (fun (p : S63) c => c = [.int .i64 p.f0, .string p.f1, .int .i64 p.f2]) 3 (cs.map toS) inner := hr.imp_ fun p c hp => k63_openM hp
  have h3 := reps_flat _ (fun _ => rfl) _ _ h2
  rw [List.flatMap_map] at h3
  have h4 : inner = cellVs cs := h3
  rw [h4, List.length_map] at ho
  exact ho

theorem R_of_cells {w : World} {base : Nat} {v : Value} {cs : List (Nat × Int)} (h : w.ownsRow base 63 3 v cs.length (cellVs cs)) : Kd.R k63 63 w base (fun _ => True) v (cs.map toS) := by
  refine ⟨fun _ _ => trivial, cellVs cs, by rw [List.length_map]; exact h, ?_⟩
  refine ⟨by rw [cellVs_length, List.length_map, Nat.mul_comm]; rfl, fun j p hp => ?_⟩
  have hj : j < cs.length := by have := (List.getElem?_eq_some_iff.1 hp).1; simpa using this
  rw [List.getElem?_map, List.getElem?_eq_getElem hj] at hp
  obtain rfl := Option.some.inj hp
  have e : ((cellVs cs).drop (j * 3)).take 3 = cellV cs[j] := by
    have h1 : cs = cs.take j ++ cs[j] :: cs.drop (j + 1) := by rw [← List.drop_eq_getElem_cons hj, List.take_append_drop]
    have h2 : cellVs cs = cellVs (cs.take j) ++ (cellV cs[j] ++ cellVs (cs.drop (j + 1))) := by
      conv => lhs; rw [h1]
      rw [cellVs_append]; rfl
    rw [h2, List.drop_left' (by rw [cellVs_length, List.length_take]; omega)]
    exact List.take_left' rfl
  show k63.M w base _ (toS cs[j]) (((cellVs cs).drop (j * 3)).take 3)
  rw [e]
  exact k63_mkM w base _ (toS cs[j])

/-! ### Windows -/
theorem win_l1 {f : Nat → Nat → Int} {nv j : Nat} (hj : j < nv) (h2 : nv ≤ 1000) (hR : RightV f j) (t m : Int) (xs : List Int) (hx : ∀ a ∈ xs, -3000000000000000000 ≤ a ∧ a ≤ 3000000000000000000) (hxl : xs.length ≤ 1000) (F : Nat) :
    ∀ n i : Nat, i + n = xs.length → ∀ (acc : List S63) (b : Bool), acc.length ≤ 100000 + i → spateref13_Windows.l1 (F + n + 1) t m (VL f nv) acc b j xs i =
      spateref13_Windows.l0 F t m (VL f nv) (acc ++ ((xs.drop i).filter (fun a => !cl (f j 0) (f j 2) m a)).map fun a => toS (j, a)) (b || decide (0 < n)) ((j : Int) + 1) := by
  intro n
  induction n with
  | zero =>
    intro i hi acc b hacc
    simp only [spateref13_Windows.l1]
    rw [if_neg (by omega), List.drop_of_length_le (by omega), Math2.wrap_in (by omega) (by omega)]
    simp
  | succ n ih =>
    intro i hi acc b hacc
    obtain ⟨G, hG⟩ : ∃ G, G = F + n + 1 := ⟨_, rfl⟩
    rw [show F + (n + 1) + 1 = G + 1 by omega]
    have hi' : i < xs.length := by omega
    have hb := hx xs[i] (List.getElem_mem hi')
    have hr : Right (f j 0) (f j 1) (f j 2) := hR
    have hc : spateref4_Closed.f (f j 0) (f j 1) (f j 2) xs[i] m = some (cl (f j 0) (f j 2) m xs[i]) := by
      have s1 := hr.s1
      have s2 := hr.s2
      have l1 := hr.l1
      have l2 := hr.l2
      unfold spateref4_Closed.f cl
      rw [Math2.wrap_in (n := xs[i] + f j 0) (by omega) (by omega), Math2.wrap_in (n := xs[i] + f j 0 + f j 2) (by omega) (by omega)]
    have hrd : rd xs i = xs[i] := by
      unfold rd
      rw [Int.toNat_natCast, List.getD_eq_getElem?_getD, List.getElem?_eq_getElem hi']
      rfl
    simp only [spateref13_Windows.l1]
    rw [if_pos (by omega), if_pos (by omega), if_pos (by rw [VL_length]; omega), if_pos (by omega), rd_VL f nv j hj, hrd, hc]
    simp only [Option.bind_some]
    rw [List.drop_eq_getElem_cons hi', List.filter_cons, Math2.wrap_in (n := (i : Int) + 1) (by omega) (by omega), hG]
    have hd : decide (0 < n + 1) = true := by simp
    by_cases hcl : cl (f j 0) (f j 2) m xs[i] = true
    · rw [if_pos hcl, hcl, if_neg (by decide), hd]
      have := ih (i + 1) (by omega) acc true (by omega)
      simpa using this
    · rw [if_neg hcl, if_pos (by omega), Bool.eq_false_iff.mpr hcl, if_pos (by decide), hd]
      have := ih (i + 1) (by omega) (acc ++ [(⟨(j : Int), (⟨#[]⟩ : ByteArray), xs[i]⟩ : S63)]) true (by simp; omega)
      rw [List.append_assoc] at this
      simpa [toS] using this

theorem win_l0 {f : Nat → Nat → Int} {nv : Nat} (h4 : nv ≤ 4) (hgood : AllRight f nv) {t : Int} (ht : Tm t) (m : Int) : ∀ n j : Nat, j + n = nv → ∀ F, 200 + 70 * n ≤ F →
    spateref13_Windows.l0 F t m (VL f nv) ((cellsOf f t m j).map toS) (decide (0 < winds f t j)) j = some ((cellsOf f t m nv).map toS, decide (winds f t nv > 0) && decide ((cellsOf f t m nv).length = 0)) := by
  intro n
  induction n with
  | zero =>
    intro j hj F hF
    obtain ⟨F, rfl⟩ : ∃ G, F = G + 1 := ⟨F - 1, by omega⟩
    obtain rfl : j = nv := by omega
    simp only [spateref13_Windows.l0]
    rw [if_neg (by rw [VL_length]; omega)]
    by_cases hw : 0 < winds f t j
    · rw [decide_eq_true hw, if_pos rfl, List.length_map, Bool.true_and]
      congr 2
      rw [Bool.eq_iff_iff]
      simp
    · rw [decide_eq_false hw, if_neg (by decide), Bool.false_and]
  | succ n ih =>
    intro j hj F hF
    obtain ⟨F, rfl⟩ : ∃ G, F = G + 1 := ⟨F - 1, by omega⟩
    have hjn : j < nv := by omega
    have hR := hgood j hjn
    have hr : Right (f j 0) (f j 1) (f j 2) := hR
    obtain ⟨_, h64⟩ := cnt_le hr t
    have hl := starts_length (f j 0) (f j 1) t
    simp only [spateref13_Windows.l0]
    rw [if_pos (by rw [VL_length]; omega), if_pos (by omega), rd_VL f nv j hjn, rstarts_eq hr ht F (by omega)]
    simp only [Option.bind_some]
    obtain ⟨G, rfl⟩ : ∃ G, F = G + (starts (f j 0) (f j 1) t).length + 1 := ⟨F - (starts (f j 0) (f j 1) t).length - 1, by omega⟩
    have hcl := cellsOf_le (f := f) (n := j) (fun i hi => hgood i (by omega)) t m
    have e := win_l1 hjn (by omega) hR t m (starts (f j 0) (f j 1) t) (starts_big hr ht) (by omega) G (starts (f j 0) (f j 1) t).length 0 (by omega) ((cellsOf f t m j).map toS) (decide (0 < winds f t j)) (by simp; omega)
    rw [show ((0 : Nat) : Int) = 0 from rfl] at e
    rw [e]
    have e2 := ih (j + 1) (by omega) G (by omega)
    rw [cellsOf_succ, winds_succ, List.map_append, List.map_map] at e2
    rw [List.drop_zero, show ((j + 1 : Nat) : Int) = (j : Int) + 1 by omega] at *
    have e3 : (decide (0 < winds f t j) || decide (0 < (starts (f j 0) (f j 1) t).length)) = decide (0 < winds f t j + (starts (f j 0) (f j 1) t).length) := by
      rw [Bool.eq_iff_iff]; simp; omega
    rw [e3]
    exact e2

theorem windows_eq {f : Nat → Nat → Int} {nv : Nat} (h4 : nv ≤ 4) (hgood : AllRight f nv) {t : Int} (ht : Tm t) (m : Int) :
    spateref13_Windows.f 1000 t m (VL f nv) = some ((cellsOf f t m nv).map toS, decide (winds f t nv > 0) && decide ((cellsOf f t m nv).length = 0)) := by
  have h := win_l0 h4 hgood ht m nv 0 (by omega) 1000 (by omega)
  rw [show cellsOf f t m 0 = [] from rfl, show winds f t 0 = 0 from rfl] at h
  exact h

/-- Is a time late? -/
def lateB (f : Nat → Nat → Int) (t m : Int) (nv : Nat) : Bool := decide (winds f t nv > 0) && decide ((cellsOf f t m nv).length = 0)

theorem windows_c {f : Nat → Nat → Int} {nv cv : Nat} (h4 : nv ≤ 4) (hcv : nv ≤ cv) (hgood : AllRight f nv) {t : Int} (ht : Tm t) (m : Int) (w : World) (A : Option Addr) (hV : Views w A nv f) :
    Calls Try.prog 40 #[.int .i64 t, .int .i64 m, .slice A nv cv] w fun e w' => ∃ v, e = .returned (.tuple #[v, .bool (lateB f t m nv)]) ∧
      w'.ownsRow w.heap.size 63 3 v (cellsOf f t m nv).length (cellVs (cellsOf f t m nv)) ∧ Below w.heap.size w w' := by
  have h := spateref13_Windows.calls 1000 t m A cv (VL f nv) _ _ w (hV.C (by omega)) (by rw [VL_length]; exact hcv) (windows_eq h4 hgood ht m)
  rw [VL_length] at h
  exact h.mono fun _ _ ⟨v, he, hr, hb⟩ => ⟨v, he, cells_of_R hr, hb⟩

theorem rcheck_ok {s d l : Int} (h : Right s d l) (w : World) : Calls Try.prog 39 #[.agg #[.int .i64 s, .int .i64 d, .int .i64 l]] w fun e w' => e = .returned (.int .i64 0) ∧ Below w.heap.size w w' :=
  spateref4_Check.calls s d l 0 w (by rw [rcheck_eq, check_eq, if_pos h])
theorem rcheck_no {s d l : Int} (h : ¬ Right s d l) (w : World) : Calls Try.prog 39 #[.agg #[.int .i64 s, .int .i64 d, .int .i64 l]] w fun e w' => e = .returned (.int .i64 23) ∧ Below w.heap.size w w' :=
  spateref4_Check.calls s d l 23 w (by rw [rcheck_eq, check_eq, if_neg h])

theorem ropen_many (w : World) (g : Nat) (t : Int) (A : Option Addr) (nv cv : Nat) (h : 4 < nv) (h2 : nv ≤ 1000000000000000) :
    Calls Try.prog 24 #[.pointer (some ⟨g, 0, none⟩), .int .i64 t, .slice A nv cv] w fun e w' => e = .returned (.tuple #[.slice none 0 0, .bool false, .int .i64 2]) ∧ w = w' := by
  go_enter Try.func24, Try.ntmps24
  go_wp2
  go_ret3
  exact ⟨rfl, rfl⟩

set_option maxHeartbeats 800000 in
theorem ropen_bad (w : World) (g : Nat) (t : Int) (A : Option Addr) (nv cv : Nat) (f : Nat → Nat → Int) (hV : Views w A nv f) (h4 : nv ≤ 4) (k0 : Nat) (hk0 : k0 < nv) (hbad : ¬ RightV f k0) (hgood0 : AllRight f k0) :
    Calls Try.prog 24 #[.pointer (some ⟨g, 0, none⟩), .int .i64 t, .slice A nv cv] w fun e w' => e = .returned (.tuple #[.slice none 0 0, .bool false, .int .i64 23]) ∧ Below w.heap.size w w' := by
  obtain ⟨bv, ov, rfl, hbv, hcv⟩ := hV.at_ (by omega)
  have HC := Lib.hid hcv
  clear hcv
  have HG := Lib.hid hgood0
  have HB := Lib.hid hbad
  clear hgood0 hbad
  go_enter Try.func24, Try.ntmps24
  go_wp2_with fail
  go_loopw [9] (fun i wr => ∃ k : Nat, k ≤ k0 ∧ i = .int .i64 k ∧ Below w.heap.size w wr) (fun i _ => k0 - (intOf i).toNat)
  case atStart => exact ⟨0, Nat.zero_le _, rfl, Below.refl _ _⟩
  case round =>
    obtain ⟨k, hk, rfl, hbel⟩ := hrel
    have hkn : k < nv := by omega
    obtain ⟨e0, e1, e2⟩ := HC.out k hkn
    have d0 := (hbel.cell (p := ⟨bv, ov + k * 3, none⟩) hbv).trans e0
    have d1 := (hbel.cell (p := ⟨bv, ov + k * 3 + 1, none⟩) hbv).trans e1
    have d2 := (hbel.cell (p := ⟨bv, ov + k * 3 + 2, none⟩) hbv).trans e2
    clear e0 e1 e2
    by_cases hkk : k = k0
    · subst hkk
      go_wp2_with fail
      refine (rcheck_no (show ¬ Right (f k 0) (f k 1) (f k 2) from HB.out) _).mono ?_
      rintro e w1 ⟨rfl, hb1⟩
      have hbel1 : Below w.heap.size w w1 := Below.then_ hbel hbel.size hb1
      clear d0 d1 d2
      go_wp2
      go_ret3
      exact ⟨rfl, hbel1⟩
    · have hr : Right (f k 0) (f k 1) (f k 2) := HG.out k (by omega)
      go_wp2_with fail
      refine (rcheck_ok hr _).mono ?_
      rintro e w1 ⟨rfl, hb1⟩
      have hbel1 : Below w.heap.size w w1 := Below.then_ hbel hbel.size hb1
      clear d0 d1 d2
      go_wp2
      go_roundw
      case rel => exact ⟨k + 1, by omega, by go_num, hbel1⟩
      case measure => simp [intOf]; omega

set_option maxHeartbeats 800000 in
theorem ropen_late (w : World) (g : Nat) (t : Int) (A : Option Addr) (nv cv : Nat) (f : Nat → Nat → Int) (hV : Views w A nv f) (h4 : nv ≤ 4) (hgood : AllRight f nv) (ht : t < -1152921504606846976 ∨ 1152921504606846976 < t) :
    Calls Try.prog 24 #[.pointer (some ⟨g, 0, none⟩), .int .i64 t, .slice A nv cv] w fun e w' => e = .returned (.tuple #[.slice none 0 0, .bool false, .int .i64 22]) ∧ Below w.heap.size w w' := by
  have HG := Lib.hid hgood
  clear hgood
  go_enter Try.func24, Try.ntmps24
  go_wp2_with fail
  go_loopw [9] (fun i wr => ∃ k : Nat, k ≤ nv ∧ i = .int .i64 k ∧ Below w.heap.size w wr) (fun i _ => nv - (intOf i).toNat)
  case atStart => exact ⟨0, Nat.zero_le _, rfl, Below.refl _ _⟩
  case round =>
    obtain ⟨k, hk, rfl, hbel⟩ := hrel
    by_cases hkn : k < nv
    · obtain ⟨bv, ov, rfl, hbv, hcv⟩ := hV.at_ (by omega)
      obtain ⟨e0, e1, e2⟩ := hcv k hkn
      clear hcv
      have d0 := (hbel.cell (p := ⟨bv, ov + k * 3, none⟩) hbv).trans e0
      have d1 := (hbel.cell (p := ⟨bv, ov + k * 3 + 1, none⟩) hbv).trans e1
      have d2 := (hbel.cell (p := ⟨bv, ov + k * 3 + 2, none⟩) hbv).trans e2
      clear e0 e1 e2
      go_wp2_with fail
      refine (rcheck_ok (show Right (f k 0) (f k 1) (f k 2) from HG.out k hkn) _).mono ?_
      rintro e w1 ⟨rfl, hb1⟩
      have hbel1 : Below w.heap.size w w1 := Below.then_ hbel hbel.size hb1
      clear d0 d1 d2
      go_wp2
      go_roundw
      case rel => exact ⟨k + 1, by omega, by go_num, hbel1⟩
      case measure => simp [intOf]; omega
    · by_cases h0 : t < -1152921504606846976
      · go_wp2
        go_ret3
        exact ⟨rfl, hbel⟩
      · have h1 : 1152921504606846976 < t := by omega
        go_wp2
        go_ret3
        exact ⟨rfl, hbel⟩

set_option maxHeartbeats 800000 in
theorem ropen_good (w : World) (g b cap : Nat) (L : List Int) (hM : RMarks w g b cap L) (hL1 : 1 ≤ L.length) (hL2 : L.length ≤ 1000000) (t : Int) (A : Option Addr) (nv cv : Nat) (hcv0 : nv ≤ cv) (f : Nat → Nat → Int) (hV : Views w A nv f) (h4 : nv ≤ 4) (hgood : AllRight f nv) (ht : Tm t) :
    Calls Try.prog 24 #[.pointer (some ⟨g, 0, none⟩), .int .i64 t, .slice A nv cv] w fun e w' =>
      ∃ v, e = .returned (.tuple #[v, .bool (lateB f t (least L) nv), .int .i64 0]) ∧ w'.ownsRow w.heap.size 63 3 v (cellsOf f t (least L) nv).length (cellVs (cellsOf f t (least L) nv)) ∧ Below w.heap.size w w' := by
  have HG := Lib.hid hgood
  clear hgood
  have t0 := ht.lo
  have t1 := ht.hi
  go_enter Try.func24, Try.ntmps24
  go_wp2_with fail
  go_loopw [9] (fun i wr => ∃ k : Nat, k ≤ nv ∧ i = .int .i64 k ∧ Below w.heap.size w wr) (fun i _ => nv - (intOf i).toNat)
  case atStart => exact ⟨0, Nat.zero_le _, rfl, Below.refl _ _⟩
  case round =>
    obtain ⟨k, hk, rfl, hbel⟩ := hrel
    by_cases hkn : k < nv
    · obtain ⟨bv, ov, rfl, hbv, hcv⟩ := hV.at_ (by omega)
      obtain ⟨e0, e1, e2⟩ := hcv k hkn
      clear hcv
      have d0 := (hbel.cell (p := ⟨bv, ov + k * 3, none⟩) hbv).trans e0
      have d1 := (hbel.cell (p := ⟨bv, ov + k * 3 + 1, none⟩) hbv).trans e1
      have d2 := (hbel.cell (p := ⟨bv, ov + k * 3 + 2, none⟩) hbv).trans e2
      clear e0 e1 e2
      go_wp2_with fail
      refine (rcheck_ok (show Right (f k 0) (f k 1) (f k 2) from HG.out k hkn) _).mono ?_
      rintro e w1 ⟨rfl, hb1⟩
      have hbel1 : Below w.heap.size w w1 := Below.then_ hbel hbel.size hb1
      clear d0 d1 d2
      go_wp2
      go_roundw
      case rel => exact ⟨k + 1, by omega, by go_num, hbel1⟩
      case measure => simp [intOf]; omega
    · have hM1 := hM.only (Only.of_below (fs := []) hbel) (by simp) (by simp)
      have hV1 := hV.below (B := w.heap.size) hbel
      go_wp2_with fail
      refine (rleast_any _ g b cap L hM1 hL1 hL2).mono ?_
      rintro e w1 ⟨rfl, rfl⟩
      go_wp2_with fail
      refine (windows_c h4 hcv0 HG.out ht (least L) _ A hV1).mono ?_
      rintro e w1 ⟨v, rfl, hown, hb1⟩
      go_wp2
      go_ret3
      exact ⟨v, rfl, own_mono hown hbel.size, Below.then_ hbel hbel.size hb1⟩

/-! ### Both: what they tell -/
instance (t : Int) : Decidable (Tm t) := decidable_of_iff (-1152921504606846976 ≤ t ∧ t ≤ 1152921504606846976) ⟨fun h => ⟨h.1, h.2⟩, fun h => ⟨h.lo, h.hi⟩⟩
/-- The error; the cells; whether it is late. -/
def oE (f : Nat → Nat → Int) (t : Int) (nv : Nat) : Int := if 4 < nv then 2 else if ∀ i, i < nv → RightV f i then (if Tm t then 0 else 22) else 23
def oC (f : Nat → Nat → Int) (t m : Int) (nv : Nat) : List (Nat × Int) := if oE f t nv = 0 then cellsOf f t m nv else []
def oL (f : Nat → Nat → Int) (t m : Int) (nv : Nat) : Bool := if oE f t nv = 0 then lateB f t m nv else false

theorem first_bad {f : Nat → Nat → Int} {nv : Nat} (h : ¬ ∀ i, i < nv → RightV f i) : ∃ k, k < nv ∧ ¬ RightV f k ∧ AllRight f k := by
  induction nv with
  | zero => exact absurd (fun i hi => absurd hi (by omega)) h
  | succ n ih =>
    by_cases h1 : ∀ i, i < n → RightV f i
    · refine ⟨n, by omega, fun hr => h fun i hi => ?_, h1⟩
      by_cases e : i = n
      · subst e; exact hr
      · exact h1 i (by omega)
    · obtain ⟨k, a, b, c⟩ := ih h1
      exact ⟨k, by omega, b, c⟩

theorem not_tm {t : Int} (h : ¬ Tm t) : t < -1152921504606846976 ∨ 1152921504606846976 < t := by
  rcases Int.lt_or_le t (-1152921504606846976) with h0 | h0
  · exact .inl h0
  · rcases Int.lt_or_le 1152921504606846976 t with h1 | h1
    · exact .inr h1
    · exact absurd ⟨h0, h1⟩ h

theorem mopen_any (w : World) (g b : Nat) (L : List Int) (hM : Marks w g b L) (hL1 : 1 ≤ L.length) (hL2 : L.length ≤ 1000000) (t : Int) (A : Option Addr) (nv cv : Nat) (f : Nat → Nat → Int) (hV : Views w A nv f) (hn : nv ≤ 1000000000000000) :
    Calls Try.prog 23 #[.pointer (some ⟨g, 0, none⟩), .int .i64 t, .slice A nv cv] w fun e w' =>
      ∃ v, e = .returned (.tuple #[v, .bool (oL f t (least L) nv), .int .i64 (oE f t nv)]) ∧ w'.ownsRow w.heap.size 63 3 v (oC f t (least L) nv).length (cellVs (oC f t (least L) nv)) ∧ Below w.heap.size w w' := by
  unfold oL oC oE
  by_cases h4 : 4 < nv
  · rw [if_pos h4, if_neg (by decide), if_neg (by decide)]
    exact (mopen_many w g t A nv cv h4 hn).mono fun e w' ⟨he, hw⟩ => ⟨_, he, World.ownsRow_nil _ _ _ _, by subst hw; exact Below.refl _ _⟩
  · rw [if_neg h4]
    by_cases hr : ∀ i, i < nv → RightV f i
    · rw [if_pos hr]
      by_cases ht : Tm t
      · rw [if_pos ht, if_pos rfl, if_pos rfl]
        exact mopen_good w g b L hM hL1 hL2 t A nv cv f hV (by omega) hr ht
      · rw [if_neg ht, if_neg (by decide), if_neg (by decide)]
        exact (mopen_late w g t A nv cv f hV (by omega) hr (not_tm ht)).mono fun e w' ⟨he, hw⟩ => ⟨_, he, World.ownsRow_nil _ _ _ _, hw⟩
    · rw [if_neg hr, if_neg (by decide), if_neg (by decide)]
      obtain ⟨k, hk, hb, hg⟩ := first_bad hr
      exact (mopen_bad w g t A nv cv f hV (by omega) k hk hb hg).mono fun e w' ⟨he, hw⟩ => ⟨_, he, World.ownsRow_nil _ _ _ _, hw⟩

theorem ropen_any (w : World) (g b cap : Nat) (L : List Int) (hM : RMarks w g b cap L) (hL1 : 1 ≤ L.length) (hL2 : L.length ≤ 1000000) (t : Int) (A : Option Addr) (nv cv : Nat) (hcv : nv ≤ cv) (f : Nat → Nat → Int) (hV : Views w A nv f) (hn : nv ≤ 1000000000000000) :
    Calls Try.prog 24 #[.pointer (some ⟨g, 0, none⟩), .int .i64 t, .slice A nv cv] w fun e w' =>
      ∃ v, e = .returned (.tuple #[v, .bool (oL f t (least L) nv), .int .i64 (oE f t nv)]) ∧ w'.ownsRow w.heap.size 63 3 v (oC f t (least L) nv).length (cellVs (oC f t (least L) nv)) ∧ Below w.heap.size w w' := by
  unfold oL oC oE
  by_cases h4 : 4 < nv
  · rw [if_pos h4, if_neg (by decide), if_neg (by decide)]
    exact (ropen_many w g t A nv cv h4 hn).mono fun e w' ⟨he, hw⟩ => ⟨_, he, World.ownsRow_nil _ _ _ _, by subst hw; exact Below.refl _ _⟩
  · rw [if_neg h4]
    by_cases hr : ∀ i, i < nv → RightV f i
    · rw [if_pos hr]
      by_cases ht : Tm t
      · rw [if_pos ht, if_pos rfl, if_pos rfl]
        exact ropen_good w g b cap L hM hL1 hL2 t A nv cv hcv f hV (by omega) hr ht
      · rw [if_neg ht, if_neg (by decide), if_neg (by decide)]
        exact (ropen_late w g t A nv cv f hV (by omega) hr (not_tm ht)).mono fun e w' ⟨he, hw⟩ => ⟨_, he, World.ownsRow_nil _ _ _ _, hw⟩
    · rw [if_neg hr, if_neg (by decide), if_neg (by decide)]
      obtain ⟨k, hk, hb, hg⟩ := first_bad hr
      exact (ropen_bad w g t A nv cv f hV (by omega) k hk hb hg).mono fun e w' ⟨he, hw⟩ => ⟨_, he, World.ownsRow_nil _ _ _ _, hw⟩

end Go.Proofs.Ytdnamidhbloaoaa.Mark
