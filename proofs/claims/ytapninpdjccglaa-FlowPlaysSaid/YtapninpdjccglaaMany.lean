/-
  The call of the law FlowMany: it returns true, whatever the input.
-/
import Derived.Test.YtapninpdjccglaaG5
set_option linter.unusedVariables false
set_option linter.unusedSimpArgs false
namespace Go.Proofs.Ytapninpdjccglaa.C
open Go.RowKit Go.Proofs.Ytapninpdjccglaa.K

theorem small_c (w : World) (a n : Int) (hn : 0 < n) (hn2 : n ≤ 1099511627776) : Calls Try.prog 16 #[.int .i64 a, .int .i64 n] w fun e w' => ∃ r : Int, e = .returned (.int .i64 r) ∧ 1 ≤ r ∧ r ≤ n ∧ w = w' := by
  have h1 : Int.tmod a n < n := Int.tmod_lt_of_pos _ hn
  have h2 : -n < Int.tmod a n := by
    have := Int.tmod_lt_of_pos (-a) hn
    rw [Int.neg_tmod] at this
    omega
  have h0 : n ≠ 0 := by omega
  by_cases hneg : Int.tmod a n < 0
  · have hr1 : 0 ≤ Int.tmod a n + n ∧ Int.tmod a n + n < n := by omega
    generalize hk : Int.tmod a n = k at *
    go_enter Try.func16, Try.ntmps16
    go_wp2
    go_ret
    exact ⟨k + n + 1, by first | rfl | simp, by omega, by omega, rfl⟩
  · generalize hk : Int.tmod a n = k at *
    have hk0 : 0 ≤ k := by omega
    go_enter Try.func16, Try.ntmps16
    go_wp2
    go_ret
    exact ⟨k + 1, by first | rfl | simp, by omega, by omega, rfl⟩

def Q (A B : List It) : FS := ⟨2, 1, 1, fun i => if i = 0 then A else if i = 1 then B else [], fun _ => 0, fun _ => []⟩
def Q1 (A B : List It) (x : It) : FS := ⟨2, 1, 1, fun i => if i = 0 then A else if i = 1 then B else [], fun _ => 0, fun j => if j = 0 then [⟨0, x⟩] else []⟩
def ev (key : ByteArray) (v : Int) : It := ⟨false, key, 0, v⟩
def mk0 : It := ⟨true, ⟨#[]⟩, 0, 0⟩
theorem Q_new : FS.new 2 1 1 = Q [] [] := by
  unfold FS.new Q
  congr 1
  funext i
  split
  · rfl
  · split <;> rfl
theorem Q_putq (A B L : List It) : (Q A B).putq 0 L = Q L B := by
  unfold Q FS.putq
  congr 1
  funext k
  by_cases h : k = 0 <;> simp [h]
theorem Q_putq1 (A B L : List It) : (Q A B).putq 1 L = Q A L := by
  unfold Q FS.putq
  congr 1
  funext k
  by_cases h : k = 1
  · subst h; simp
  · simp [h]
theorem Q_put {A B : List It} {x : It} (hx : May x = 0) (hA : A.length ≠ 65536) : (Q A B).put 0 x = (0, Q (A ++ [x]) B) := by
  unfold FS.put
  rw [if_pos (by show (0 : Int) ≤ 0 ∧ (0 : Int) < ((2 : Nat) : Int); omega), if_pos hx]
  show (if A.length = 65536 then (2, Q A B) else (0, (Q A B).putq 0 (A ++ [x]))) = _
  rw [if_neg hA, Q_putq]
theorem Q_full {A B : List It} {x : It} (hx : May x = 0) (hA : A.length = 65536) : (Q A B).put 0 x = (2, Q A B) := by
  unfold FS.put
  rw [if_pos (by show (0 : Int) ≤ 0 ∧ (0 : Int) < ((2 : Nat) : Int); omega), if_pos hx]
  show (if A.length = 65536 then (2, Q A B) else (0, (Q A B).putq 0 (A ++ [x]))) = _
  rw [if_pos hA]
theorem Q_put1 {A : List It} {x : It} (hx : May x = 0) : (Q A []).put 1 x = (0, Q A [x]) := by
  unfold FS.put
  rw [if_pos (by show (0 : Int) ≤ 1 ∧ (1 : Int) < ((2 : Nat) : Int); omega), if_pos hx]
  show (if ([] : List It).length = 65536 then (2, Q A []) else (0, (Q A []).putq 1 ([] ++ [x]))) = _
  rw [if_neg (by simp), Q_putq1]
  rfl
theorem rt_one (key : ByteArray) : rtN 1 key = 0 := by
  have := (rtN_eq 1 key (by omega) (by omega)).2
  omega
theorem Q_pass {A B : List It} {x : It} (hx : x.mark = false) : (Q (x :: A) B).pass 0 = (0, 0, Q1 A B x) := by
  unfold FS.pass
  rw [if_pos (by show (0 : Int) ≤ 0 ∧ (0 : Int) < ((2 : Nat) : Int); omega)]
  have hg : (Q (x :: A) B).goes 0 x = 0 := by
    unfold FS.goes
    rw [hx]
    exact rt_one x.key
  show (if ((Q (x :: A) B).b ((Q (x :: A) B).goes 0 x)).length = 1 then _ else if x.mark = true ∧ _ then _ else (((((Q (x :: A) B).goes 0 x : Nat)) : Int), (0 : Int), (((Q (x :: A) B).putb ((Q (x :: A) B).goes 0 x) ((Q (x :: A) B).b ((Q (x :: A) B).goes 0 x) ++ [⟨0, x⟩])).putq 0 A).putto 0 0)) = _
  rw [hg, if_neg (by show ¬ (([] : List Ms).length = 1); simp), if_neg (by rw [hx]; rintro ⟨h, _⟩; cases h)]
  refine congrArg (fun z => ((0 : Int), (0 : Int), z)) ?_
  unfold Q Q1 FS.putb FS.putq FS.putto
  congr 1
  · funext k
    by_cases h : k = 0 <;> simp [h]
  · funext k
    by_cases h : k = 0 <;> simp [h]
theorem Q_take {A B : List It} {x : It} : (Q1 A B x).take 0 = (0, x, 0, Q A B) := by
  unfold FS.take
  rw [if_pos (by show (0 : Int) ≤ 0 ∧ (0 : Int) < ((1 : Nat) : Int); omega)]
  show ((0 : Int), x, (0 : Int), (Q1 A B x).putb 0 []) = _
  refine congrArg (fun z => ((0 : Int), x, (0 : Int), z)) ?_
  unfold Q Q1 FS.putb
  congr 1
  funext k
  by_cases h : k = 0 <;> simp [h]
theorem may_ev {key : ByteArray} (h1 : 1 ≤ key.size) (h2 : key.size ≤ 32) (v : Int) : May (ev key v) = 0 := by
  have h : ¬ key.toList = [] := by
    rw [toList_nil_iff_emptyBytes]
    intro h
    have h3 := congrArg ByteArray.size h
    have h4 : ByteArray.empty.size = 0 := rfl
    omega
  unfold May ev
  rw [if_neg (by rintro ⟨_, h3 | h3⟩; exact h h3; exact absurd h3 (by show ¬ 32 < key.size; omega)), if_neg (by show ¬ ((0 : Int) < _ ∨ _ < (0 : Int)); omega), if_neg (by rintro ⟨h3, _⟩; cases h3)]
theorem may_mk0 : May mk0 = 0 := by
  have h : (⟨#[]⟩ : ByteArray).toList = [] := by rw [toList_nil_iff_emptyBytes]; rfl
  unfold May mk0
  rw [if_neg (by rintro ⟨h1, _⟩; cases h1), if_neg (by decide), if_neg (by rintro ⟨_, h1 | h1⟩; exact h1 h; exact h1 rfl)]

/-- The items of source 0 behind i turns: n in all. -/
def left (key : ByteArray) (n i : Nat) : List It := ((List.range n).map (fun j : Nat => ev key j)).drop i ++ List.replicate i (ev key 0)
def evs (key : ByteArray) (k : Nat) : List It := (List.range k).map (fun j : Nat => ev key j)
theorem evs_length (key : ByteArray) (k : Nat) : (evs key k).length = k := by simp [evs]
theorem evs_succ (key : ByteArray) (k : Nat) : evs key (k + 1) = evs key k ++ [ev key k] := by simp [evs, List.range_succ]
theorem left_length (key : ByteArray) (n i : Nat) (h : i ≤ n) : (left key n i).length = n := by simp [left]; omega
theorem left_zero (key : ByteArray) (n : Nat) : left key n 0 = evs key n := by simp [left, evs]
def rest (key : ByteArray) (n i : Nat) : List It := ((List.range n).map (fun j : Nat => ev key j)).drop (i + 1) ++ List.replicate i (ev key 0)
theorem left_cons (key : ByteArray) (n i : Nat) (h : i < n) : left key n i = ev key i :: rest key n i := by
  unfold left rest
  rw [List.drop_eq_getElem_cons (by simp; exact h)]
  simp
theorem rest_snoc (key : ByteArray) (n i : Nat) : rest key n i ++ [ev key 0] = left key n (i + 1) := by
  unfold left rest
  rw [List.append_assoc, List.replicate_succ']
theorem rest_length (key : ByteArray) (n i : Nat) (h : i < n) : (rest key n i).length + 1 = n := by simp [rest]; omega

set_option maxRecDepth 100000 in
set_option maxHeartbeats 3200000 in
theorem many_walk (key : ByteArray) (hk : key.size ≤ 140737488351232) (more : Int) (hmore : (Lit.int .i64 more).wf = true) (w : World) :
    Calls Try.prog 8 #[.string key, .int .i64 more] w fun e w' => e = .returned (.bool true) ∧ Below w.heap.size w w' := by
  by_cases hok : 1 ≤ key.size ∧ key.size ≤ 32
  · obtain ⟨hs1, hs2⟩ := hok
    have hm := fun v => may_ev hs1 hs2 v
    have Hm := Lib.hid hm
    have ks1 : ¬ (key.size : Int) < 1 := by omega
    have ks2 : ¬ (32 : Int) < (key.size : Int) := by omega
    have ks3 : (1 : Int) ≤ (key.size : Int) := by omega
    have ks4 : (key.size : Int) ≤ 32 := by omega
    clear hm hs1 hs2 hk hmore
    obtain ⟨M, hM⟩ : ∃ M : Nat, M = 65536 := ⟨_, rfl⟩
    have HM := Lib.hid hM
    go_enter Try.func8, Try.ntmps8
    go_wp2_with fail
    refine (known_c w).mono ?_
    rintro e w1 ⟨rfl, hb1⟩
    clear hM
    go_wp2_with fail
    refine (new_yes w1 (fun _ => 0) 1000 2 1 1 (by unfold okNew; decide)).mono ?_
    rintro e w2 ⟨g, σ2, rfl, h2, c2, hg⟩
    rw [Q_new] at h2
    have hb2 : Below w.heap.size w w2 := Below.then_ hb1 hb1.size ⟨c2.os, c2.tape, c2.output, c2.size, fun b hb => c2.block b hb (fun h => h)⟩
    have c3 : Chg (Of 1000) (fun _ => 0) w σ2 w2 := (Chg.of_below (Of 1000) (fun _ => 0) hb1).trans (c2.mono (fun _ h => h.elim))
    have hi0 : FInv (Q [] []) := by rw [← Q_new]; exact FInv.new (by unfold okNew; decide)
    have St := Lib.hid (And.intro hb1 (And.intro c2 hb2))
    have H2 := Lib.hid (And.intro h2 (And.intro hi0 c3))
    clear h2 c2 hg hb1 hb2 c3 hi0
    go_wp2_with fail
    go_loopw [7] (fun i wr => ∃ (k : Nat) (σ : Nat → Nat), k ≤ M ∧ i = .int .i64 k ∧ FlowAt wr σ 1000 g (Q (evs key k) []) ∧ FInv (Q (evs key k) []) ∧ Chg (Of 1000) (fun _ => 0) w σ wr) (fun i _ => M - (intOf i).toNat)
    case atStart => exact ⟨0, σ2, Nat.zero_le _, rfl, H2.out.1, H2.out.2.1, H2.out.2.2⟩
    case round =>
      clear H2
      obtain ⟨k, σ, hk, rfl, hF, hI, hc⟩ := hrel
      have HF := Lib.hid (And.intro hF (And.intro hI hc))
      clear hF hI hc
      by_cases hlt : k < M
      · have hk1 : (k : Int) < 65536 := by have := HM.out; omega
        go_wp2_with fail
        refine (put_any wr σ 1000 g _ HF.out.1 0 (ev key k)).mono ?_
        rintro e w3 ⟨he, σ3, h3, c3⟩
        have hp := Q_put (A := evs key k) (B := []) (Hm.out k) (by rw [evs_length]; have := HM.out; omega)
        have hi3 := HF.out.2.1.put 0 (ev key k)
        rw [hp, ← evs_succ] at hi3 h3
        rw [hp] at he
        obtain rfl : e = .returned (.int .i64 0) := he
        have H3 := Lib.hid (And.intro h3 (And.intro hi3 (HF.out.2.2.trans c3)))
        clear h3 hi3 c3 hp HF
        go_wp2_with fail
        go_roundw
        case rel => exact ⟨k + 1, σ3, by omega, by go_num, H3.out.1, H3.out.2.1, H3.out.2.2⟩
        case measure => simp [intOf]; omega
      · have hkM : k = M := by omega
        have hk1 : ¬ (k : Int) < 65536 := by have := HM.out; omega
        have hkn : (k : Int) = 65536 := by have := HM.out; omega
        have Hkn := Lib.hid (And.intro hkM hkn)
        clear hkn hkM
        go_wp2_with fail
        refine (put_any wr σ 1000 g _ HF.out.1 0 (ev key 0)).mono ?_
        rintro e w3 ⟨he, σ3, h3, c3⟩
        have hp := Q_full (A := evs key k) (B := []) (Hm.out 0) (by rw [evs_length]; have := HM.out; have := Hkn.out.1; omega)
        have hi3 := HF.out.2.1.put 0 (ev key 0)
        rw [hp] at he h3 hi3
        obtain rfl : e = .returned (.int .i64 2) := he
        have H3 := Lib.hid (And.intro h3 (And.intro hi3 (HF.out.2.2.trans c3)))
        clear h3 hi3 c3 hp HF
        go_wp2_with fail
        refine (put_any w3 σ3 1000 g _ H3.out.1 0 mk0).mono ?_
        rintro e w4 ⟨he, σ4, h4, c4⟩
        have hp := Q_full (A := evs key k) (B := []) may_mk0 (by rw [evs_length]; have := HM.out; have := Hkn.out.1; omega)
        have hi4 := H3.out.2.1.put 0 mk0
        rw [hp] at he h4 hi4
        obtain rfl : e = .returned (.int .i64 2) := he
        have H4 := Lib.hid (And.intro h4 (And.intro hi4 (H3.out.2.2.trans c4)))
        clear h4 hi4 c4 hp H3
        go_wp2_with fail
        refine (put_any w4 σ4 1000 g _ H4.out.1 1 mk0).mono ?_
        rintro e w5 ⟨he, σ5, h5, c5⟩
        have hp := Q_put1 (A := evs key k) may_mk0
        have hi5 := H4.out.2.1.put 1 mk0
        rw [hp] at he h5 hi5
        obtain rfl : e = .returned (.int .i64 0) := he
        have H5 := Lib.hid (And.intro h5 (And.intro hi5 (H4.out.2.2.trans c5)))
        clear h5 hi5 c5 hp H4
        go_wp2_with fail
        refine (queued_c w5 σ5 1000 g _ H5.out.1 0 (by decide)).mono ?_
        rintro e w6 ⟨he, rfl⟩
        obtain rfl : e = .returned (.int .i64 65536) := by
          rw [he, if_pos (by show (0 : Int) ≤ 0 ∧ (0 : Int) < ((2 : Nat) : Int); omega)]
          show Ending.returned (.int .i64 ((evs key k).length : Int)) = _
          rw [evs_length, Hkn.out.2]
        clear he
        go_wp2_with fail
        go_loopw [8] (fun i wr => ∃ (j : Nat) (σ : Nat → Nat), j ≤ 20 ∧ i = .int .i64 j ∧ FlowAt wr σ 1000 g (Q (left key k j) [mk0]) ∧ FInv (Q (left key k j) [mk0]) ∧ Chg (Of 1000) (fun _ => 0) w σ wr) (fun i _ => 30 - (intOf i).toNat)
        case atStart => exact ⟨0, σ5, Nat.zero_le _, rfl, by rw [left_zero]; exact H5.out.1, by rw [left_zero]; exact H5.out.2.1, H5.out.2.2⟩
        case round =>
          clear H5
          obtain ⟨j, σ6, hj, rfl, hF, hI, hc⟩ := hrel
          have HF := Lib.hid (And.intro hF (And.intro hI hc))
          clear hF hI hc
          go_wp2_with fail
          refine (small_c wr more 9 (by omega) (by omega)).mono ?_
          rintro e w7 ⟨r, rfl, hr1, hr2, rfl⟩
          by_cases hjr : (j : Int) < 1 + r
          · have hj10 : j < k := by have := Hkn.out.1; have := HM.out; omega
            have hjs : j < 10 := by omega
            have hlc := left_cons key k j hj10
            go_wp2_with fail
            refine (pass_any wr σ6 1000 g _ HF.out.1 HF.out.2.1.ok HF.out.2.1.tz 0).mono ?_
            rintro e w8 ⟨he, σ8, h8, c8⟩
            have hp := Q_pass (A := rest key k j) (B := [mk0]) (x := ev key j) rfl
            have hi8 := HF.out.2.1.pass HF.out.1.good 0
            rw [hlc, hp] at he h8 hi8
            obtain rfl : e = .returned (.tuple #[.int .i64 0, .int .i64 0]) := he
            have H8 := Lib.hid (And.intro h8 (And.intro hi8 (HF.out.2.2.trans c8)))
            clear h8 hi8 c8 hp hlc HF
            go_wp2_with fail
            refine (take_c w8 σ8 1000 g (by decide) _ H8.out.1 0).mono ?_
            rintro e w9 ⟨he, σ9, h9, c9⟩
            have hi9 := H8.out.2.1.take 0
            rw [Q_take] at he h9 hi9
            obtain rfl : e = .returned (.tuple #[.int .i64 0, .agg #[.bool false, .string key, .int .i64 0, .int .i64 j], .int .i64 0]) := he
            have H9 := Lib.hid (And.intro h9 (And.intro hi9 (H8.out.2.2.trans c9)))
            clear h9 hi9 c9 H8
            go_wp2_with fail
            have hba : Below w9.heap.size w9 (w9.alloc (.cells #[.bool false, .string key, .int .i64 0, .int .i64 j] 33)) := (Below.refl _ _).alloc (Nat.le_refl _) _
            have H10 := Lib.hid (And.intro (H9.out.1.below hba) (And.intro H9.out.2.1 (H9.out.2.2.below hba)))
            clear hba H9
            refine (put_any _ σ9 1000 g _ H10.out.1 0 (ev key 0)).mono ?_
            rintro e w11 ⟨he, σ11, h11, c11⟩
            have hp := Q_put (A := rest key k j) (B := [mk0]) (Hm.out 0) (by have := rest_length key k j hj10; have := Hkn.out.1; have := HM.out; omega)
            have hi11 := H10.out.2.1.put 0 (ev key 0)
            rw [hp, rest_snoc] at he h11 hi11
            obtain rfl : e = .returned (.int .i64 0) := he
            have H11 := Lib.hid (And.intro h11 (And.intro hi11 (H10.out.2.2.trans c11)))
            clear h11 hi11 c11 hp H10
            go_wp2_with fail
            refine (put_any _ σ11 1000 g _ H11.out.1 0 (ev key 0)).mono ?_
            rintro e w12 ⟨he, σ12, h12, c12⟩
            have hp := Q_full (A := left key k (j + 1)) (B := [mk0]) (Hm.out 0) (by rw [left_length _ _ _ (by omega)]; have := Hkn.out.1; have := HM.out; omega)
            have hi12 := H11.out.2.1.put 0 (ev key 0)
            rw [hp] at he h12 hi12
            obtain rfl : e = .returned (.int .i64 2) := he
            have H12 := Lib.hid (And.intro h12 (And.intro hi12 (H11.out.2.2.trans c12)))
            clear h12 hi12 c12 hp H11
            go_wp2_with fail
            go_roundw
            case rel => exact ⟨j + 1, σ12, by omega, by go_num, H12.out.1, H12.out.2.1, H12.out.2.2⟩
            case measure => simp [intOf]; omega
          · go_wp2_with fail
            go_ret
            have hc := HF.out.2.2
            exact ⟨rfl, ⟨hc.os, hc.tape, hc.output, hc.size, fun b hb => hc.block b hb (by unfold Of; omega)⟩⟩
  · have hc : key.size < 1 ∨ (¬ key.size < 1 ∧ 32 < key.size) := by omega
    clear hok hmore
    rcases hc with h1 | ⟨h1, h2⟩
    · have h3 : (key.size : Int) < 1 := by omega
      go_enter Try.func8, Try.ntmps8
      go_wp2_with fail
      refine (known_c w).mono ?_
      rintro e w1 ⟨rfl, hb1⟩
      go_wp2
      go_ret
      exact ⟨rfl, hb1⟩
    · have h3 : ¬ (key.size : Int) < 1 := by omega
      have h4 : (32 : Int) < (key.size : Int) := by omega
      go_enter Try.func8, Try.ntmps8
      go_wp2_with fail
      refine (known_c w).mono ?_
      rintro e w1 ⟨rfl, hb1⟩
      go_wp2
      go_ret
      exact ⟨rfl, hb1⟩
end Go.Proofs.Ytapninpdjccglaa.C
