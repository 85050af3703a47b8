/-
  The document's flow: Queued, Boxed, Empty, Toward.
-/
import Derived.Test.YtapninpdjccglaaR1
set_option linter.unusedVariables false
set_option linter.unusedSimpArgs false
namespace Go.Proofs.Ytapninpdjccglaa.C
open Go.RowKit Go.Proofs.Ytapninpdjccglaa.K

set_option maxRecDepth 100000 in
theorem r_queued (w : World) (σ : Nat → Nat) (t g : Nat) (F : FS) (h : RefAt w σ t g F) (i : Int) :
    Calls Try.prog 29 #[.pointer (some ⟨g, 0, none⟩), .int .i64 i] w fun e w' => e = .returned (.int .i64 (nQ F i)) ∧ w = w' := by
  obtain ⟨gq, gb, gn, qv, bv, h⟩ := h
  have hc1 := h.c1
  unfold nQ
  by_cases hi : 0 ≤ i ∧ i < F.s
  · rw [if_pos hi]
    obtain ⟨d, rfl⟩ := Int.eq_ofNat_of_zero_le hi.1
    have hd : d < F.s := by omega
    have hq := h.q0 hd
    obtain ⟨A, c, hv, hnc⟩ := (h.qs d hd).slice
    rw [hv] at hq
    rw [Int.toNat_natCast]
    obtain ⟨n, hn⟩ : ∃ n, (F.q d).length = n := ⟨_, rfl⟩
    rw [hn] at hq ⊢
    obtain ⟨s, hs⟩ : ∃ s, F.s = s := ⟨_, rfl⟩
    rw [hs] at hc1 hd
    have h1 : ¬ (d : Int) < 0 := by omega
    have h2 : ¬ (s : Int) ≤ (d : Int) := by omega
    have h3 : (0 : Int) ≤ (d : Int) := by omega
    have h4 : (d : Int) < (s : Int) := by omega
    clear hd hi h hn hs hv hnc
    go_enter Try.func29, Try.ntmps29
    go_wp2
    go_ret
    exact ⟨rfl, rfl⟩
  · rw [if_neg hi]
    obtain ⟨s, hs⟩ : ∃ s, F.s = s := ⟨_, rfl⟩
    rw [hs] at hc1 hi
    clear h hs
    by_cases h1 : i < 0
    · clear hi
      go_enter Try.func29, Try.ntmps29
      go_wp2
      go_ret
      exact ⟨rfl, rfl⟩
    · have h2 : (s : Int) ≤ i := by omega
      clear hi
      go_enter Try.func29, Try.ntmps29
      go_wp2
      go_ret
      exact ⟨rfl, rfl⟩
set_option maxRecDepth 100000 in
theorem r_boxed (w : World) (σ : Nat → Nat) (t g : Nat) (F : FS) (h : RefAt w σ t g F) (i : Int) :
    Calls Try.prog 30 #[.pointer (some ⟨g, 0, none⟩), .int .i64 i] w fun e w' => e = .returned (.int .i64 (nB F i)) ∧ w = w' := by
  obtain ⟨gq, gb, gn, qv, bv, h⟩ := h
  have hc1 := h.c2
  unfold nB
  by_cases hi : 0 ≤ i ∧ i < F.o
  · rw [if_pos hi]
    obtain ⟨d, rfl⟩ := Int.eq_ofNat_of_zero_le hi.1
    have hd : d < F.o := by omega
    have hq := h.b0 hd
    obtain ⟨A, c, hv, hnc⟩ := (h.bs d hd).slice
    rw [hv] at hq
    rw [Int.toNat_natCast]
    obtain ⟨n, hn⟩ : ∃ n, (F.b d).length = n := ⟨_, rfl⟩
    rw [hn] at hq ⊢
    obtain ⟨s, hs⟩ : ∃ s, F.o = s := ⟨_, rfl⟩
    rw [hs] at hc1 hd
    have h1 : ¬ (d : Int) < 0 := by omega
    have h2 : ¬ (s : Int) ≤ (d : Int) := by omega
    have h3 : (0 : Int) ≤ (d : Int) := by omega
    have h4 : (d : Int) < (s : Int) := by omega
    clear hd hi h hn hs hv hnc
    go_enter Try.func30, Try.ntmps30
    go_wp2
    go_ret
    exact ⟨rfl, rfl⟩
  · rw [if_neg hi]
    obtain ⟨s, hs⟩ : ∃ s, F.o = s := ⟨_, rfl⟩
    rw [hs] at hc1 hi
    clear h hs
    by_cases h1 : i < 0
    · clear hi
      go_enter Try.func30, Try.ntmps30
      go_wp2
      go_ret
      exact ⟨rfl, rfl⟩
    · have h2 : (s : Int) ≤ i := by omega
      clear hi
      go_enter Try.func30, Try.ntmps30
      go_wp2
      go_ret
      exact ⟨rfl, rfl⟩
theorem rleft_zero {F : FS} (h1 : ∀ i, i < F.s → (F.q i).length = 0) (h2 : ∀ j, j < F.o → (F.b j).length = 0) : F.left = 0 := by
  unfold FS.left
  rw [sumTo_zero (f := fun i => (F.q i).length) h1, sumTo_zero (f := fun j => (F.b j).length) h2]
theorem left_some {F : FS} {i : Nat} (hi : i < F.s) (h : (F.q i).length ≠ 0) : ((F.left : Int) == 0) = false := by
  have h1 := sumTo_pos (f := fun i => (F.q i).length) hi
  unfold FS.left
  have : ¬ ((sumTo (fun i => (F.q i).length) F.s + sumTo (fun j => (F.b j).length) F.o : Nat) : Int) = 0 := by omega
  simpa using this
theorem left_box {F : FS} {j : Nat} (hj : j < F.o) (h : (F.b j).length ≠ 0) : ((F.left : Int) == 0) = false := by
  have h1 := sumTo_pos (f := fun j => (F.b j).length) hj
  unfold FS.left
  have : ¬ ((sumTo (fun i => (F.q i).length) F.s + sumTo (fun j => (F.b j).length) F.o : Nat) : Int) = 0 := by omega
  simpa using this
set_option maxRecDepth 100000 in
theorem r_empty (w : World) (σ : Nat → Nat) (t g : Nat) (F : FS) (h : RefAt w σ t g F) :
    Calls Try.prog 31 #[.pointer (some ⟨g, 0, none⟩)] w fun e w' => e = .returned (.bool ((F.left : Int) == 0)) ∧ w = w' := by
  obtain ⟨gq, gb, gn, qv, bv, h⟩ := h
  have hc1 := h.c1
  have hc2 := h.c2
  have hg := h.good
  have fq : ∀ k, k < F.s → ∃ A c, w.cell? ⟨gq, k, none⟩ = some (.slice A (F.q k).length c) := fun k hk => by
    obtain ⟨A, c, hv, _⟩ := (h.qs k hk).slice
    exact ⟨A, c, by rw [h.q0 hk, hv]⟩
  have fb : ∀ k, k < F.o → ∃ A c, w.cell? ⟨gb, k, none⟩ = some (.slice A (F.b k).length c) := fun k hk => by
    obtain ⟨A, c, hv, _⟩ := (h.bs k hk).slice
    exact ⟨A, c, by rw [h.b0 hk, hv]⟩
  have hs2 := hg.s2
  have ho2 := hg.o2
  have hl1 := fun i hi hn => left_some (F := F) (i := i) hi hn
  have hl2 := fun j hj hn => left_box (F := F) (j := j) hj hn
  have hl3 := rleft_zero (F := F)
  obtain ⟨s, hs⟩ : ∃ s, F.s = s := ⟨_, rfl⟩
  obtain ⟨o, ho⟩ : ∃ o, F.o = o := ⟨_, rfl⟩
  rw [hs] at hc1 fq hs2 hl1 hl3
  rw [ho] at hc2 fb ho2 hl2 hl3
  obtain ⟨z, hz⟩ : ∃ z, F.left = z := ⟨_, rfl⟩
  rw [hz] at hl1 hl2 hl3 ⊢
  have HF := Lib.hid (And.intro fq fb)
  have HL := Lib.hid (And.intro hl1 (And.intro hl2 hl3))
  clear h hg hs ho hz fq fb hl1 hl2 hl3
  go_enter Try.func31, Try.ntmps31
  go_wp2_with fail
  go_loop [3] (fun i => ∃ k : Nat, k ≤ s ∧ i = .int .i64 k ∧ ∀ y, y < k → (F.q y).length = 0) (fun i => s - (intOf i).toNat)
  case atStart => exact ⟨0, Nat.zero_le _, rfl, fun y hy => absurd hy (Nat.not_lt_zero _)⟩
  case round =>
    obtain ⟨k, hk, rfl, hall⟩ := hrel
    have Hall := Lib.hid hall
    clear hall
    by_cases hks : k < s
    · have hks1 : (k : Int) < (s : Int) := by omega
      obtain ⟨A, c, hcell⟩ := HF.out.1 k hks
      obtain ⟨n, hn⟩ : ∃ n, (F.q k).length = n := ⟨_, rfl⟩
      rw [hn] at hcell
      by_cases h0 : n = 0
      · have Hn := Lib.hid (hn.trans h0)
        subst h0
        clear hn
        go_wp2_with fail
        go_round
        case rel => exact ⟨k + 1, by omega, by go_num, fun y hy => by
          rcases Nat.lt_or_ge y k with h | h
          · exact Hall.out y h
          · obtain rfl : y = k := by omega
            exact Hn.out⟩
        case measure => simp [intOf]; omega
      · have hpos : (0 : Int) < (n : Int) := by omega
        have hfin := HL.out.1 k hks (by rw [hn]; exact h0)
        have HFin := Lib.hid hfin
        clear hn h0 hfin
        go_wp2
        go_ret
        exact ⟨by rw [HFin.out]; rfl, rfl⟩
    · have hks1 : k = s := by omega
      subst hks1
      go_wp2_with fail
      go_loop [4] (fun j => ∃ y : Nat, y ≤ o ∧ j = .int .i64 y ∧ ∀ x, x < y → (F.b x).length = 0) (fun j => o - (intOf j).toNat)
      case atStart => exact ⟨0, Nat.zero_le _, rfl, fun y hy => absurd hy (Nat.not_lt_zero _)⟩
      case round =>
        obtain ⟨y, hy, rfl, hall⟩ := hrel
        have Hall2 := Lib.hid hall
        clear hall
        by_cases hyo : y < o
        · have hyo1 : (y : Int) < (o : Int) := by omega
          obtain ⟨A, c, hcell⟩ := HF.out.2 y hyo
          obtain ⟨n, hn⟩ : ∃ n, (F.b y).length = n := ⟨_, rfl⟩
          rw [hn] at hcell
          by_cases h0 : n = 0
          · have Hn := Lib.hid (hn.trans h0)
            subst h0
            clear hn
            go_wp2_with fail
            go_round
            case rel => exact ⟨y + 1, by omega, by go_num, fun x hx => by
              rcases Nat.lt_or_ge x y with h | h
              · exact Hall2.out x h
              · obtain rfl : x = y := by omega
                exact Hn.out⟩
            case measure => simp [intOf]; omega
          · have hpos : (0 : Int) < (n : Int) := by omega
            have hfin := HL.out.2.1 y hyo (by rw [hn]; exact h0)
            have HFin := Lib.hid hfin
            clear hn h0 hfin
            go_wp2
            go_ret
            exact ⟨by rw [HFin.out]; rfl, rfl⟩
        · have hyo1 : y = o := by omega
          subst hyo1
          have hfin : z = 0 := HL.out.2.2 Hall.out Hall2.out
          subst hfin
          go_wp2
          go_ret
          exact ⟨rfl, rfl⟩
set_option maxRecDepth 100000 in
theorem r_route (w : World) (σ : Nat → Nat) (t g : Nat) (F : FS) (h : RefAt w σ t g F) (key : ByteArray) (hk : key.size ≤ 140737488351232) :
    Calls Try.prog 39 #[.pointer (some ⟨g, 0, none⟩), .string key] w fun e w' => e = .returned (.int .i64 (rtN F.o key : Nat)) ∧ w = w' := by
  obtain ⟨gq, gb, gn, qv, bv, h⟩ := h
  have hc1 := h.c2
  have hc := operator_c w key hk F.o h.good.o1 (by have := h.good.o2; omega)
  obtain ⟨r, hr⟩ : ∃ r, rtN F.o key = r := ⟨_, rfl⟩
  obtain ⟨o, ho⟩ : ∃ o, F.o = o := ⟨_, rfl⟩
  rw [hr] at hc ⊢
  rw [ho] at hc1 hc
  have Hc := Lib.hid hc
  clear h hr ho hc hk
  go_enter Try.func39, Try.ntmps39
  go_wp2_with fail
  refine Hc.out.mono ?_
  rintro e w1 ⟨rfl, rfl⟩
  go_wp2
  go_ret
  exact ⟨rfl, rfl⟩
set_option maxRecDepth 100000 in
theorem r_toward (w : World) (σ : Nat → Nat) (t g : Nat) (F : FS) (hF : RefAt w σ t g F) (hok : ∀ i, i < F.s → ∀ x ∈ F.q i, ItOk x) (i : Int) :
    Calls Try.prog 28 #[.pointer (some ⟨g, 0, none⟩), .int .i64 i] w fun e w' => e = .returned (.tuple #[.int .i64 (F.toward i).1, .int .i64 (F.toward i).2]) ∧ Below w.heap.size w w' := by
  have hr := fun W key (hk : key.size ≤ 140737488351232) (hb : Below w.heap.size w W) => r_route W σ t g F (hF.below hb) key hk
  have Hr := Lib.hid hr
  clear hr
  obtain ⟨gq, gb, gn, qv, bv, h⟩ := hF
  have hc1 := h.c1
  have hc3 := h.c3
  obtain ⟨s, hs⟩ : ∃ s, F.s = s := ⟨_, rfl⟩
  rw [hs] at hc1 hc3
  by_cases hi : 0 ≤ i ∧ i < F.s
  · obtain ⟨d, rfl⟩ := Int.eq_ofNat_of_zero_le hi.1
    have hd : d < F.s := by omega
    have h1 : ¬ (d : Int) < 0 := by omega
    have h2 : ¬ (s : Int) ≤ (d : Int) := by omega
    have h3 : (0 : Int) ≤ (d : Int) := by omega
    have h4 : (d : Int) < (s : Int) := by omega
    have hq := h.q0 hd
    have hq1 := h.n0 hd
    have hrow := h.qs d hd
    have ht : F.toward (d : Int) = match F.q d with | [] => (0, 44) | x :: _ => if x.mark then ((F.to d : Nat), 0) else ((rtN F.o x.key : Nat), 0) := by
      unfold FS.toward
      rw [if_pos hi, Int.toNat_natCast]
      rfl
    have hok' := hok d hd
    rcases hL : F.q d with _ | ⟨x, r⟩
    · rw [hL] at hrow
      rw [show F.toward (d : Int) = (0, 44) by rw [ht, hL]]
      obtain ⟨A, c, hv, hnc⟩ := hrow.slice
      rw [hv] at hq
      simp only [List.length_nil] at hq
      clear hv hnc hd hi h hrow ht hL hok' hok hs
      go_enter Try.func28, Try.ntmps28
      go_wp2
      go_ret2
      exact ⟨rfl, Below.refl _ _⟩
    · rw [hL] at hrow hok'
      obtain ⟨b, off, cap, hv, hnc, hcm, hs', hbl, hcells, hfz⟩ := hrow.form (by simp)
      rw [hv] at hq
      have k0 := hcells 0 (.bool x.mark) rfl
      have k1 := hcells 1 (.string x.key) rfl
      have k2 := hcells 2 (.int .i64 x.time) rfl
      have k3 := hcells 3 (.int .i64 x.value) rfl
      simp only [Nat.add_zero] at k0
      obtain ⟨n, hn⟩ : ∃ n, (x :: r).length = n := ⟨_, rfl⟩
      have hn0 : 0 < n := by rw [← hn]; simp
      have hn1 : ¬ ((n : Int) = 0) := by omega
      have hn2 : (0 : Int) < (n : Int) := by omega
      rw [hn] at hq
      have hxok := hok' x (by simp)
      unfold ItOk at hxok
      have Hx := Lib.hid hxok
      rw [hL] at ht
      have hal : Below w.heap.size w (w.alloc (.cells #[.bool x.mark, .string x.key, .int .i64 x.time, .int .i64 x.value] 33)) := (Below.refl _ _).alloc (Nat.le_refl _) _
      have hc1' := (hal.cell (p := ⟨g, 1, none⟩) (World.block_lt_of_cell? _ _ hc1)).trans hc1
      have hc3' := (hal.cell (p := ⟨g, 3, none⟩) (World.block_lt_of_cell? _ _ hc3)).trans hc3
      have hq1' := (hal.cell (p := ⟨gn, d, none⟩) (World.block_lt_of_cell? _ _ hq1)).trans hq1
      have Hal := Lib.hid hal
      clear hv hnc hd hi h hrow hL hok' hok hcells hn hcm hs' hbl hfz hxok hal hs
      obtain ⟨mk, key, tm, vl⟩ := x
      dsimp only at *
      rcases mk with _ | _
      · rw [show F.toward (d : Int) = (((rtN F.o key : Nat) : Int), 0) by rw [ht]; simp]
        have hcall := (Hr.out _ key Hx.out Hal.out)
        obtain ⟨ro, hro⟩ : ∃ ro, rtN F.o key = ro := ⟨_, rfl⟩
        rw [hro] at hcall ⊢
        have Hcall := Lib.hid hcall
        clear ht hro hcall
        go_enter Try.func28, Try.ntmps28
        go_wp2_with fail
        refine Hcall.out.mono ?_
        rintro e w1 ⟨rfl, rfl⟩
        go_wp2
        go_ret2
        exact ⟨rfl, Hal.out⟩
      · rw [show F.toward (d : Int) = (((F.to d : Nat) : Int), 0) by rw [ht]; simp]
        clear ht
        go_enter Try.func28, Try.ntmps28
        go_wp2
        go_ret2
        exact ⟨rfl, Hal.out⟩
  · have ht : F.toward i = (0, 1) := by
      unfold FS.toward
      rw [if_neg hi]
    rw [ht]
    rw [hs] at hi
    clear h ht hok hs
    by_cases h1 : i < 0
    · clear hi
      go_enter Try.func28, Try.ntmps28
      go_wp2
      go_ret2
      exact ⟨rfl, Below.refl _ _⟩
    · have h2 : (s : Int) ≤ i := by omega
      clear hi
      go_enter Try.func28, Try.ntmps28
      go_wp2
      go_ret2
      exact ⟨rfl, Below.refl _ _⟩
end Go.Proofs.Ytapninpdjccglaa.C
