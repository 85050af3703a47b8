/-
  The call of the law NetPlays.
-/
import Derived.Test.YtalabfbnbiagiaaP2
import Derived.Test.YtalabfbnbiagiaaP3
set_option linter.unusedVariables false
set_option linter.unusedSimpArgs false
namespace Go.Proofs.Ytalabfbnbiagiaa.C
open Go.RowKit Go.Proofs.Ytalabfbnbiagiaa.K

theorem wf_less {k : Nat} (h : k ≤ 68) : (Lit.int .i64 ((k : Int) - 1)).wf = true := by
  revert h
  revert k
  decide +kernel
theorem PW.first (w : World) {w1 w2 : World} {g r : Nat} {σ2 : Nat → Nat} {N : NS} (hb1 : Below w.heap.size w w1) (h1 : NetAt w1 (K.upd (fun _ => 0) w.heap.size (1000 + 4)) 1000 g N) (h2 : RefAt w2 σ2 2000 r N) (c2 : Chg (fun _ => False) (K.upd (fun _ => 0) w.heap.size (1000 + 4)) w1 σ2 w2) : PW w g r w2 σ2 N :=
  ⟨h1.chg c2 (fun _ _ h => h), h2, (((Chg.of_below O2 (fun _ => 0) hb1).upd (Nat.le_refl _) (1000 + 4)).trans (c2.mono (fun _ h => h.elim)))⟩
theorem PW.bel {w0 w : World} {g r : Nat} {σ : Nat → Nat} {N : NS} (h : PW w0 g r w σ N) : Below w0.heap.size w0 w :=
  ⟨h.c.os, h.c.tape, h.c.output, h.c.size, fun b hb => h.c.block b hb O2_zero⟩

set_option maxRecDepth 100000 in
set_option maxHeartbeats 3200000 in
theorem plays_no (w : World) (a0 a1 : Int) (hno : ¬ (1 ≤ a0 ∧ a0 ≤ 131072 ∧ 1 ≤ a1 ∧ a1 ≤ 131072)) (A : Option Addr) (n2 c2 : Nat) :
    Calls Try.prog 8 #[.int .i64 a0, .int .i64 a1, .slice A n2 c2] w fun e w' => e = .returned (.bool true) ∧ Below w.heap.size w w' := by
  have Hno := Lib.hid hno
  clear hno
  go_enter Try.func8, Try.ntmps8
  go_wp2_with fail
  refine (new_no w a0 a1 Hno.out).mono ?_
  rintro e w1 ⟨rfl, rfl⟩
  go_wp2_with fail
  refine (q_new_no w a0 a1 Hno.out).mono ?_
  rintro e w1 ⟨rfl, rfl⟩
  go_wp2_with fail
  go_loop [11] (fun i => i = .int .i64 0) (fun _ => 0)
  case atStart => rfl
  case round =>
    obtain rfl := hrel
    by_cases h0 : 0 < n2
    · have h1 : (0 : Int) < (n2 : Int) := by omega
      go_wp2_with fail
      go_loop [12] (fun i => i = .int .i64 (-1)) (fun _ => 0)
      case atStart => rfl
      case round =>
        obtain rfl := hrel
        go_wp2_with fail
        refine (head_c w).mono ?_
        rintro e w9 ⟨rfl, hb9⟩
        go_wp2
        go_ret
        exact ⟨rfl, hb9⟩
    · have h1 : ¬ (0 : Int) < (n2 : Int) := by omega
      go_wp2_with fail
      go_loop [12] (fun i => i = .int .i64 (-1)) (fun _ => 0)
      case atStart => rfl
      case round =>
        obtain rfl := hrel
        go_wp2_with fail
        refine (head_c w).mono ?_
        rintro e w9 ⟨rfl, hb9⟩
        go_wp2
        go_ret
        exact ⟨rfl, hb9⟩

set_option maxRecDepth 100000 in
set_option maxHeartbeats 3200000 in
theorem plays_walk (w : World) (a0 : Int) (y0 : (Lit.int .i64 a0).wf = true) (a1 : Int) (y1 : (Lit.int .i64 a1).wf = true)
    (v2 : Value) (o2 : ∃ (A : Option Addr) (n c : Nat) (f : Nat → NSt), v2 = .slice A n c ∧ n ≤ c ∧ NSteps w A n f ∧ n ≤ 140737488351232) :
    Calls Try.prog 8 #[.int .i64 a0, .int .i64 a1, v2] w fun e w' => e = .returned (.bool true) ∧ Below w.heap.size w w' := by
  obtain ⟨A2, n2, c2, f2, rfl, hnc2, hS2, hm2⟩ := o2
  by_cases hok : 1 ≤ a0 ∧ a0 ≤ 131072 ∧ 1 ≤ a1 ∧ a1 ≤ 131072
  · have HS := Lib.hid hS2
    have Hok := Lib.hid hok
    clear hS2 y0 y1 hok
    go_enter Try.func8, Try.ntmps8
    go_wp2_with fail
    refine (new_c w a0 a1 Hok.out (fun _ => 0) 1000).mono ?_
    rintro e w1 ⟨g, rfl, hg1, hg2, hb1, h1⟩
    have H1 := Lib.hid (And.intro hb1 h1)
    clear hg1 hg2 hb1 h1
    go_wp2_with fail
    refine (q_new_yes w1 a0 a1 Hok.out (upd (fun _ => 0) w.heap.size (1000 + 4)) 2000).mono ?_
    rintro e w2 ⟨r, rfl, hr, σ2, h2, cc2⟩
    have HP : Hid (PW w g r w2 σ2 (NS.new a0 a1)) := Lib.hid (PW.first w H1.out.1 H1.out.2 h2 cc2)
    have hmv : (NS.new a0 a1).mv = 0 := rfl
    have Hmv := Lib.hid hmv
    clear hr h2 cc2 H1 hmv
    generalize NS.new a0 a1 = N0 at HP Hmv
    go_wp2_with fail
    go_loopw [11] (fun i wr => ∃ (k : Nat) (σ : Nat → Nat) (N : NS), k ≤ n2 ∧ k ≤ 200 ∧ i = .int .i64 k ∧ PW w g r wr σ N ∧ N.mv ≤ 131072 * (k : Int)) (fun i _ => 200 - (intOf i).toNat)
    case atStart => exact ⟨0, σ2, N0, Nat.zero_le _, Nat.zero_le _, rfl, HP.out, by rw [Hmv.out]; exact Int.le_refl _⟩
    case round =>
      clear HP Hmv
      obtain ⟨k, σ, N, hk, hk200, rfl, hP, hmN⟩ := hrel
      have HP := Lib.hid hP
      clear hP
      by_cases hlt : k < n2 ∧ k < 200
      · obtain ⟨hlt, hl200⟩ := hlt
        have hi1 : (k : Int) < (n2 : Int) := by omega
        have hi2 : (k : Int) < 200 := by omega
        have hi0 : (0 : Int) ≤ (k : Int) := by omega
        obtain ⟨b, off, rfl, hb, hc⟩ := HS.out.at_ (by omega)
        have hcs := hc k hlt
        have hok := HS.out.ok k hlt
        clear hc
        generalize f2 k = st at hcs hok
        have hmv1 := did_mv (NetAt.good HP.out.a) st
        have hask := asked_c w wr σ g r N HP.out (by omega) st hok
        obtain ⟨kd, c, Ab, nb, cb, L, most⟩ := st
        have hbk : ∀ W σ' N', PW w g r W σ' N' → ∀ j, W.cell? ⟨b, j, none⟩ = w.cell? ⟨b, j, none⟩ := fun W σ' N' hW j => World.cell?_of_block (a := ⟨b, j, none⟩) (hW.bel.block b hb)
        have d0 : wr.cell? ⟨b, off + k * 4, none⟩ = some (.int .i64 kd) := (hbk wr σ N HP.out _).trans (hcs 0 _ rfl)
        have d1 : wr.cell? ⟨b, off + k * 4 + 1, none⟩ = some (.int .i64 c) := (hbk wr σ N HP.out _).trans (hcs 1 _ rfl)
        have d2 : wr.cell? ⟨b, off + k * 4 + 2, none⟩ = some (.slice Ab nb cb) := (hbk wr σ N HP.out _).trans (hcs 2 _ rfl)
        have d3 : wr.cell? ⟨b, off + k * 4 + 3, none⟩ = some (.int .i64 most) := (hbk wr σ N HP.out _).trans (hcs 3 _ rfl)
        have hD1 : ∀ W σ' N', PW w g r W σ' N' → W.cell? ⟨b, off + k * 4 + 1, none⟩ = some (.int .i64 c) := fun W σ' N' hW => (hbk W σ' N' hW _).trans (hcs 1 _ rfl)
        unfold NSt.cells NSt.bytes at hask
        dsimp only at hask
        have hwc : (Lit.int .i64 c).wf = true := hok.wc
        have Hask := Lib.hid hask
        have HD1 := Lib.hid hD1
        have Hwc := Lib.hid hwc
        have Hm1 := Lib.hid hmv1
        generalize (N.did ⟨kd, c, Ab, nb, cb, L, most⟩).2.2 = N1 at Hask Hm1
        clear hcs hok hbk hask hD1 hwc hmv1
        go_wp2_with fail
        refine Hask.out.mono ?_
        rintro e w5 ⟨rfl, σ5, hP5⟩
        have HP5 := Lib.hid hP5
        have e1 := HD1.out w5 σ5 N1 hP5
        have htold := told_both w w5 σ5 g r N1 hP5 (by have := Hm1.out; omega) c Hwc.out
        have Htold := Lib.hid htold
        clear hP5 htold d0 d1 d2 d3 HP
        go_wp2_with fail
        refine Htold.out.mono ?_
        rintro e w6 ⟨rfl, hb6⟩
        have HP6 := Lib.hid (HP5.out.below hb6)
        clear hb6 e1
        go_wp2_with fail
        go_roundw
        case rel => exact ⟨k + 1, σ5, N1, by omega, by omega, by go_num, HP6.out, by have := Hm1.out; omega⟩
        case measure => simp [intOf]; omega
      · have hcase : (n2 : Int) ≤ (k : Int) ∨ ((k : Int) < (n2 : Int) ∧ (200 : Int) ≤ (k : Int)) := by omega
        have hmN2 : N.mv ≤ 1099511000000 := by omega
        clear HS hlt hk hk200 hmN hm2 hnc2
        have htold := fun W (hb : Below wr.heap.size wr W) (c : Int) (hc : (Lit.int .i64 c).wf = true) => told_both w W σ g r N (HP.out.below hb) hmN2 c hc
        have Htold := Lib.hid htold
        clear htold hmN2
        generalize wr = wq at HP Htold ⊢
        rcases hcase with hc1 | ⟨hc1, hc2⟩
        all_goals
          go_wp2_with fail
          go_loopw [12] (fun i wz => ∃ z : Nat, z ≤ 68 ∧ i = .int .i64 ((z : Int) - 1) ∧ Below wq.heap.size wq wz) (fun i _ => 68 - (intOf i + 1).toNat)
          case atStart => exact ⟨0, Nat.zero_le _, rfl, Below.refl _ _⟩
          case round =>
            obtain ⟨z, hz, rfl, hbz⟩ := hrel
            by_cases hzx : z < 68
            · have hwz := wf_less (k := z) (by omega)
              have hz1 : (z : Int) - 1 < 67 := by omega
              have hz2 : (z : Int) - 1 + 1 = (((z + 1 : Nat) : Int) - 1) := by omega
              have Hz2 := Lib.hid hz2
              have hz3 : (((z : Int) - 1) + 1).toNat = z := by omega
              have Hz3 := Lib.hid hz3
              have hz5 : -1 ≤ (z : Int) - 1 := by omega
              clear hz2 hz3
              obtain ⟨i, hi⟩ : ∃ i, (z : Int) - 1 = i := ⟨_, rfl⟩
              rw [hi] at hwz hz1 hz5 ⊢
              have Hi := Lib.hid hi
              clear hi
              go_wp2_with fail
              refine (Htold.out wr hbz i hwz).mono ?_
              rintro e w6 ⟨rfl, hb6⟩
              have hbz6 := Below.then_ hbz hbz.size hb6
              go_wp2_with fail
              go_roundw
              case rel => exact ⟨z + 1, by omega, by rw [← Hz2.out, Hi.out], hbz6⟩
              case measure => simp [intOf]; have := Hi.out; omega
            · have hz1 : ¬ (z : Int) - 1 < 67 := by omega
              go_wp2_with fail
              refine (head_c wr).mono ?_
              rintro e w9 ⟨rfl, hb9⟩
              go_wp2
              go_ret
              exact ⟨rfl, ((HP.out.below hbz).below hb9).bel⟩
  · exact plays_no w a0 a1 hok A2 n2 c2
end Go.Proofs.Ytalabfbnbiagiaa.C
