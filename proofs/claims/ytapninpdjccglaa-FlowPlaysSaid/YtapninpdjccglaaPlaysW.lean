/-
  The call of the law FlowPlays: it returns true, whatever the input.
-/
import Derived.Test.YtapninpdjccglaaR7
set_option linter.unusedVariables false
set_option linter.unusedSimpArgs false
namespace Go.Proofs.Ytapninpdjccglaa.C
open Go.RowKit Go.Proofs.Ytapninpdjccglaa.K

set_option maxRecDepth 100000 in
set_option maxHeartbeats 3200000 in
theorem plays_walk (w : World) (a0 : Int) (y0 : (Lit.int .i64 a0).wf = true) (a1 : Int) (y1 : (Lit.int .i64 a1).wf = true) (a2 : Int) (y2 : (Lit.int .i64 a2).wf = true)
    (v : Value) (hv : ∃ (A : Option Addr) (n c : Nat) (f : Nat → St), v = .slice A n c ∧ n ≤ c ∧ Steps w A n f ∧ n ≤ 140737488351232) :
    Calls Try.prog 4 #[.int .i64 a0, .int .i64 a1, .int .i64 a2, v] w fun e w' => e = .returned (.bool true) ∧ Below w.heap.size w w' := by
  obtain ⟨A, n, c, f, rfl, hnc, hS, hcm⟩ := hv
  have HS := Lib.hid (And.intro hS (And.intro hnc hcm))
  clear hS hnc y0 y1 y2
  by_cases hn : (5000 : Int) < (n : Int)
  · go_enter Try.func4, Try.ntmps4
    go_wp2_with fail
    refine (known_c w).mono ?_
    rintro e w1 ⟨rfl, hb1⟩
    go_wp2
    go_ret
    exact ⟨rfl, hb1⟩
  · by_cases hk : okNew a0 a1 a2
    · obtain ⟨s, rfl⟩ := Int.eq_ofNat_of_zero_le (show 0 ≤ a0 by unfold okNew at hk; omega)
      obtain ⟨o, rfl⟩ := Int.eq_ofNat_of_zero_le (show 0 ≤ a1 by unfold okNew at hk; omega)
      obtain ⟨m, rfl⟩ := Int.eq_ofNat_of_zero_le (show 0 ≤ a2 by unfold okNew at hk; omega)
      go_enter Try.func4, Try.ntmps4
      go_wp2_with fail
      refine (known_c w).mono ?_
      rintro e w1 ⟨rfl, hb1⟩
      go_wp2_with fail
      refine (new_yes w1 (fun _ => 0) 1000 s o m hk).mono ?_
      rintro e w2 ⟨g, σ2, rfl, h2, c2, hg⟩
      have H2 := Lib.hid (And.intro h2 (And.intro c2 hb1))
      clear h2 c2 hb1 hg
      go_wp2_with fail
      refine (rnew_yes w2 σ2 2000 s o m hk).mono ?_
      rintro e w3 ⟨r, σ3, rfl, h3, c3, hr⟩
      have H3 : Hid (PW g r w3 σ3 (FS.new s o m) ∧ Chg O2 (fun _ => 0) w σ3 w3) := ⟨⟨H2.out.1.chg c3 (fun _ _ h => h), h3, Inv2.new hk⟩, ((Chg.of_below O2 (fun _ => 0) H2.out.2.2).trans (H2.out.2.1.mono (fun _ h => h.elim))).trans (c3.mono (fun _ h => h.elim))⟩
      clear h3 c3 hr H2
      go_wp2_with fail
      go_loopw [13] (fun i wr => ∃ (k : Nat) (σ : Nat → Nat) (F : FS), k ≤ n ∧ i = .int .i64 k ∧ PW g r wr σ F ∧ Chg O2 (fun _ => 0) w σ wr) (fun i _ => n - (intOf i).toNat)
      case atStart => exact ⟨0, σ3, _, Nat.zero_le _, rfl, H3.out⟩
      case round =>
        clear H3
        obtain ⟨k, σ, F, hk', rfl, hW, hC⟩ := hrel
        by_cases hlt : k < n
        · obtain ⟨b, off, rfl, hb, hc⟩ := HS.out.1.at_ (by omega)
          have hcs := hc k hlt
          clear hc
          generalize f k = st at hcs
          obtain ⟨kd, a, x⟩ := st
          have hbk : ∀ j, wr.cell? ⟨b, j, none⟩ = w.cell? ⟨b, j, none⟩ := fun j => World.cell?_of_block (a := ⟨b, j, none⟩) (hC.block b hb (by unfold O2 Of; omega))
          have d0 : wr.cell? ⟨b, off + k * 6, none⟩ = some (.int .i64 kd) := (hbk _).trans (hcs 0 _ rfl)
          have d1 : wr.cell? ⟨b, off + k * 6 + 1, none⟩ = some (.int .i64 a) := (hbk _).trans (hcs 1 _ rfl)
          have d2 : wr.cell? ⟨b, off + k * 6 + 2, none⟩ = some (.bool x.mark) := (hbk _).trans (hcs 2 _ rfl)
          have d3 : wr.cell? ⟨b, off + k * 6 + 3, none⟩ = some (.string x.key) := (hbk _).trans (hcs 3 _ rfl)
          have d4 : wr.cell? ⟨b, off + k * 6 + 4, none⟩ = some (.int .i64 x.time) := (hbk _).trans (hcs 4 _ rfl)
          have d5 : wr.cell? ⟨b, off + k * 6 + 5, none⟩ = some (.int .i64 x.value) := (hbk _).trans (hcs 5 _ rfl)
          have i0 : (0 : Int) ≤ (k : Int) := by omega
          have i1 : (k : Int) < (n : Int) := by omega
          have HW := Lib.hid (And.intro hW hC)
          clear hW hC hbk hcs hb
          go_wp2_with fail
          refine (told_c wr σ g r F HW.out.1 kd a x).mono ?_
          rintro e w4 ⟨rfl, σ4, F4, h4, c4⟩
          have H4 := Lib.hid (And.intro h4 (HW.out.2.trans c4))
          clear HW h4 c4 d0 d1 d2 d3 d4 d5
          go_wp2_with fail
          refine (sizes_c w4 σ4 g r F4 H4.out.1.a H4.out.1.r).mono ?_
          rintro e w5 ⟨rfl, hb5⟩
          have H5 := Lib.hid (And.intro (H4.out.1.below hb5) (H4.out.2.below hb5))
          clear H4 hb5
          go_wp2_with fail
          go_roundw
          case rel => exact ⟨k + 1, σ4, F4, by omega, by go_num, H5.out⟩
          case measure => simp [intOf]; omega
        · have hkn : k = n := by omega
          have hc := hC
          go_wp2_with fail
          go_ret
          exact ⟨rfl, ⟨hc.os, hc.tape, hc.output, hc.size, fun b hb => hc.block b hb (by unfold O2 Of; omega)⟩⟩
    · go_enter Try.func4, Try.ntmps4
      go_wp2_with fail
      refine (known_c w).mono ?_
      rintro e w1 ⟨rfl, hb1⟩
      go_wp2_with fail
      refine (new_no w1 a0 a1 a2 hk).mono ?_
      rintro e w2 ⟨rfl, rfl⟩
      go_wp2_with fail
      refine (rnew_no w1 a0 a1 a2 hk).mono ?_
      rintro e w2 ⟨rfl, rfl⟩
      go_wp2
      go_ret
      exact ⟨rfl, hb1⟩
end Go.Proofs.Ytapninpdjccglaa.C
