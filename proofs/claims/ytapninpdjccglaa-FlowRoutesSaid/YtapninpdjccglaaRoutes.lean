/-
  The call of the law FlowRoutes: it returns true, whatever the input.
-/
import Derived.Test.YtapninpdjccglaaG5
set_option linter.unusedVariables false
set_option linter.unusedSimpArgs false
namespace Go.Proofs.Ytapninpdjccglaa.C
open Go.RowKit Go.Proofs.Ytapninpdjccglaa.K

set_option maxRecDepth 100000 in
set_option maxHeartbeats 1600000 in
theorem routes_walk (o : Int) (ho : (Lit.int .i64 o).wf = true) (key : ByteArray) (hk : key.size ≤ 140737488351232) (w : World) :
    Calls Try.prog 5 #[.int .i64 o, .string key] w fun e w' => e = .returned (.bool true) ∧ Below w.heap.size w w' := by
  by_cases hok : okNew 1 o 1
  · obtain ⟨d, rfl⟩ := Int.eq_ofNat_of_zero_le (show 0 ≤ o by have := hok.2.2.1; omega)
    have hd1 : 1 ≤ d := by have := hok.2.2.1; omega
    have hd2 : d ≤ 8 := by have := hok.2.2.2.1; omega
    have Hok := Lib.hid hok
    clear hok ho
    by_cases hl : 1048576 < key.size
    · have hl2 : (1048576 : Int) < (key.size : Int) := by omega
      have b1 : ¬ (d : Int) < 1 := by omega
      have b2 : ¬ (8 : Int) < (d : Int) := by omega
      go_enter Try.func5, Try.ntmps5
      go_wp2_with fail
      refine (known_c w).mono ?_
      rintro e w1 ⟨rfl, hb1⟩
      go_wp2_with fail
      refine (new_yes w1 (fun _ => 0) 1000 1 d 1 Hok.out).mono ?_
      rintro e w2 ⟨g, σ2, rfl, h2, c2, hg⟩
      have hb2 : Below w.heap.size w w2 := Below.then_ hb1 hb1.size ⟨c2.os, c2.tape, c2.output, c2.size, fun b hb => c2.block b hb (fun h => h)⟩
      have HB := Lib.hid hb2
      clear h2 c2 hg hb1 hb2
      go_wp2
      go_ret
      exact ⟨rfl, HB.out⟩
    · have hl2 : (key.size : Int) ≤ 1048576 := by omega
      go_enter Try.func5, Try.ntmps5
      go_wp2_with fail
      refine (known_c w).mono ?_
      rintro e w1 ⟨rfl, hb1⟩
      go_wp2_with fail
      refine (new_yes w1 (fun _ => 0) 1000 1 d 1 Hok.out).mono ?_
      rintro e w2 ⟨g, σ2, rfl, h2, c2, hg⟩
      have hb2 : Below w.heap.size w w2 := Below.then_ hb1 hb1.size ⟨c2.os, c2.tape, c2.output, c2.size, fun b hb => c2.block b hb (fun h => h)⟩
      have H2 := Lib.hid (And.intro h2 hb2)
      clear h2 c2 hg hb1 hb2
      go_wp2_with fail
      refine (route_c w2 σ2 1000 g _ H2.out.1 key hk).mono ?_
      rintro e w3 ⟨he, hb3⟩
      obtain rfl : e = .returned (.int .i64 (rtN d key : Nat)) := he
      have HB3 := Lib.hid (Below.then_ H2.out.2 H2.out.2.size hb3)
      clear hb3
      go_wp2_with fail
      refine (operator_c w3 key hk d hd1 (by omega)).mono ?_
      rintro e w4 ⟨rfl, rfl⟩
      obtain ⟨r, hr⟩ : ∃ r, rtN d key = r := ⟨_, rfl⟩
      rw [hr]
      clear hr
      go_wp2
      go_ret
      exact ⟨rfl, HB3.out⟩
  · have hc : o < 1 ∨ (¬ o < 1 ∧ 8 < o) := by unfold okNew at hok; omega
    have Hno := Lib.hid hok
    clear hok ho
    rcases hc with h1 | ⟨h1, h2⟩
    all_goals
      go_enter Try.func5, Try.ntmps5
      go_wp2_with fail
      refine (known_c w).mono ?_
      rintro e w1 ⟨rfl, hb1⟩
      go_wp2_with fail
      refine (new_no w1 1 o 1 Hno.out).mono ?_
      rintro e w2 ⟨rfl, rfl⟩
      go_wp2
      go_ret
      exact ⟨rfl, hb1⟩
end Go.Proofs.Ytapninpdjccglaa.C
