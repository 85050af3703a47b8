/-
  Locks: known.
-/
import Derived.Test.YtgcnappgecdldaaT3
set_option linter.unusedVariables false
set_option linter.unusedSimpArgs false
namespace Go.Proofs.Ytgcnappgecdldaa.C
open Go.RowKit Go.Proofs.Ytgcnappgecdldaa.K Go.Maps

theorem asks_one : Asks 1 [(0, false)] := ⟨by simp, by simp, by simp, by intro i j hi hj _; simp at hi hj; omega⟩
theorem hw_one : hw [(0, false)] 0 = 2 := rfl
theorem lks_new (w : World) (L : List (Int × Bool)) (cs : Array Value) (h : ∀ i (h : i < L.length), cs[i * 2]? = some (.int .i64 L[i].1) ∧ cs[i * 2 + 1]? = some (.bool L[i].2)) (t : TypeId) : LksAt (w.alloc (.cells cs t)) (some ⟨w.heap.size, 0, none⟩) L :=
  ⟨fun _ => ⟨w.heap.size, 0, rfl, by simp, fun i hi => by
    rw [Nat.zero_add, (Blk.new w t cs).cell, (Blk.new w t cs).cell]
    exact h i hi⟩⟩
theorem lks_one (w : World) : LksAt (w.alloc (.cells #[.int .i64 0, .bool false] 32)) (some ⟨w.heap.size, 0, none⟩) [(0, false)] := lks_new w _ _ (fun i hi => by
  obtain rfl : i = 0 := by simp at hi; omega
  exact ⟨rfl, rfl⟩) 32
theorem conf_of {D E : Dt} (x : Int) (h1 : how D x = 2) (h2 : how E x = 2) : conf D E := ⟨x, by omega, by omega, by omega⟩

set_option maxRecDepth 100000 in
set_option maxHeartbeats 1600000 in
theorem known_c (w : World) : Calls Try.prog 11 #[] w fun e w' => e = .returned (.bool true) ∧ Below w.heap.size w w' := by
  go_enter Try.func11, Try.ntmps11
  go_wp2_with fail
  refine (new_mgr w 1 (by omega) (by omega) (fun _ => 0) 1000).mono ?_
  rintro e w1 ⟨g, rfl, hgw, hm, hb⟩
  have H1 := Lib.hid (And.intro hm (((Chg.refl (Om 1000) (fun _ => 0) w).upd (Nat.le_refl _) 1000).below (show Below w.heap.size w w1 from hb)))
  clear hm hb
  generalize K.upd (fun _ => 0) w.heap.size 1000 = σ1 at H1
  go_wp2_with fail
  refine (ask_c _ σ1 1000 g ⟨1, [], []⟩ (H1.out.1.below ((Below.refl w1.heap.size w1).alloc (Nat.le_refl _) (.cells #[.int .i64 0, .bool false] 32))) (by simp) (by simp) 3 (by omega) rfl rfl _ 1 1 [(0, false)] rfl (by omega) (lks_one w1) asks_one).mono ?_
  rintro e w2 ⟨c1, ht1, hh1, he, σ2, hm, hc⟩
  rw [show Mgr.stops ⟨1, [], []⟩ c1 = false from rfl] at he hm
  obtain rfl : e = .returned (.tuple #[.bool true, .nilIface]) := he
  have H2 := Lib.hid (And.intro hm ((H1.out.2.below ((Below.refl w1.heap.size w1).alloc (Nat.le_refl _) (.cells #[.int .i64 0, .bool false] 32))).trans hc))
  have HA := Lib.hid (And.intro ht1 (hh1 0))
  clear ht1 hh1 hm hc H1
  go_wp2_with fail
  refine (ask_c _ σ2 1000 g ⟨1, [c1], []⟩ (H2.out.1.below ((Below.refl w2.heap.size w2).alloc (Nat.le_refl _) (.cells #[.int .i64 0, .bool false] 32))) (by simp) (by simp) 4 (by omega) (by simp [HA.out.1]) rfl _ 1 1 [(0, false)] rfl (by omega) (lks_one w2) asks_one).mono ?_
  rintro e w3 ⟨c2, ht2, hh2, he, σ3, hm, hc⟩
  have hst : Mgr.stops ⟨1, [c1], []⟩ c2 = true := by
    have : conf c2.set c1.set := conf_of 0 (hh2 0) HA.out.2
    simp [Mgr.stops, cf, this]
  rw [hst] at he hm
  obtain rfl : e = .returned (.tuple #[.bool false, .nilIface]) := he
  have H3 := Lib.hid (And.intro hm ((H2.out.2.below ((Below.refl w2.heap.size w2).alloc (Nat.le_refl _) (.cells #[.int .i64 0, .bool false] 32))).trans hc))
  have HB := Lib.hid ht2
  clear ht2 hh2 hm hc H2 hst
  go_wp2_with fail
  refine (free_yes w3 σ3 1000 g 0 (.inl (by omega)) ⟨1, [c1], [c2]⟩ H3.out.1 (by simp) 3 0 (by simp) (by simp [place, HA.out.1])).mono ?_
  rintro e w4 ⟨v, rfl, σ4, hm, hr, hc⟩
  have e1 : Mgr.delHas ⟨1, [c1], [c2]⟩ 0 = ⟨1, [], [c2]⟩ := rfl
  have e2 : Mgr.thr ⟨1, [], [c2]⟩ = ⟨[c2], [], [c2]⟩ := rfl
  rw [e1] at hm hr
  unfold Mgr.pass at hm
  rw [e2] at hm hr
  have hr1 : w4.ownsRow 0 3 1 v 1 [.int .i64 4] := by
    have := hr.1
    unfold tasks at this
    simp [HB.out] at this
    exact this
  obtain ⟨gv, cv, rfl, _, _⟩ := own_form hr1 (by omega)
  have d0 : w4.cell? ⟨gv, 0, none⟩ = some (.int .i64 4) := (World.ownsRow.cellAt hr1 0 (by omega)).trans rfl
  have H4 := Lib.hid (And.intro hm (H3.out.2.trans hc))
  clear hm hc hr hr1 H3 e1 e2
  go_wp2_with fail
  refine (waits_c w4 σ4 1000 g _ H4.out.1 4).mono ?_
  rintro e w5 ⟨rfl, hb5⟩
  have hch := H4.out.2.below hb5
  have HF := Lib.hid (show Below w.heap.size w w5 from ⟨hch.os, hch.tape, hch.output, hch.size, fun b hb => hch.block b hb (by unfold Om; omega)⟩)
  clear hch hb5 d0
  go_wp2
  go_ret
  exact ⟨rfl, HF.out⟩
end Go.Proofs.Ytgcnappgecdldaa.C
