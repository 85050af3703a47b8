/-
  Put and Take, whatever is asked.
-/
import Derived.Test.YtapninpdjccglaaF8
set_option linter.unusedVariables false
set_option linter.unusedSimpArgs false
namespace Go.Proofs.Ytapninpdjccglaa.C
open Go.RowKit Go.Proofs.Ytapninpdjccglaa.K

set_option maxRecDepth 100000 in
set_option maxHeartbeats 1600000 in
theorem put_any (w : World) (σ : Nat → Nat) (t g : Nat) (F : FS) (hF : FlowAt w σ t g F) (i : Int) (x : It) :
    Calls Try.prog 17 #[.pointer (some ⟨g, 0, none⟩), .int .i64 i, itv x] w fun e w' => e = .returned (.int .i64 (F.put i x).1) ∧ ∃ σ', FlowAt w' σ' t g (F.put i x).2 ∧ Chg (Of t) σ w σ' w' := by
  by_cases hi : 0 ≤ i ∧ i < F.s
  · obtain ⟨d, rfl⟩ := Int.eq_ofNat_of_zero_le hi.1
    by_cases hm : May x = 0
    · exact put_ok w σ t g F hF d (by omega) x hm
    · refine (put_err w σ t g F hF d (by omega) x hm).mono ?_
      rintro e w' ⟨rfl, hb⟩
      have : F.put (d : Int) x = (May x, F) := by unfold FS.put; rw [if_pos hi, if_neg hm]
      rw [this]
      exact ⟨rfl, σ, hF.below hb, Chg.of_below _ _ hb⟩
  · have : F.put i x = (1, F) := by unfold FS.put; rw [if_neg hi]
    rw [this]
    have hB : Below w.heap.size w (w.alloc (.cells #[.bool x.mark, .string x.key, .int .i64 x.time, .int .i64 x.value] 33)) := (Below.refl _ _).alloc (Nat.le_refl _) _
    have hF1 := hF.below hB
    obtain ⟨gq, gb, qv, fi, gr, rc, h⟩ := hF1
    have hof := of_no _ σ t g F gq gb qv fi gr rc h i hi
    unfold itv
    have HB := Lib.hid (And.intro hB hF)
    clear h hF hB hi this
    go_enter Try.func17, Try.ntmps17
    go_wp2_with fail
    refine hof.mono ?_
    rintro e w1 ⟨rfl, rfl⟩
    go_wp2
    go_ret
    exact ⟨rfl, σ, HB.out.2.below HB.out.1, Chg.of_below _ _ HB.out.1⟩

theorem setCells4zz (W : World) (G : Nat) (a b c d : Value) : (((W.setCell ⟨G, 0, none⟩ a).setCell ⟨G, 1, none⟩ b).setCell ⟨G, 2, none⟩ c).setCell ⟨G, 3, none⟩ d = W.setCells G 0 [a, b, c, d] := by
  simp only [World.setCells, Nat.zero_add, Nat.reduceAdd]
def zitem : It := ⟨false, ⟨#[]⟩, 0, 0⟩
def FS.take (F : FS) (j : Int) : Int × It × Int × FS :=
  if 0 ≤ j ∧ j < F.o then
    match F.b j.toNat with
    | [] => (0, zitem, 44, F)
    | x :: L => (x.src, x.item, 0, F.putb j.toNat L)
  else (0, zitem, 1, F)

set_option maxRecDepth 100000 in
set_option maxHeartbeats 1600000 in
theorem take_c (w : World) (σ : Nat → Nat) (t g : Nat) (ht0 : 0 < t) (F : FS) (hF : FlowAt w σ t g F) (j : Int) :
    Calls Try.prog 19 #[.pointer (some ⟨g, 0, none⟩), .int .i64 j] w fun e w' => e = .returned (.tuple #[.int .i64 (F.take j).1, itv (F.take j).2.1, .int .i64 (F.take j).2.2.1]) ∧ ∃ σ', FlowAt w' σ' t g (F.take j).2.2.2 ∧ Chg (Of t) σ w σ' w' := by
  have hB : Below w.heap.size w (w.alloc (.cells #[.bool false, .string ⟨#[]⟩, .int .i64 0, .int .i64 0] 33)) := (Below.refl _ _).alloc (Nat.le_refl _) _
  have hF1 := (hF.upd (Nat.le_refl _) 0).below hB
  have hrv := Blk.new w 33 #[.bool false, .string ⟨#[]⟩, .int .i64 0, .int .i64 0]
  have HBF := Lib.hid (And.intro hB (And.intro hF hF1))
  have Ht := Lib.hid ht0
  obtain ⟨gq, gb, qv, fi, gr, rc, h⟩ := hF1
  have hc1 := h.c1
  by_cases hi : 0 ≤ j ∧ j < F.o
  · obtain ⟨d, rfl⟩ := Int.eq_ofNat_of_zero_le hi.1
    have hd : d < F.o := by omega
    have hl := h.b2 hd
    have ht : F.take (d : Int) = match F.b d with | [] => (0, zitem, 44, F) | x :: L => (x.src, x.item, 0, F.putb d L) := by
      unfold FS.take
      rw [if_pos hi, Int.toNat_natCast]
    obtain ⟨o, ho⟩ : ∃ o, F.o = o := ⟨_, rfl⟩
    rw [ho] at hc1 hd
    have j1 : ¬ (d : Int) < 0 := by omega
    have j2 : ¬ (o : Int) ≤ (d : Int) := by omega
    have j3 : (0 : Int) ≤ (d : Int) := by omega
    have j4 : (d : Int) < (o : Int) := by omega
    rcases hL : F.b d with _ | ⟨x, L⟩
    · rw [hL] at ht hl
      rw [show F.take (d : Int) = (0, zitem, 44, F) from ht]
      simp only [List.length_nil] at hl
      clear ht hL h hF hi hd ho hB hrv
      go_enter Try.func19, Try.ntmps19
      go_wp2
      refine bodyPost_ret (v := .tuple #[.int .i64 0, itv zitem, .int .i64 44]) (by simp [results, Try.results19, go_sem, itv, zitem]) rfl ⟨rfl, σ, HBF.out.2.1.below HBF.out.1, Chg.of_below _ _ HBF.out.1⟩
    · rw [hL] at ht hl
      rw [show F.take (d : Int) = (x.src, x.item, 0, F.putb d L) from ht]
      obtain ⟨n, hn⟩ : ∃ n, L.length = n := ⟨_, rfl⟩
      rw [List.length_cons, hn] at hl
      have hn0 : ¬ ((n : Int) + 1 = 0) := by omega
      have hn1 : (((n : Int) + 1) == 0) = false := by simp; omega
      have htk := take_b _ _ t g F gq gb qv fi gr rc h d (by rw [ho]; exact hd) x L hL
      have Htk := Lib.hid htk
      have Hdo := Lib.hid (show d < F.o by omega)
      have Hrv := Lib.hid hrv
      have H := Lib.hid h
      obtain ⟨gv, hgv⟩ : ∃ gv, w.heap.size = gv := ⟨_, rfl⟩
      have Hgv := Lib.hid hgv
      clear ht hL h hF hi hd ho hB hrv htk hn hgv
      go_enter Try.func19, Try.ntmps19
      go_wp2_with fail
      refine Htk.out.mono ?_
      rintro e w2 ⟨rfl, ⟨fi', rc', h2⟩, hc2⟩
      have hrv2 : Blk w2 w.heap.size 33 #[.bool false, .string ⟨#[]⟩, .int .i64 0, .int .i64 0] := (hc2.block _ Hrv.out.lt (by rw [upd_new (Nat.le_refl _)]; omega)).trans Hrv.out
      have v0 := hrv2.cell 0
      have v1 := hrv2.cell 1
      have v2 := hrv2.cell 2
      have v3 := hrv2.cell 3
      have y0 := hrv2.frozen 0
      have y1 := hrv2.frozen 1
      have y2 := hrv2.frozen 2
      have y3 := hrv2.frozen 3
      simp only [List.getElem?_toArray, List.getElem?_cons_zero, List.getElem?_cons_succ] at v0 v1 v2 v3
      have hne := World.new_ne w2 _ v0
      have hne2 : ¬ w.heap.size = w2.heap.size := fun e => hne e.symm
      have H2 := Lib.hid (And.intro h2 (And.intro hc2 hrv2))
      have hl0 : w.heap.size < w2.heap.size := World.block_lt_of_cell? _ _ v0
      have hb2 : Below w2.heap.size w2 (w2.alloc (.cells #[.int .i64 x.src, .bool x.item.mark, .string x.item.key, .int .i64 x.item.time, .int .i64 x.item.value] 83)) := (Below.refl _ _).alloc (Nat.le_refl _) _
      have u0 : (w2.alloc (.cells #[.int .i64 x.src, .bool x.item.mark, .string x.item.key, .int .i64 x.item.time, .int .i64 x.item.value] 83)).cell? ⟨w.heap.size, 0, none⟩ = some (.bool false) := (hb2.cell (p := ⟨w.heap.size, 0, none⟩) hl0).trans v0
      have z0 : (w2.alloc (.cells #[.int .i64 x.src, .bool x.item.mark, .string x.item.key, .int .i64 x.item.time, .int .i64 x.item.value] 83)).frozen? ⟨w.heap.size, 0, none⟩ = false := (hb2.frozen (p := ⟨w.heap.size, 0, none⟩) hl0).trans y0
      have u1 : (w2.alloc (.cells #[.int .i64 x.src, .bool x.item.mark, .string x.item.key, .int .i64 x.item.time, .int .i64 x.item.value] 83)).cell? ⟨w.heap.size, 1, none⟩ = some (.string ⟨#[]⟩) := (hb2.cell (p := ⟨w.heap.size, 1, none⟩) hl0).trans v1
      have z1 : (w2.alloc (.cells #[.int .i64 x.src, .bool x.item.mark, .string x.item.key, .int .i64 x.item.time, .int .i64 x.item.value] 83)).frozen? ⟨w.heap.size, 1, none⟩ = false := (hb2.frozen (p := ⟨w.heap.size, 1, none⟩) hl0).trans y1
      have u2 : (w2.alloc (.cells #[.int .i64 x.src, .bool x.item.mark, .string x.item.key, .int .i64 x.item.time, .int .i64 x.item.value] 83)).cell? ⟨w.heap.size, 2, none⟩ = some (.int .i64 0) := (hb2.cell (p := ⟨w.heap.size, 2, none⟩) hl0).trans v2
      have z2 : (w2.alloc (.cells #[.int .i64 x.src, .bool x.item.mark, .string x.item.key, .int .i64 x.item.time, .int .i64 x.item.value] 83)).frozen? ⟨w.heap.size, 2, none⟩ = false := (hb2.frozen (p := ⟨w.heap.size, 2, none⟩) hl0).trans y2
      have u3 : (w2.alloc (.cells #[.int .i64 x.src, .bool x.item.mark, .string x.item.key, .int .i64 x.item.time, .int .i64 x.item.value] 83)).cell? ⟨w.heap.size, 3, none⟩ = some (.int .i64 0) := (hb2.cell (p := ⟨w.heap.size, 3, none⟩) hl0).trans v3
      have z3 : (w2.alloc (.cells #[.int .i64 x.src, .bool x.item.mark, .string x.item.key, .int .i64 x.item.time, .int .i64 x.item.value] 83)).frozen? ⟨w.heap.size, 3, none⟩ = false := (hb2.frozen (p := ⟨w.heap.size, 3, none⟩) hl0).trans y3
      have Hb2 := Lib.hid hb2
      clear hb2
      clear h2 hc2 hrv2
      unfold msv
      go_wp2_with fail
      go_region
      all_goals
        go_wp2
        rw [setCells4zz]
        have hb3 := Blk.setCells [.bool x.item.mark, .string x.item.key, .int .i64 x.item.time, .int .i64 x.item.value] 0 w2 _ H2.out.2.2 (by simp)
        rw [show (spliced (#[.bool false, .string ⟨#[]⟩, .int .i64 0, .int .i64 0] : Array Value).toList 0 [.bool x.item.mark, .string x.item.key, .int .i64 x.item.time, .int .i64 x.item.value]).toArray = (it x.item).toArray by rfl] at hb3
        have hgr := grown_setCells w2 w.heap.size 0 [.bool x.item.mark, .string x.item.key, .int .i64 x.item.time, .int .i64 x.item.value]
        obtain ⟨w3, hw3⟩ : ∃ w3, w2.setCells w.heap.size 0 [.bool x.item.mark, .string x.item.key, .int .i64 x.item.time, .int .i64 x.item.value] = w3 := ⟨_, rfl⟩
        rw [hw3] at hb3 hgr ⊢
        have hb4 : Below w3.heap.size w3 ((w3.alloc (.cells #[.int .i64 x.src, .bool x.item.mark, .string x.item.key, .int .i64 x.item.time, .int .i64 x.item.value] 83)).drew) := ((Below.refl _ _).alloc (Nat.le_refl _) _).drew
        obtain ⟨w4, hw4⟩ : ∃ w4, (w3.alloc (.cells #[.int .i64 x.src, .bool x.item.mark, .string x.item.key, .int .i64 x.item.time, .int .i64 x.item.value] 83)).drew = w4 := ⟨_, rfl⟩
        rw [hw4] at hb4 ⊢
        have hb5 := hb3.below' hb4
        have n0 := hb5.cell 0
        have n1 := hb5.cell 1
        have n2 := hb5.cell 2
        have n3 := hb5.cell 3
        simp only [it, List.getElem?_toArray, List.getElem?_cons_zero, List.getElem?_cons_succ] at n0 n1 n2 n3
        have c1 : Chg (Of t) σ w (upd σ w.heap.size 0) w2 := ((Chg.of_below (Of t) σ HBF.out.1).upd (Nat.le_refl _) 0).trans (H2.out.2.1.mono (fun y hy => by unfold Of; have := H.out.good.o2; have := Hdo.out; omega))
        have c2 := (c1.grown hgr (fun q hq => by cases hq; exact .inr (Nat.le_refl _))).below hb4
        have hfz : FlowAt w4 (upd σ w.heap.size 0) t g (F.putb d L) := ((show FlowAt w2 (upd σ w.heap.size 0) t g (F.putb d L) from ⟨_, _, _, _, _, _, H2.out.1⟩).chg ((Chg.refl (fun y => y = 0) (upd σ w.heap.size 0) w2).grown hgr (fun q hq => by cases hq; exact .inl (upd_new (Nat.le_refl _)))) (fun y hy e => by unfold Of at hy; subst e; exact absurd hy.1 (by have := Ht.out; omega))).below hb4
        refine bodyPost_ret (v := .tuple #[.int .i64 x.src, itv x.item, .int .i64 0]) (by simp [results, Try.results19, go_sem, itv, n0, n1, n2, n3]) rfl ⟨rfl, _, hfz, c2⟩
  · have ht : F.take j = (0, zitem, 1, F) := by unfold FS.take; rw [if_neg hi]
    rw [ht]
    obtain ⟨o, ho⟩ : ∃ o, F.o = o := ⟨_, rfl⟩
    rw [ho] at hc1 hi
    have hcase : j < 0 ∨ (¬ j < 0 ∧ (o : Int) ≤ j) := by omega
    clear hi ht h hF ho hB hrv
    rcases hcase with h1 | ⟨h1, h2⟩
    all_goals
      go_enter Try.func19, Try.ntmps19
      go_wp2
      refine bodyPost_ret (v := .tuple #[.int .i64 0, itv zitem, .int .i64 1]) (by simp [results, Try.results19, go_sem, itv, zitem]) rfl ⟨rfl, σ, HBF.out.2.1.below HBF.out.1, Chg.of_below _ _ HBF.out.1⟩
end Go.Proofs.Ytapninpdjccglaa.C
