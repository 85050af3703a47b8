/-
  The document's flow in memory; its small calls.
-/
import Derived.Test.YtapninpdjccglaaOrderY
set_option linter.unusedVariables false
set_option linter.unusedSimpArgs false
namespace Go.Proofs.Ytapninpdjccglaa.C
open Go.RowKit Go.Proofs.Ytapninpdjccglaa.K

structure RefIn (w : World) (σ : Nat → Nat) (t g : Nat) (F : FS) (gq gb gn : Nat) (qv bv : Nat → Value) : Prop where
  good : FGood F
  blk : MBlk w σ t g 66 #[.int .i64 F.m, .slice (some ⟨gq, 0, none⟩) F.s F.s, .slice (some ⟨gb, 0, none⟩) F.o F.o, .slice (some ⟨gn, 0, none⟩) F.s F.s]
  rq : w.rowIs gq 45 F.s qv
  tq : σ gq = t + 1
  rb : w.rowIs gb 86 F.o bv
  tb : σ gb = t + 2
  rn : w.rowIs gn 3 F.s (fun k => .int .i64 (F.to k : Nat))
  tn : σ gn = t + 3
  qs : ∀ i, i < F.s → SRow w σ (t + 12 + i) 33 4 (qv i) (F.q i).length (its (F.q i))
  bs : ∀ j, j < F.o → SRow w σ (t + 4 + j) 87 5 (bv j) (F.b j).length ((F.b j).flatMap ms)
def RefAt (w : World) (σ : Nat → Nat) (t g : Nat) (F : FS) : Prop := ∃ gq gb gn qv bv, RefIn w σ t g F gq gb gn qv bv
section
variable {w w' : World} {σ σ' : Nat → Nat} {t g : Nat} {F : FS} {gq gb gn : Nat} {qv bv : Nat → Value} {S : Nat → Prop}
theorem RefIn.chg (h : RefIn w σ t g F gq gb gn qv bv) (c : Chg S σ w σ' w') (hs : ∀ x, Of t x → ¬ S x) : RefIn w' σ' t g F gq gb gn qv bv := by
  have hg := h.good
  have hs2 := hg.s2
  have ho2 := hg.o2
  refine ⟨h.good, h.blk.chg c (hs _ ⟨by omega, by omega⟩), row_chg h.rq c (by rw [h.tq]; exact hs _ ⟨by omega, by omega⟩), (c.marks _ h.rq.lt).trans h.tq, row_chg h.rb c (by rw [h.tb]; exact hs _ ⟨by omega, by omega⟩), (c.marks _ h.rb.lt).trans h.tb,
    row_chg h.rn c (by rw [h.tn]; exact hs _ ⟨by omega, by omega⟩), (c.marks _ h.rn.lt).trans h.tn, fun i hi => (h.qs i hi).chg c (hs _ ⟨by omega, by omega⟩), fun j hj => (h.bs j hj).chg c (hs _ ⟨by omega, by omega⟩)⟩
theorem RefAt.chg (h : RefAt w σ t g F) (c : Chg S σ w σ' w') (hs : ∀ x, Of t x → ¬ S x) : RefAt w' σ' t g F := by
  obtain ⟨gq, gb, gn, qv, bv, h⟩ := h
  exact ⟨gq, gb, gn, qv, bv, h.chg c hs⟩
theorem RefIn.below (h : RefIn w σ t g F gq gb gn qv bv) (hb : Below w.heap.size w w') : RefIn w' σ t g F gq gb gn qv bv := h.chg (Chg.of_below (fun _ => False) σ hb) (fun _ _ h => h)
theorem RefAt.below (h : RefAt w σ t g F) (hb : Below w.heap.size w w') : RefAt w' σ t g F := h.chg (Chg.of_below (fun _ => False) σ hb) (fun _ _ h => h)
theorem RefAt.upd (h : RefAt w σ t g F) {n : Nat} (hn : w.heap.size ≤ n) (x : Nat) : RefAt w (K.upd σ n x) t g F := h.chg ((Chg.refl (fun _ => False) σ w).upd hn x) (fun _ _ h => h)
theorem RefAt.good (h : RefAt w σ t g F) : FGood F := by
  obtain ⟨gq, gb, gn, qv, bv, h⟩ := h
  exact h.good
theorem RefIn.c0 (h : RefIn w σ t g F gq gb gn qv bv) : w.cell? ⟨g, 0, none⟩ = some (.int .i64 (F.m : Nat)) := by rw [h.blk.1.cell]; rfl
theorem RefIn.c1 (h : RefIn w σ t g F gq gb gn qv bv) : w.cell? ⟨g, 1, none⟩ = some (.slice (some ⟨gq, 0, none⟩) F.s F.s) := by rw [h.blk.1.cell]; rfl
theorem RefIn.c2 (h : RefIn w σ t g F gq gb gn qv bv) : w.cell? ⟨g, 2, none⟩ = some (.slice (some ⟨gb, 0, none⟩) F.o F.o) := by rw [h.blk.1.cell]; rfl
theorem RefIn.c3 (h : RefIn w σ t g F gq gb gn qv bv) : w.cell? ⟨g, 3, none⟩ = some (.slice (some ⟨gn, 0, none⟩) F.s F.s) := by rw [h.blk.1.cell]; rfl
theorem RefIn.q0 (h : RefIn w σ t g F gq gb gn qv bv) {i : Nat} (hi : i < F.s) : w.cell? ⟨gq, i, none⟩ = some (qv i) := h.rq.cell hi
theorem RefIn.b0 (h : RefIn w σ t g F gq gb gn qv bv) {j : Nat} (hj : j < F.o) : w.cell? ⟨gb, j, none⟩ = some (bv j) := h.rb.cell hj
theorem RefIn.n0 (h : RefIn w σ t g F gq gb gn qv bv) {i : Nat} (hi : i < F.s) : w.cell? ⟨gn, i, none⟩ = some (.int .i64 (F.to i : Nat)) := h.rn.cell hi
end

theorem r_key (w : World) (k : ByteArray) : Calls Try.prog 40 #[.string k] w fun e w' => e = .returned (.bool (decide (¬ k.toList = [] ∧ (k.size : Int) ≤ 32))) ∧ w = w' := by
  by_cases h1 : k.toList = []
  · have h2 : k.size = 0 := by have := (toList_nil_iff_emptyBytes k).1 h1; rw [this]; rfl
    have h3 : ¬ (1 : Int) ≤ (k.size : Int) := by omega
    rw [show decide (¬ k.toList = [] ∧ (k.size : Int) ≤ 32) = false by simp [h1]]
    clear h1 h2
    go_enter Try.func40, Try.ntmps40
    go_wp2
    go_ret
    exact ⟨rfl, rfl⟩
  · have h2 : (1 : Int) ≤ (k.size : Int) := by
      rcases Nat.eq_zero_or_pos k.size with h | h
      · exfalso
        refine h1 ((toList_nil_iff_emptyBytes k).2 ?_)
        obtain ⟨d⟩ := k
        have : d.size = 0 := h
        have := Array.eq_empty_of_size_eq_zero this
        subst this
        rfl
      · omega
    by_cases h3 : (k.size : Int) ≤ 32
    · rw [show decide (¬ k.toList = [] ∧ (k.size : Int) ≤ 32) = true by simp [h1]; omega]
      clear h1
      go_enter Try.func40, Try.ntmps40
      go_wp2
      go_ret
      exact ⟨rfl, rfl⟩
    · rw [show decide (¬ k.toList = [] ∧ (k.size : Int) ≤ 32) = false by simp [h1]; omega]
      clear h1
      go_enter Try.func40, Try.ntmps40
      go_wp2
      go_ret
      exact ⟨rfl, rfl⟩
theorem r_time (w : World) (x : Int) : Calls Try.prog 41 #[.int .i64 x] w fun e w' => e = .returned (.bool (decide (-1152921504606846976 ≤ x ∧ x ≤ 1152921504606846976))) ∧ w = w' := by
  by_cases h1 : -1152921504606846976 ≤ x
  · by_cases h2 : x ≤ 1152921504606846976
    · rw [show decide (-1152921504606846976 ≤ x ∧ x ≤ 1152921504606846976) = true by simp [h1, h2]]
      go_enter Try.func41, Try.ntmps41
      go_wp2
      go_ret
      exact ⟨rfl, rfl⟩
    · rw [show decide (-1152921504606846976 ≤ x ∧ x ≤ 1152921504606846976) = false by simp; omega]
      go_enter Try.func41, Try.ntmps41
      go_wp2
      go_ret
      exact ⟨rfl, rfl⟩
  · rw [show decide (-1152921504606846976 ≤ x ∧ x ≤ 1152921504606846976) = false by simp; omega]
    go_enter Try.func41, Try.ntmps41
    go_wp2
    go_ret
    exact ⟨rfl, rfl⟩
set_option maxRecDepth 100000 in
theorem r_may (w : World) (x : It) : Calls Try.prog 38 #[itv x] w fun e w' => e = .returned (.int .i64 (May x)) ∧ Below w.heap.size w w' := by
  have hB : Below w.heap.size w (w.alloc (.cells #[.bool x.mark, .string x.key, .int .i64 x.time, .int .i64 x.value] 33)) := (Below.refl _ _).alloc (Nat.le_refl _) _
  have HB := Lib.hid hB
  unfold itv
  obtain ⟨mk, key, tm, vl⟩ := x
  dsimp only at *
  clear hB
  have hkk := fun W => r_key W key
  have htt := fun W => r_time W tm
  unfold May
  dsimp only
  rcases mk with _ | _
  · by_cases h1 : ¬ key.toList = [] ∧ (key.size : Int) ≤ 32
    · rw [decide_eq_true h1] at hkk
      rw [if_neg (by rintro ⟨_, h | h⟩; exact h1.1 h; have := h1.2; omega)]
      clear h1
      by_cases h2 : -1152921504606846976 ≤ tm ∧ tm ≤ 1152921504606846976
      · rw [decide_eq_true h2] at htt
        rw [if_neg (by omega), if_neg (by simp)]
        clear h2
        have Hk := Lib.hid hkk
        have Ht := Lib.hid htt
        clear hkk htt
        go_enter Try.func38, Try.ntmps38
        go_wp2_with fail
        refine (Hk.out _).mono ?_
        rintro e w1 ⟨rfl, rfl⟩
        go_wp2_with fail
        refine (Ht.out _).mono ?_
        rintro e w1 ⟨rfl, rfl⟩
        go_wp2
        go_ret
        exact ⟨rfl, HB.out⟩
      · rw [decide_eq_false h2] at htt
        rw [if_pos (by omega)]
        clear h2
        have Hk := Lib.hid hkk
        have Ht := Lib.hid htt
        clear hkk htt
        go_enter Try.func38, Try.ntmps38
        go_wp2_with fail
        refine (Hk.out _).mono ?_
        rintro e w1 ⟨rfl, rfl⟩
        go_wp2_with fail
        refine (Ht.out _).mono ?_
        rintro e w1 ⟨rfl, rfl⟩
        go_wp2
        go_ret
        exact ⟨rfl, HB.out⟩
    · rw [decide_eq_false h1] at hkk
      rw [if_pos ⟨rfl, by
        by_cases h2 : key.toList = []
        · exact .inl h2
        · right
          rcases Nat.lt_or_ge 32 key.size with h | h
          · exact h
          · exact absurd ⟨h2, by omega⟩ h1⟩]
      clear h1
      have Hk := Lib.hid hkk
      clear hkk htt
      go_enter Try.func38, Try.ntmps38
      go_wp2_with fail
      refine (Hk.out _).mono ?_
      rintro e w1 ⟨rfl, rfl⟩
      go_wp2
      go_ret
      exact ⟨rfl, HB.out⟩
  · rw [if_neg (by simp)]
    by_cases h2 : -1152921504606846976 ≤ tm ∧ tm ≤ 1152921504606846976
    · rw [decide_eq_true h2] at htt
      rw [if_neg (by omega)]
      clear h2
      have Ht := Lib.hid htt
      clear hkk htt
      by_cases h3 : key.toList = []
      · by_cases h4 : vl = 0
        · rw [if_neg (by simp [h3, h4])]
          have h6 : (vl != 0) = false := by simp [h4]
          clear h4
          go_enter Try.func38, Try.ntmps38
          go_wp2_with fail
          refine (Ht.out _).mono ?_
          rintro e w1 ⟨rfl, rfl⟩
          go_wp2
          go_ret
          exact ⟨rfl, HB.out⟩
        · rw [if_pos (by simp [h4])]
          have h6 : (vl != 0) = true := by simpa using h4
          clear h4
          go_enter Try.func38, Try.ntmps38
          go_wp2_with fail
          refine (Ht.out _).mono ?_
          rintro e w1 ⟨rfl, rfl⟩
          go_wp2
          go_ret
          exact ⟨rfl, HB.out⟩
      · rw [if_pos ⟨rfl, .inl h3⟩]
        have h6 : key.toList.isEmpty = false := by simpa using h3
        clear h3
        go_enter Try.func38, Try.ntmps38
        go_wp2_with fail
        refine (Ht.out _).mono ?_
        rintro e w1 ⟨rfl, rfl⟩
        go_wp2
        go_ret
        exact ⟨rfl, HB.out⟩
    · rw [decide_eq_false h2] at htt
      rw [if_pos (by omega)]
      clear h2
      have Ht := Lib.hid htt
      clear hkk htt
      go_enter Try.func38, Try.ntmps38
      go_wp2_with fail
      refine (Ht.out _).mono ?_
      rintro e w1 ⟨rfl, rfl⟩
      go_wp2
      go_ret
      exact ⟨rfl, HB.out⟩
end Go.Proofs.Ytapninpdjccglaa.C
