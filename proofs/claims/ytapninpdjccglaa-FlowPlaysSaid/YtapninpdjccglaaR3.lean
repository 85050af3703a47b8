/-
  The document's flow: Put.
-/
import Derived.Test.YtapninpdjccglaaR2
set_option linter.unusedVariables false
set_option linter.unusedSimpArgs false
namespace Go.Proofs.Ytapninpdjccglaa.C
open Go.RowKit Go.Proofs.Ytapninpdjccglaa.K

section
variable {w W1 w2 : World} {σ1 σ2 : Nat → Nat} {t g : Nat} {F : FS} {gq gb gn : Nat} {qv bv : Nat → Value}
theorem RefIn.setq (h : RefIn W1 σ1 t g F gq gb gn qv bv) {d : Nat} (hd : d < F.s) (v : Value) (L : List It) (hL : L.length ≤ 65536) (hs : SRow w2 σ2 (t + 12 + d) 33 4 v L.length (its L)) (hc : Chg (fun y => y = t + 12 + d) σ1 W1 σ2 w2) :
    RefIn (w2.setCell ⟨gq, d, none⟩ v) σ2 t g (F.putq d L) gq gb gn (fun k => if k = d then v else qv k) bv ∧ Chg (fun y => y = t + 1 ∨ y = t + 12 + d) σ1 W1 σ2 (w2.setCell ⟨gq, d, none⟩ v) := by
  have hg := h.good
  have hs2 := hg.s2
  have ho2 := hg.o2
  have hgq : σ2 gq = t + 1 := (hc.marks _ h.rq.lt).trans h.tq
  have c : Chg (fun y => y = t + 1 ∨ y = t + 12 + d) σ1 W1 σ2 (w2.setCell ⟨gq, d, none⟩ v) := (hc.mono (fun _ h => .inr h)).setCell (p := ⟨gq, d, none⟩) (.inl (.inl hgq)) _
  have cs : Chg (fun y => y = t + 1) σ2 w2 σ2 (w2.setCell ⟨gq, d, none⟩ v) := (Chg.refl _ σ2 w2).setCell (p := ⟨gq, d, none⟩) (.inl hgq) _
  have r1 : w2.rowIs gq 45 F.s qv := h.rq.of_block (hc.block gq h.rq.lt (by rw [h.tq]; omega))
  refine ⟨⟨⟨hg.s1, hg.s2, hg.o1, hg.o2, hg.m1, hg.m2, hg.to, fun k hk => ?_, hg.b⟩, h.blk.chg c (by omega), r1.set d v, hgq, row_chg h.rb c (by rw [h.tb]; omega), (c.marks _ h.rb.lt).trans h.tb, row_chg h.rn c (by rw [h.tn]; omega), (c.marks _ h.rn.lt).trans h.tn, fun k hk => ?_, fun j hj => (h.bs j hj).chg c (by have : j < F.o := hj; omega)⟩, c⟩
  · show (if k = d then L else F.q k).length ≤ 65536
    split
    · exact hL
    · exact hg.q k hk
  · show SRow _ σ2 (t + 12 + k) 33 4 (if k = d then v else qv k) (if k = d then L else F.q k).length (its (if k = d then L else F.q k))
    by_cases hkd : k = d
    · subst hkd
      simp only [if_true]
      exact hs.chg cs (by omega)
    · simp only [hkd, if_false]
      exact (h.qs k hk).chg c (by omega)
theorem RefIn.setb (h : RefIn W1 σ1 t g F gq gb gn qv bv) {d : Nat} (hd : d < F.o) (v : Value) (L : List Ms) (hL : L.length ≤ F.m) (hs : SRow w2 σ2 (t + 4 + d) 87 5 v L.length (L.flatMap ms)) (hc : Chg (fun y => y = t + 4 + d) σ1 W1 σ2 w2) :
    RefIn (w2.setCell ⟨gb, d, none⟩ v) σ2 t g (F.putb d L) gq gb gn qv (fun k => if k = d then v else bv k) ∧ Chg (fun y => y = t + 2 ∨ y = t + 4 + d) σ1 W1 σ2 (w2.setCell ⟨gb, d, none⟩ v) := by
  have hg := h.good
  have hs2 := hg.s2
  have ho2 := hg.o2
  have hgq : σ2 gb = t + 2 := (hc.marks _ h.rb.lt).trans h.tb
  have c : Chg (fun y => y = t + 2 ∨ y = t + 4 + d) σ1 W1 σ2 (w2.setCell ⟨gb, d, none⟩ v) := (hc.mono (fun _ h => .inr h)).setCell (p := ⟨gb, d, none⟩) (.inl (.inl hgq)) _
  have cs : Chg (fun y => y = t + 2) σ2 w2 σ2 (w2.setCell ⟨gb, d, none⟩ v) := (Chg.refl _ σ2 w2).setCell (p := ⟨gb, d, none⟩) (.inl hgq) _
  have r1 : w2.rowIs gb 86 F.o bv := h.rb.of_block (hc.block gb h.rb.lt (by rw [h.tb]; omega))
  refine ⟨⟨⟨hg.s1, hg.s2, hg.o1, hg.o2, hg.m1, hg.m2, hg.to, hg.q, fun k hk => ?_⟩, h.blk.chg c (by omega), row_chg h.rq c (by rw [h.tq]; omega), (c.marks _ h.rq.lt).trans h.tq, r1.set d v, hgq, row_chg h.rn c (by rw [h.tn]; omega), (c.marks _ h.rn.lt).trans h.tn, fun k hk => (h.qs k hk).chg c (by have : k < F.s := hk; omega), fun k hk => ?_⟩, c⟩
  · show (if k = d then L else F.b k).length ≤ F.m
    split
    · exact hL
    · exact hg.b k hk
  · show SRow _ σ2 (t + 4 + k) 87 5 (if k = d then v else bv k) (if k = d then L else F.b k).length ((if k = d then L else F.b k).flatMap ms)
    by_cases hkd : k = d
    · subst hkd
      simp only [if_true]
      exact hs.chg cs (by omega)
    · simp only [hkd, if_false]
      exact (h.bs k hk).chg c (by have : k < F.o := hk; omega)
theorem RefIn.setn (h : RefIn w σ1 t g F gq gb gn qv bv) {d : Nat} (hd : d < F.s) (n : Nat) (hn : n ≤ F.o) :
    RefIn (w.setCell ⟨gn, d, none⟩ (.int .i64 (n : Nat))) σ1 t g (F.putto d n) gq gb gn qv bv ∧ Chg (fun y => y = t + 3) σ1 w σ1 (w.setCell ⟨gn, d, none⟩ (.int .i64 (n : Nat))) := by
  have hg := h.good
  have hs2 := hg.s2
  have ho2 := hg.o2
  have c : Chg (fun y => y = t + 3) σ1 w σ1 (w.setCell ⟨gn, d, none⟩ (.int .i64 (n : Nat))) := (Chg.refl _ σ1 w).setCell (p := ⟨gn, d, none⟩) (.inl h.tn) _
  refine ⟨⟨⟨hg.s1, hg.s2, hg.o1, hg.o2, hg.m1, hg.m2, fun k hk => ?_, hg.q, hg.b⟩, h.blk.chg c (by omega), row_chg h.rq c (by rw [h.tq]; omega), h.tq, row_chg h.rb c (by rw [h.tb]; omega), h.tb, (h.rn.set d _).congr (fun i hi => ?_), h.tn, fun k hk => (h.qs k hk).chg c (by omega), fun k hk => (h.bs k hk).chg c (by have : k < F.o := hk; omega)⟩, c⟩
  · show (if k = d then n else F.to k) ≤ F.o
    split
    · exact hn
    · exact hg.to k hk
  · show (if i = d then Value.int .i64 (n : Nat) else .int .i64 (F.to i : Nat)) = .int .i64 ((if i = d then n else F.to i : Nat) : Nat)
    by_cases e : i = d <;> simp [e]
end

set_option maxRecDepth 100000 in
set_option maxHeartbeats 1600000 in
theorem r_put (w : World) (σ : Nat → Nat) (t g : Nat) (ht : 0 < t) (F : FS) (hF : RefAt w σ t g F) (i : Int) (x : It) :
    Calls Try.prog 25 #[.pointer (some ⟨g, 0, none⟩), .int .i64 i, itv x] w fun e w' => e = .returned (.int .i64 (F.put i x).1) ∧ ∃ σ', RefAt w' σ' t g (F.put i x).2 ∧ Chg (Of t) σ w σ' w' := by
  have hal : Below w.heap.size w (w.alloc (.cells #[.bool x.mark, .string x.key, .int .i64 x.time, .int .i64 x.value] 33)) := (Below.refl _ _).alloc (Nat.le_refl _) _
  have hbx : Blk (w.alloc (.cells #[.bool x.mark, .string x.key, .int .i64 x.time, .int .i64 x.value] 33)) w.heap.size 33 #[.bool x.mark, .string x.key, .int .i64 x.time, .int .i64 x.value] := Blk.new _ _ _
  have HF := Lib.hid hF
  obtain ⟨gq, gb, gn, qv, bv, h⟩ := hF
  have hal0 := (hal.cell (p := ⟨g, 1, none⟩) (World.block_lt_of_cell? _ _ h.c1)).trans h.c1
  obtain ⟨s, hs⟩ : ∃ s, F.s = s := ⟨_, rfl⟩
  rw [hs] at hal0
  by_cases hi : 0 ≤ i ∧ i < F.s
  · obtain ⟨d, rfl⟩ := Int.eq_ofNat_of_zero_le hi.1
    have hd : d < F.s := by omega
    have h1 : ¬ (d : Int) < 0 := by omega
    have h2 : ¬ (s : Int) ≤ (d : Int) := by omega
    have h3 : (0 : Int) ≤ (d : Int) := by omega
    have h4 : (d : Int) < (s : Int) := by omega
    have hput : F.put (d : Int) x = if May x = 0 then if (F.q d).length = 65536 then (2, F) else (0, F.putq d (F.q d ++ [x])) else (May x, F) := by
      unfold FS.put
      rw [if_pos hi, Int.toNat_natCast]
    rw [hput]
    obtain ⟨W0, hW0⟩ : ∃ W0, w.alloc (.cells #[.bool x.mark, .string x.key, .int .i64 x.time, .int .i64 x.value] 33) = W0 := ⟨_, rfl⟩
    have b0 : (w.alloc (.cells #[.bool x.mark, .string x.key, .int .i64 x.time, .int .i64 x.value] 33)).cell? ⟨w.heap.size, 0, none⟩ = some (.bool x.mark) := by rw [hbx.cell]; rfl
    have b1 : (w.alloc (.cells #[.bool x.mark, .string x.key, .int .i64 x.time, .int .i64 x.value] 33)).cell? ⟨w.heap.size, 1, none⟩ = some (.string x.key) := by rw [hbx.cell]; rfl
    have b2 : (w.alloc (.cells #[.bool x.mark, .string x.key, .int .i64 x.time, .int .i64 x.value] 33)).cell? ⟨w.heap.size, 2, none⟩ = some (.int .i64 x.time) := by rw [hbx.cell]; rfl
    have b3 : (w.alloc (.cells #[.bool x.mark, .string x.key, .int .i64 x.time, .int .i64 x.value] 33)).cell? ⟨w.heap.size, 3, none⟩ = some (.int .i64 x.value) := by rw [hbx.cell]; rfl
    have hmc := r_may (w.alloc (.cells #[.bool x.mark, .string x.key, .int .i64 x.time, .int .i64 x.value] 33)) x
    unfold itv at hmc ⊢
    have H := Lib.hid (And.intro h (And.intro hd (And.intro hal hbx)))
    have Hmc := Lib.hid hmc
    clear hput h hd hal hbx hmc hi hW0
    obtain ⟨n, hn⟩ : ∃ n, (F.q d).length = n := ⟨_, rfl⟩
    rw [hn]
    by_cases hm : May x = 0
    · rw [if_pos hm]
      rw [hm] at Hmc
      clear hm
      by_cases hfull : n = 65536
      · rw [if_pos hfull]
        go_enter Try.func25, Try.ntmps25
        go_wp2_with fail
        refine Hmc.out.mono ?_
        rintro e w1 ⟨rfl, hb1⟩
        have hb : Below w.heap.size w w1 := Below.then_ H.out.2.2.1 H.out.2.2.1.size hb1
        have mv : ∀ p v, (w.alloc (.cells #[.bool x.mark, .string x.key, .int .i64 x.time, .int .i64 x.value] 33)).cell? p = some v → w1.cell? p = some v := fun p v hp => (hb1.cell (p := p) (World.block_lt_of_cell? _ _ hp)).trans hp
        have bx1 : Blk w1 w.heap.size 33 #[.bool x.mark, .string x.key, .int .i64 x.time, .int .i64 x.value] := H.out.2.2.2.below' hb1
        replace b0 := mv _ _ b0
        replace b1 := mv _ _ b1
        replace b2 := mv _ _ b2
        replace b3 := mv _ _ b3
        replace hal0 := mv _ _ hal0
        clear mv
        have hR : RefIn w1 (K.upd σ w.heap.size 0) t g F gq gb gn qv bv := (H.out.1.chg ((Chg.refl (fun _ => False) σ w).upd (Nat.le_refl _) 0) (fun _ _ h => h)).chg (Chg.of_below (fun _ => False) (K.upd σ w.heap.size 0) (⟨hb.os, hb.tape, hb.output, hb.size, hb.block⟩ : Below w.heap.size w w1)) (fun _ _ h => h)
        have hC : Chg (Of t) σ w (K.upd σ w.heap.size 0) w1 := (Chg.of_below (Of t) σ hb).upd (Nat.le_refl _) 0
        have hσ : (K.upd σ w.heap.size 0) w.heap.size = 0 := upd_new (Nat.le_refl _)
        generalize K.upd σ w.heap.size 0 = σ1 at hR hC hσ
        generalize w.heap.size = gx at hσ b0 b1 b2 b3 bx1 ⊢
        obtain ⟨A, c, hv, hnc⟩ := (hR.qs d H.out.2.1).slice
        have q0 := hR.q0 H.out.2.1
        rw [hv] at q0
        have hq6 := hR.good.q d H.out.2.1
        have hrow := hR.qs d H.out.2.1
        rw [hv] at hrow
        rw [hn] at q0 hq6 hrow
        have hgx : gx ≠ g := by intro e; have := hR.blk.2; rw [← e, hσ] at this; omega
        have HR := Lib.hid (And.intro hR (And.intro hC hn))
        have hfz := hR.rq.frozen d
        clear hb hb1 hR hC hv hnc Hmc hn
        subst hfull
        go_wp2
        go_ret
        exact ⟨rfl, σ1, ⟨_, _, _, _, _, HR.out.1⟩, HR.out.2.1⟩
      · rw [if_neg hfull]
        go_enter Try.func25, Try.ntmps25
        go_wp2_with fail
        refine Hmc.out.mono ?_
        rintro e w1 ⟨rfl, hb1⟩
        have hb : Below w.heap.size w w1 := Below.then_ H.out.2.2.1 H.out.2.2.1.size hb1
        have mv : ∀ p v, (w.alloc (.cells #[.bool x.mark, .string x.key, .int .i64 x.time, .int .i64 x.value] 33)).cell? p = some v → w1.cell? p = some v := fun p v hp => (hb1.cell (p := p) (World.block_lt_of_cell? _ _ hp)).trans hp
        have bx1 : Blk w1 w.heap.size 33 #[.bool x.mark, .string x.key, .int .i64 x.time, .int .i64 x.value] := H.out.2.2.2.below' hb1
        replace b0 := mv _ _ b0
        replace b1 := mv _ _ b1
        replace b2 := mv _ _ b2
        replace b3 := mv _ _ b3
        replace hal0 := mv _ _ hal0
        clear mv
        have hR : RefIn w1 (K.upd σ w.heap.size 0) t g F gq gb gn qv bv := (H.out.1.chg ((Chg.refl (fun _ => False) σ w).upd (Nat.le_refl _) 0) (fun _ _ h => h)).chg (Chg.of_below (fun _ => False) (K.upd σ w.heap.size 0) (⟨hb.os, hb.tape, hb.output, hb.size, hb.block⟩ : Below w.heap.size w w1)) (fun _ _ h => h)
        have hC : Chg (Of t) σ w (K.upd σ w.heap.size 0) w1 := (Chg.of_below (Of t) σ hb).upd (Nat.le_refl _) 0
        have hσ : (K.upd σ w.heap.size 0) w.heap.size = 0 := upd_new (Nat.le_refl _)
        generalize K.upd σ w.heap.size 0 = σ1 at hR hC hσ
        generalize w.heap.size = gx at hσ b0 b1 b2 b3 bx1 ⊢
        obtain ⟨A, c, hv, hnc⟩ := (hR.qs d H.out.2.1).slice
        have q0 := hR.q0 H.out.2.1
        rw [hv] at q0
        have hq6 := hR.good.q d H.out.2.1
        have hrow := hR.qs d H.out.2.1
        rw [hv] at hrow
        rw [hn] at q0 hq6 hrow
        have hgx : gx ≠ g := by intro e; have := hR.blk.2; rw [← e, hσ] at this; omega
        have HR := Lib.hid (And.intro hR (And.intro hC hn))
        have hfz := hR.rq.frozen d
        clear hb hb1 hR hC hv hnc Hmc hn
        have hful2 : ¬ (65536 : Int) ≤ (n : Int) := by omega
        obtain ⟨i3, hi3, hz0, hz1, hz2⟩ := info_of info33'
        have hba : Below w1.heap.size w1 ((w1.alloc (.cells (it x).toArray 33)).drew) := ((Below.refl _ _).alloc (Nat.le_refl _) _).drew
        have hba2 : Below w1.heap.size w1 (w1.alloc (.cells #[.bool x.mark, .string x.key, .int .i64 x.time, .int .i64 x.value] 33)) := (Below.refl _ _).alloc (Nat.le_refl _) _
        have kq := (hba2.cell (p := ⟨gq, d, none⟩) (World.block_lt_of_cell? _ _ q0)).trans q0
        have kg := (hba2.cell (p := ⟨g, 1, none⟩) (World.block_lt_of_cell? _ _ hal0)).trans hal0
        have hne1 := World.new_ne w1 _ q0
        have hne2 : ¬ gq = w1.heap.size := fun e => hne1 e.symm
        have hne3 := World.new_ne w1 _ hal0
        have hne4 : ¬ g = w1.heap.size := fun e => hne3 e.symm
        have HNEW : Hid (∀ j u, (it x)[j]? = some u → ((w1.alloc (.cells (it x).toArray 33)).drew).cell? ((⟨w1.heap.size, 0, none⟩ : Addr).add j) = some u) := Lib.hid (by
          intro j u hj
          have hadd : (⟨w1.heap.size, 0, none⟩ : Addr).add j = ⟨w1.heap.size, j, none⟩ := by unfold Addr.add; split <;> simp_all
          rw [hadd, World.cell?_drew, (Blk.new w1 33 (it x).toArray).cell]
          simpa using hj)
        have KK : Hid (∀ (w2 : World) (σ2 : Nat → Nat), Chg (fun y => y = t + 12 + d) σ1 ((w1.alloc (.cells (it x).toArray 33)).drew) σ2 w2 → w2.cell? ⟨g, 1, none⟩ = some (.slice (some ⟨gq, 0, none⟩) s s) ∧ w2.frozen? ⟨gq, d, none⟩ = false ∧ w2.cell? ⟨gq, d, none⟩ = some (.slice A n c)) := Lib.hid (by
          intro w2 σ2 hc2
          have l1 := World.block_lt_of_cell? _ _ q0
          have l2 := World.block_lt_of_cell? _ _ hal0
          have e1 := hc2.block gq (Nat.lt_of_lt_of_le l1 hba.size) (by rw [HR.out.1.tq]; omega)
          have e2 := hc2.block g (Nat.lt_of_lt_of_le l2 hba.size) (by rw [HR.out.1.blk.2]; omega)
          exact ⟨(World.cell?_of_block (a := ⟨g, 1, none⟩) e2).trans ((hba.cell (p := ⟨g, 1, none⟩) l2).trans hal0), (World.frozen?_of_block (a := ⟨gq, d, none⟩) e1).trans ((hba.frozen (p := ⟨gq, d, none⟩) l1).trans hfz), (World.cell?_of_block (a := ⟨gq, d, none⟩) e1).trans ((hba.cell (p := ⟨gq, d, none⟩) l1).trans q0)⟩)
        have HB := Lib.hid hba
        have Hrow := Lib.hid hrow
        clear hba hba2 hrow
        obtain ⟨mk, key, tm, vl⟩ := x
        dsimp only at *
        go_upto_region 8 with fail
        go_cut [] (fun w' => ∃ σ', RefAt w' σ' t g (F.putq d (F.q d ++ [⟨mk, key, tm, vl⟩])) ∧ Chg (Of t) σ1 w1 σ' w')
        case first =>
          go_region_law (first | (refine step_append_srow (by rfl) _ _ 45 (by rfl) σ1 (t + 12 + d) 33 i3 _ 4 40 Try.underlying45 hi3 hz0 hz1 hz2 rfl (by omega) (.slice A n c) n (its (F.q d)) (by rfl) (Hrow.out.below HB.out) ⟨w1.heap.size, 0, none⟩ 1 1 (it ⟨mk, key, tm, vl⟩) (by rfl) rfl (HNEW.out) (it_one _) (by unfold maxLen; omega) (by omega) ?_; intro v2 w2 hs2 hc2; obtain ⟨A2, c2, rfl, -⟩ := hs2.slice; obtain ⟨kk0, kkf, kk1⟩ := KK.out _ _ hc2) | fail)
          all_goals
            obtain ⟨hr1, hr2⟩ := HR.out.1.setq H.out.2.1 (.slice A2 (n + 1) c2) (F.q d ++ [⟨mk, key, tm, vl⟩]) (by rw [List.length_append, HR.out.2.2]; show n + 1 ≤ 65536; omega) (by rw [List.length_append, HR.out.2.2, its_append, show its [⟨mk, key, tm, vl⟩] = it ⟨mk, key, tm, vl⟩ from List.append_nil _]; exact hs2) ((Chg.of_below _ _ HB.out).trans hc2)
            have hs8 := HR.out.1.good.s2
            have hd8 := H.out.2.1
            have hr3 := hr2.mono (S' := Of t) (fun y hy => by unfold Of; omega)
            clear hs2 hc2 kk0 kkf kk1 hr2 hs8 hd8
            go_wp2_with fail
            go_meet
            case rel => exact ⟨_, ⟨_, _, _, _, _, hr1⟩, hr3⟩
        case rest =>
          rename World => w5
          obtain ⟨σ5, h5, c5⟩ := hcut
          go_wp2
          go_ret
          exact ⟨rfl, σ5, h5, HR.out.2.1.trans c5⟩
    · rw [if_neg hm]
      have hm2 : (May x != 0) = true := by simpa using hm
      obtain ⟨e, he⟩ : ∃ e, May x = e := ⟨_, rfl⟩
      rw [he] at hm2 Hmc ⊢
      clear hm he hn
      go_enter Try.func25, Try.ntmps25
      go_wp2_with fail
      refine Hmc.out.mono ?_
      rintro e w1 ⟨rfl, hb1⟩
      have hb : Below w.heap.size w w1 := Below.then_ H.out.2.2.1 H.out.2.2.1.size hb1
      go_wp2
      go_ret
      exact ⟨rfl, σ, HF.out.below hb, Chg.of_below _ _ hb⟩
  · have hput : F.put i x = (1, F) := by unfold FS.put; rw [if_neg hi]
    rw [hput]
    rw [hs] at hi
    have HB := Lib.hid hal
    unfold itv
    clear h hbx hal hput hs
    by_cases h1 : i < 0
    · clear hi
      go_enter Try.func25, Try.ntmps25
      go_wp2
      go_ret
      exact ⟨rfl, σ, HF.out.below HB.out, Chg.of_below _ _ HB.out⟩
    · have h2 : (s : Int) ≤ i := by omega
      clear hi
      go_enter Try.func25, Try.ntmps25
      go_wp2
      go_ret
      exact ⟨rfl, σ, HF.out.below HB.out, Chg.of_below _ _ HB.out⟩
end Go.Proofs.Ytapninpdjccglaa.C
