/-
  The document's flow: Pass.
-/
import Derived.Test.YtapninpdjccglaaR4
set_option linter.unusedVariables false
set_option linter.unusedSimpArgs false
namespace Go.Proofs.Ytapninpdjccglaa.C
open Go.RowKit Go.Proofs.Ytapninpdjccglaa.K

set_option maxRecDepth 100000 in
set_option maxHeartbeats 1600000 in
theorem rpass_no (w : World) (σ : Nat → Nat) (t g : Nat) (F : FS) (hF : RefAt w σ t g F) (hok : FOk F) (i : Int) (he : (F.toward i).2 ≠ 0) :
    Calls Try.prog 26 #[.pointer (some ⟨g, 0, none⟩), .int .i64 i] w fun e w' => e = .returned (.tuple #[.int .i64 0, .int .i64 (F.toward i).2]) ∧ Below w.heap.size w w' := by
  have hto := r_toward w σ t g F hF hok i
  obtain ⟨a, ha⟩ : ∃ a, (F.toward i).1 = a := ⟨_, rfl⟩
  obtain ⟨e, hee⟩ : ∃ e, (F.toward i).2 = e := ⟨_, rfl⟩
  rw [ha, hee] at hto
  rw [hee] at he ⊢
  have he2 : (e != 0) = true := by simpa using he
  have Hto := Lib.hid hto
  clear ha hee hF hok he hto
  go_enter Try.func26, Try.ntmps26
  go_wp2_with fail
  refine Hto.out.mono ?_
  rintro e' w1 ⟨rfl, hb⟩
  go_wp2
  go_ret2
  exact ⟨rfl, hb⟩
theorem putto_id {F : FS} {d n : Nat} (h : F.to d = n) : F.putto d n = F := by
  unfold FS.putto
  obtain ⟨a, b, c, q, e, f⟩ := F
  congr 1
  funext k
  by_cases hk : k = d
  · subst hk; simp only [if_true]; exact h.symm
  · simp [hk]
theorem putto_two (F : FS) (d n m : Nat) (L : List It) : ((F.putto d n).putto d m).putq d L = (F.putq d L).putto d m := by
  unfold FS.putto FS.putq
  congr 1
  funext k
  by_cases hk : k = d <;> simp [hk]

set_option maxRecDepth 100000 in
set_option maxHeartbeats 3200000 in
theorem rpass_yes (w : World) (σ : Nat → Nat) (t g : Nat) (ht0 : 0 < t) (F : FS) (hF : RefAt w σ t g F) (hok : FOk F) (hz : FTo F) (d : Nat) (hd : d < F.s) (x : It) (r : List It) (hL : F.q d = x :: r) (h0 : x.mark = false → F.to d = 0) :
    Calls Try.prog 26 #[.pointer (some ⟨g, 0, none⟩), .int .i64 d] w fun e w' => e = .returned (.tuple #[.int .i64 (F.pass d).1, .int .i64 (F.pass d).2.1]) ∧ ∃ σ', RefAt w' σ' t g (F.pass d).2.2 ∧ Chg (Of t) σ w σ' w' := by
  have hto := r_toward w σ t g F hF hok d
  rw [toward_goes hd hL] at hto
  have hp : F.pass (d : Int) = if (F.b (F.goes d x)).length = F.m then (0, 45, F)
      else if x.mark = true ∧ F.to d + 1 < F.o then (((F.goes d x : Nat) : Int), 0, (F.putb (F.goes d x) (F.b (F.goes d x) ++ [⟨d, x⟩])).putto d (F.to d + 1))
      else (((F.goes d x : Nat) : Int), 0, ((F.putb (F.goes d x) (F.b (F.goes d x) ++ [⟨d, x⟩])).putq d r).putto d 0) := by
    unfold FS.pass
    rw [if_pos (by omega), Int.toNat_natCast, hL]
  rw [hp]
  have hj := goes_lt hF.good hz hd x
  obtain ⟨j, hjj⟩ : ∃ j, F.goes d x = j := ⟨_, rfl⟩
  rw [hjj] at hj hto ⊢
  obtain ⟨gq, gb, gn, qv, bv, h⟩ := hF
  have hg := h.good
  have hs2 := hg.s2
  have ho2 := hg.o2
  obtain ⟨s, hs⟩ : ∃ s, F.s = s := ⟨_, rfl⟩
  obtain ⟨o, ho⟩ : ∃ o, F.o = o := ⟨_, rfl⟩
  obtain ⟨m, hm⟩ : ∃ m, F.m = m := ⟨_, rfl⟩
  obtain ⟨n, hn⟩ : ∃ n, (F.b j).length = n := ⟨_, rfl⟩
  obtain ⟨k, hk⟩ : ∃ k, F.to d = k := ⟨_, rfl⟩
  obtain ⟨lq, hlq⟩ : ∃ lq, r.length = lq := ⟨_, rfl⟩
  have hnm := hg.b j hj
  have hm64 := hg.m2
  have hkb := hz d hd
  have hq6 := hg.q d hd
  rw [hL, List.length_cons, hlq] at hq6
  rw [hn, hm] at hnm
  rw [hm] at hm64
  rw [hk, ho] at hkb
  rw [ho] at ho2
  rw [hs] at hs2
  have hrow := h.qs d hd
  rw [hL, show its (x :: r) = it x ++ its r from rfl] at hrow
  obtain ⟨b, off, cap, hv, hnc, hcm, hsb, hbl, hcells, hfz⟩ := hrow.form (by simp)
  rw [List.length_cons, hlq] at hv hnc hrow
  rw [hv] at hrow
  obtain ⟨cp, rfl⟩ : ∃ cp, cap = cp + 1 := ⟨cap - 1, by omega⟩
  obtain ⟨Ab, cb, hvb, hncb⟩ := (h.bs j hj).slice
  rw [hn] at hvb
  have HF := Lib.hid (And.intro h (And.intro hd (And.intro hj (And.intro hn (And.intro hk hlq)))))
  have HE := Lib.hid (And.intro hs (And.intro ho (And.intro hm (And.intro hL h0))))
  have Hto := Lib.hid hto
  have hd1 : (0 : Int) ≤ (d : Int) := by omega
  have hd2 : (d : Int) < (s : Int) := by omega
  have hj1 : (0 : Int) ≤ (j : Int) := by omega
  have hj2 : (j : Int) < (o : Int) := by omega
  rw [hn, hm]
  by_cases hfull : n = m
  · rw [if_pos hfull]
    have c0 : ∀ w1, Below w.heap.size w w1 → w1.cell? ⟨g, 0, none⟩ = some (.int .i64 n) ∧ w1.cell? ⟨g, 2, none⟩ = some (.slice (some ⟨gb, 0, none⟩) o o) ∧ w1.cell? ⟨gb, j, none⟩ = some (.slice Ab n cb) := fun w1 hb => by
      have h1 := h.below hb
      exact ⟨by rw [h1.c0, hm, hfull], by rw [h1.c2, ho], by rw [h1.b0 hj, hvb]⟩
    have C0 := Lib.hid c0
    have hmm : ¬ (n : Int) < (m : Int) := by omega
    subst hfull
    clear c0 h hd hj hn hk hlq hs ho hm hL h0 hto hp hjj hz hok hg hrow hv hnc hcm hsb hbl hcells hfz hvb hncb
    go_enter Try.func26, Try.ntmps26
    go_wp2_with fail
    refine Hto.out.mono ?_
    rintro e' w1 ⟨rfl, hb⟩
    obtain ⟨k0, k1, k2⟩ := C0.out w1 hb
    go_wp2_with fail
    go_region_held3 (fun w' => w'.cell? ⟨g, 0, none⟩ = some (.int .i64 n) ∧ w'.cell? ⟨g, 2, none⟩ = some (.slice (some ⟨gb, 0, none⟩) o o) ∧ w'.cell? ⟨gb, j, none⟩ = some (.slice Ab n cb)) (go_keep) (fail)
    go_wp2
    go_ret2
    exact ⟨rfl, σ, ⟨_, _, _, _, _, HF.out.1.below hb.drew⟩, Chg.of_below _ _ hb.drew⟩
  · rw [if_neg hfull]
    have hsplit : ∀ (c : Prop) [Decidable c] (a : Int) (A B : FS), (if c then (a, (0 : Int), A) else (a, 0, B)) = (a, 0, if c then A else B) := by intros; split <;> rfl
    rw [hsplit]
    obtain ⟨R, hR⟩ : ∃ R, (if x.mark = true ∧ F.to d + 1 < F.o then (F.putb j (F.b j ++ [⟨d, x⟩])).putto d (F.to d + 1) else ((F.putb j (F.b j ++ [⟨d, x⟩])).putq d r).putto d 0) = R := ⟨_, rfl⟩
    rw [hR]
    have HR5 := Lib.hid hR
    clear hR hsplit
    have hnm2 : ¬ (m : Int) ≤ (n : Int) := by omega
    have c0 : ∀ w1, Below w.heap.size w w1 → w1.cell? ⟨g, 0, none⟩ = some (.int .i64 m) ∧ w1.cell? ⟨g, 1, none⟩ = some (.slice (some ⟨gq, 0, none⟩) s s) ∧ w1.cell? ⟨g, 2, none⟩ = some (.slice (some ⟨gb, 0, none⟩) o o) ∧ w1.cell? ⟨gb, j, none⟩ = some (.slice Ab n cb) ∧ w1.cell? ⟨gq, d, none⟩ = some (.slice (some ⟨b, off, none⟩) (lq + 1) (cp + 1)) ∧
        w1.cell? ⟨b, off, none⟩ = some (.bool x.mark) ∧ w1.cell? ⟨b, off + 1, none⟩ = some (.string x.key) ∧ w1.cell? ⟨b, off + 2, none⟩ = some (.int .i64 x.time) ∧ w1.cell? ⟨b, off + 3, none⟩ = some (.int .i64 x.value) := fun w1 hb => by
      have h1 := h.below hb
      have mv : ∀ p v, w.cell? p = some v → w1.cell? p = some v := fun p v hp => (hb.cell (p := p) (World.block_lt_of_cell? _ _ hp)).trans hp
      have i0 := hcells 0 (.bool x.mark) rfl
      rw [Nat.add_zero] at i0
      exact ⟨by rw [h1.c0, hm], by rw [h1.c1, hs], by rw [h1.c2, ho], by rw [h1.b0 hj, hvb], by rw [h1.q0 hd, hv], mv _ _ i0, mv _ _ (hcells 1 _ rfl), mv _ _ (hcells 2 _ rfl), mv _ _ (hcells 3 _ rfl)⟩
    have C0 := Lib.hid c0
    have Hrow := Lib.hid (And.intro hrow (And.intro hv hvb))
    have hlq1 : (0 : Int) < (lq : Int) + 1 := by omega
    obtain ⟨mk, key, tm, vl⟩ := x
    dsimp only at *
    clear c0 h hd hj hn hk hlq hs ho hm hL h0 hto hp hjj hz hok hg hrow hv hnc hcm hsb hbl hcells hfz hvb hncb
    go_enter Try.func26, Try.ntmps26
    go_wp2_with fail
    refine Hto.out.mono ?_
    rintro e' w1 ⟨rfl, hb⟩
    obtain ⟨k0, kk1, k1, k2, k3, i0, i1, i2, i3⟩ := C0.out w1 hb
    go_wp2_with fail
    go_region_held3 (fun w' => w'.cell? ⟨g, 0, none⟩ = some (.int .i64 m) ∧ w'.cell? ⟨g, 2, none⟩ = some (.slice (some ⟨gb, 0, none⟩) o o) ∧ w'.cell? ⟨gb, j, none⟩ = some (.slice Ab n cb)) (go_keep) (fail)
    have hb2 := hb.drew
    generalize w1.drew = wd at hb2 ⊢
    clear k0 kk1 k1 k2 k3 i0 i1 i2 i3 hb
    obtain ⟨k0, kk1, k1, k2, k3, i0, i1, i2, i3⟩ := C0.out wd hb2
    go_upto_region 7 with fail
    have hR1 : RefIn (wd.alloc (.cells #[.bool mk, .string key, .int .i64 tm, .int .i64 vl] 33)) (upd σ wd.heap.size 0) t g F gq gb gn qv bv := ((HF.out.1.below hb2).chg ((Chg.refl (fun _ => False) σ wd).upd (Nat.le_refl _) 0) (fun _ _ h => h)).below ((Below.refl _ _).alloc (Nat.le_refl _) _)
    have hbx : MBlk (wd.alloc (.cells #[.bool mk, .string key, .int .i64 tm, .int .i64 vl] 33)) (upd σ wd.heap.size 0) 0 wd.heap.size 33 #[.bool mk, .string key, .int .i64 tm, .int .i64 vl] := ⟨Blk.new _ _ _, upd_new (Nat.le_refl _)⟩
    have hC1 : Chg (Of t) σ w (upd σ wd.heap.size 0) (wd.alloc (.cells #[.bool mk, .string key, .int .i64 tm, .int .i64 vl] 33)) := ((Chg.of_below (Of t) σ hb2).upd hb2.size 0).alloc _
    generalize hW1 : wd.alloc (.cells #[.bool mk, .string key, .int .i64 tm, .int .i64 vl] 33) = W1 at *
    clear k0 kk1 k1 k2 k3 i0 i1 i2 i3 hb2 hW1
    generalize upd σ wd.heap.size 0 = σ1 at hR1 hbx hC1
    generalize wd.heap.size = gx at hbx ⊢
    have c2 : W1.cell? ⟨g, 2, none⟩ = some (.slice (some ⟨gb, 0, none⟩) o o) := by rw [hR1.c2, HE.out.2.1]
    have q0 : W1.cell? ⟨gb, j, none⟩ = some (.slice Ab n cb) := by rw [hR1.b0 HF.out.2.2.1, Hrow.out.2.2]
    have hrow : SRow W1 σ1 (t + 4 + j) 87 5 (.slice Ab n cb) n ((F.b j).flatMap ms) := by
      have := hR1.bs j HF.out.2.2.1
      rw [Hrow.out.2.2, HF.out.2.2.2.1] at this
      exact this
    have x0 : W1.cell? ⟨gx, 0, none⟩ = some (.bool mk) := by rw [hbx.1.cell]; rfl
    have x1 : W1.cell? ⟨gx, 1, none⟩ = some (.string key) := by rw [hbx.1.cell]; rfl
    have x2 : W1.cell? ⟨gx, 2, none⟩ = some (.int .i64 tm) := by rw [hbx.1.cell]; rfl
    have x3 : W1.cell? ⟨gx, 3, none⟩ = some (.int .i64 vl) := by rw [hbx.1.cell]; rfl
    have hfz := hR1.rb.frozen j
    have hba : Below W1.heap.size W1 ((W1.alloc (.cells (ms ⟨d, ⟨mk, key, tm, vl⟩⟩).toArray 87)).drew) := ((Below.refl _ _).alloc (Nat.le_refl _) _).drew
    have hba2 : Below W1.heap.size W1 (W1.alloc (.cells #[.int .i64 d, .bool mk, .string key, .int .i64 tm, .int .i64 vl] 87)) := (Below.refl _ _).alloc (Nat.le_refl _) _
    have kq := (hba2.cell (p := ⟨gb, j, none⟩) (World.block_lt_of_cell? _ _ q0)).trans q0
    have kg := (hba2.cell (p := ⟨g, 2, none⟩) (World.block_lt_of_cell? _ _ c2)).trans c2
    have hne1 := World.new_ne W1 _ q0
    have hne2 : ¬ gb = W1.heap.size := fun e => hne1 e.symm
    have hne3 := World.new_ne W1 _ c2
    have hne4 : ¬ g = W1.heap.size := fun e => hne3 e.symm
    have HNEW : Hid (∀ i u, (ms ⟨d, ⟨mk, key, tm, vl⟩⟩)[i]? = some u → ((W1.alloc (.cells (ms ⟨d, ⟨mk, key, tm, vl⟩⟩).toArray 87)).drew).cell? ((⟨W1.heap.size, 0, none⟩ : Addr).add i) = some u) := Lib.hid (by
      intro i u hi
      have hadd : (⟨W1.heap.size, 0, none⟩ : Addr).add i = ⟨W1.heap.size, i, none⟩ := by unfold Addr.add; split <;> simp_all
      rw [hadd, World.cell?_drew, (Blk.new W1 87 (ms ⟨d, ⟨mk, key, tm, vl⟩⟩).toArray).cell]
      simpa using hi)
    have KK : Hid (∀ (w2 : World) (σ2 : Nat → Nat), Chg (fun y => y = t + 4 + j) σ1 ((W1.alloc (.cells (ms ⟨d, ⟨mk, key, tm, vl⟩⟩).toArray 87)).drew) σ2 w2 → w2.cell? ⟨g, 2, none⟩ = some (.slice (some ⟨gb, 0, none⟩) o o) ∧ w2.frozen? ⟨gb, j, none⟩ = false ∧ w2.cell? ⟨gb, j, none⟩ = some (.slice Ab n cb)) := Lib.hid (by
      intro w2 σ2 hc2
      have l1 := World.block_lt_of_cell? _ _ q0
      have l2 := World.block_lt_of_cell? _ _ c2
      have e1 := hc2.block gb (Nat.lt_of_lt_of_le l1 hba.size) (by rw [hR1.tb]; omega)
      have e2 := hc2.block g (Nat.lt_of_lt_of_le l2 hba.size) (by rw [hR1.blk.2]; omega)
      exact ⟨(World.cell?_of_block (a := ⟨g, 2, none⟩) e2).trans ((hba.cell (p := ⟨g, 2, none⟩) l2).trans c2), (World.frozen?_of_block (a := ⟨gb, j, none⟩) e1).trans ((hba.frozen (p := ⟨gb, j, none⟩) l1).trans hfz), (World.cell?_of_block (a := ⟨gb, j, none⟩) e1).trans ((hba.cell (p := ⟨gb, j, none⟩) l1).trans q0)⟩)
    have HB := Lib.hid hba
    have HR := Lib.hid (And.intro hR1 (And.intro hC1 (And.intro hbx hrow)))
    clear hba hba2 hR1 hC1 hbx hrow
    obtain ⟨i5, hi5, hz0, hz1, hz2⟩ := info_of info87'
    go_cut [] (fun w' => ∃ σ' bv', RefIn w' σ' t g (F.putb j (F.b j ++ [⟨d, ⟨mk, key, tm, vl⟩⟩])) gq gb gn qv bv' ∧ Chg (fun y => y = t + 2 ∨ y = t + 4 + j) σ1 W1 σ' w')
    case first =>
      go_region_law (first | (refine step_append_srow (by rfl) _ _ 86 (by rfl) σ1 (t + 4 + j) 87 i5 _ 5 48 Try.underlying86 hi5 hz0 hz1 hz2 rfl (by omega) (.slice Ab n cb) n ((F.b j).flatMap ms) (by rfl) (HR.out.2.2.2.below HB.out) ⟨W1.heap.size, 0, none⟩ 1 1 (ms ⟨d, ⟨mk, key, tm, vl⟩⟩) (by rfl) rfl (HNEW.out) (ms_one _) (by unfold maxLen; omega) (by omega) ?_; intro v2 w2 hs2 hc2; obtain ⟨A2, c2', rfl, -⟩ := hs2.slice; obtain ⟨kk0, kkf, kk1⟩ := KK.out _ _ hc2) | fail)
      all_goals
        obtain ⟨hr1, hr2⟩ := HR.out.1.setb HF.out.2.2.1 (.slice A2 (n + 1) c2') (F.b j ++ [⟨d, ⟨mk, key, tm, vl⟩⟩]) (by rw [List.length_append, HF.out.2.2.2.1, HE.out.2.2.1]; show n + 1 ≤ m; omega) (by rw [List.length_append, HF.out.2.2.2.1, List.flatMap_append, show [(⟨d, ⟨mk, key, tm, vl⟩⟩ : Ms)].flatMap ms = ms ⟨d, ⟨mk, key, tm, vl⟩⟩ from List.append_nil _]; exact hs2) ((Chg.of_below _ _ HB.out).trans hc2)
        clear hs2 hc2 kk0 kkf kk1
        go_wp2_with fail
        go_meet
        case rel => exact ⟨_, _, hr1, hr2⟩
    case rest =>
      rename World => w5
      obtain ⟨σ5, bv5, h5, c5⟩ := hcut
      have hx5 := HR.out.2.2.1.chg c5 (by omega)
      have y0 : w5.cell? ⟨gx, 0, none⟩ = some (.bool mk) := by rw [hx5.1.cell]; rfl
      have cc5 : Chg (Of t) σ w σ5 w5 := HR.out.2.1.trans (c5.mono (fun y hy => by unfold Of; omega))
      obtain ⟨F5, hF5⟩ : ∃ F5, F.putb j (F.b j ++ [⟨d, ⟨mk, key, tm, vl⟩⟩]) = F5 := ⟨_, rfl⟩
      have hf5 : F5.s = s ∧ F5.o = o ∧ F5.q d = ⟨mk, key, tm, vl⟩ :: r ∧ F5.to d = k ∧ F5.to = F.to := by rw [← hF5]; exact ⟨HE.out.1, HE.out.2.1, HE.out.2.2.2.1, HF.out.2.2.2.2.1, rfl⟩
      rw [hF5] at h5
      have HF5 := Lib.hid hF5
      have H5 := Lib.hid (And.intro h5 (And.intro cc5 hf5))
      obtain ⟨o2, ho2⟩ : ∃ o2, (if cp = 0 then off else off + 4) = o2 := ⟨_, rfl⟩
      have Ho2 := Lib.hid ho2
      have hsl := fun W => slice_one W b off lq cp
      simp only [ho2] at hsl
      have l3 : w5.cell? ⟨g, 3, none⟩ = some (.slice (some ⟨gn, 0, none⟩) s s) := by rw [h5.c3, hf5.1]
      have l4 : w5.cell? ⟨gn, d, none⟩ = some (.int .i64 (k : Int)) := by rw [h5.n0 (by rw [hf5.1]; omega), hf5.2.2.2.1]
      have l5 := h5.rn.frozen d
      clear h5 c5 hx5 cc5 hF5 hf5 ho2 c2 q0 x0 x1 x2 x3 hfz kq kg hne1 hne2 hne3 hne4 hi5 hz0 hz1 hz2 KK HNEW HB hnm2
      rcases mk with _ | _
      · have hk0 : k = 0 := by
          have := HE.out.2.2.2.2 rfl
          rw [HF.out.2.2.2.2.1] at this
          exact this
        have HS := Lib.hid (And.intro H5.out.1 (And.intro H5.out.2.2.1 H5.out.2.2.2.2.1))
        have Hk0 := Lib.hid hk0
        obtain ⟨F6, hF6⟩ : ∃ F6, F5 = F6 := ⟨_, rfl⟩
        rw [hF6] at HS
        have HF6 := Lib.hid hF6
        clear hF6 hk0
        have c1 : w5.cell? ⟨g, 1, none⟩ = some (.slice (some ⟨gq, 0, none⟩) s s) := by rw [HS.out.1.c1, HS.out.2.1]
        have q0 : w5.cell? ⟨gq, d, none⟩ = some (.slice (some ⟨b, off, none⟩) (lq + 1) (cp + 1)) := by rw [HS.out.1.q0 (by rw [HS.out.2.1]; omega), Hrow.out.2.1]
        have hfq := HS.out.1.rq.frozen d
        have hba : Below w5.heap.size w5 ((w5.alloc (.cells #[] 33)).drew) := ((Below.refl _ _).alloc (Nat.le_refl _) _).drew
        have hba2 : Below w5.heap.size w5 (w5.alloc (.cells #[] 33)) := (Below.refl _ _).alloc (Nat.le_refl _) _
        have kq := (hba2.cell (p := ⟨gq, d, none⟩) (World.block_lt_of_cell? _ _ q0)).trans q0
        have kg := (hba2.cell (p := ⟨g, 1, none⟩) (World.block_lt_of_cell? _ _ c1)).trans c1
        have hrow6 : SRow w5 σ5 (t + 12 + d) 33 4 (.slice (some ⟨b, off, none⟩) (lq + 1) (cp + 1)) (lq + 1) (it ⟨false, key, tm, vl⟩ ++ its r) := by
          have := HS.out.1.qs d (by rw [HS.out.2.1]; omega)
          rw [Hrow.out.2.1, HS.out.2.2, List.length_cons, HF.out.2.2.2.2.2] at this
          exact this
        have hnews := SRow.rest hrow6 rfl o2 Ho2.out
        have HNEW : Hid (∀ j u, (its r)[j]? = some u → ((w5.alloc (.cells #[] 33)).drew).cell? ((⟨b, o2, none⟩ : Addr).add j) = some u) := Lib.hid (fun j u hj => by
          have h0 := hnews j u hj
          exact (hba.cell (p := (⟨b, o2, none⟩ : Addr).add j) (World.block_lt_of_cell? _ _ h0)).trans h0)
        have KK : Hid (∀ (w2 : World) (σ2 : Nat → Nat), Chg (fun y => y = t + 12 + d) (upd σ5 w5.heap.size (t + 12 + d)) ((w5.alloc (.cells #[] 33)).drew) σ2 w2 → w2.cell? ⟨g, 1, none⟩ = some (.slice (some ⟨gq, 0, none⟩) s s) ∧ w2.frozen? ⟨gq, d, none⟩ = false ∧ w2.cell? ⟨gq, d, none⟩ = some (.slice (some ⟨b, off, none⟩) (lq + 1) (cp + 1))) := Lib.hid (by
          intro w2 σ2 hc2
          have l1 := World.block_lt_of_cell? _ _ q0
          have l2 := World.block_lt_of_cell? _ _ c1
          have e1 := hc2.block gq (Nat.lt_of_lt_of_le l1 hba.size) (by rw [upd_old l1, HS.out.1.tq]; omega)
          have e2 := hc2.block g (Nat.lt_of_lt_of_le l2 hba.size) (by rw [upd_old l2, HS.out.1.blk.2]; omega)
          exact ⟨(World.cell?_of_block (a := ⟨g, 1, none⟩) e2).trans ((hba.cell (p := ⟨g, 1, none⟩) l2).trans c1), (World.frozen?_of_block (a := ⟨gq, d, none⟩) e1).trans ((hba.frozen (p := ⟨gq, d, none⟩) l1).trans hfq), (World.cell?_of_block (a := ⟨gq, d, none⟩) e1).trans ((hba.cell (p := ⟨gq, d, none⟩) l1).trans q0)⟩)
        have HB := Lib.hid hba
        have Hlen4 : Hid ((its r).length = lq * 4) := Lib.hid (by rw [its_length, HF.out.2.2.2.2.2])
        clear hba hba2 hnews hrow6
        obtain ⟨i3', hi3, hz0, hz1, hz2⟩ := info_of info33'
        go_upto_region 13 with fail
        go_cut [] (fun w' => ∃ σ', RefAt w' σ' t g (F6.putq d r) ∧ Chg (fun y => y = t + 1 ∨ y = t + 12 + d) σ5 w5 σ' w')
        case first =>
          go_region_law (first | (refine step_append_srow (by rfl) _ _ 45 (by rfl) (upd σ5 w5.heap.size (t + 12 + d)) (t + 12 + d) 33 i3' _ 4 40 Try.underlying45 hi3 hz0 hz1 hz2 rfl (by omega) (.slice (some ⟨w5.heap.size, 0, none⟩) 0 0) 0 [] (by rfl) (SRow.made0 w5 σ5 (t + 12 + d) 33 4) ⟨b, o2, none⟩ lq cp (its r) (by rfl) Hlen4.out (HNEW.out) (its_one _) (by unfold maxLen; omega) (by omega) ?_; intro v2 w2 hs2 hc2; rw [Nat.zero_add, List.nil_append] at hs2; obtain ⟨A2, c2', rfl, -⟩ := hs2.slice; obtain ⟨kk0, kkf, kk1⟩ := KK.out _ _ hc2) | fail)
          all_goals
            have hcc := (((Chg.of_below (fun y => y = t + 12 + d) σ5 HB.out).upd (Nat.le_refl _) (t + 12 + d)).trans hc2)
            obtain ⟨hr1, hr2⟩ := HS.out.1.setq (d := d) (by rw [HS.out.2.1]; omega) (.slice A2 lq c2') r (by rw [HF.out.2.2.2.2.2]; omega) (by rw [HF.out.2.2.2.2.2]; exact hs2) hcc
            clear hs2 hc2 kk0 kkf kk1 hcc
            go_wp2_with fail
            go_meet
            case rel => exact ⟨_, ⟨_, _, _, _, _, hr1⟩, hr2⟩
        case rest =>
          rename World => w9
          obtain ⟨σ9, h9, c9⟩ := hcut
          have h99 := Lib.hid (And.intro h9 c9)
          clear h9 c9 c1 q0 hfq kq kg
          go_wp2
          go_ret2
          rw [← HR5.out, if_neg (by rintro ⟨h, -⟩; cases h), HF5.out]
          refine ⟨rfl, σ9, ?_, H5.out.2.1.trans (h99.out.2.mono (fun y hy => by unfold Of; omega))⟩
          rw [HF6.out, putto_id (show (F6.putq d r).to d = 0 by
            rw [← HF6.out]
            show F5.to d = 0
            rw [H5.out.2.2.2.2.2.1]
            exact Hk0.out)]
          exact h99.out.1
      · have hkw : ((k + 1 : Nat) : Int) = (k : Int) + 1 := by omega
        have Hkw := Lib.hid hkw
        clear hkw
        go_upto_region 9 with fail
        go_cut [] (fun w' => Hid (w' = w5.setCell ⟨gn, d, none⟩ (.int .i64 ((k + 1 : Nat) : Int))))
        case first =>
          go_wp2_with fail
          go_meet
          case rel => exact Lib.hid (by rw [Hkw.out])
        case rest =>
          rename World => w6
          have hw6 := hcut
          clear hcut
          have hn6 := H5.out.1.setn (d := d) (by rw [H5.out.2.2.1]; omega) (k + 1) (by rw [H5.out.2.2.2.1]; omega)
          rw [← hw6.out] at hn6
          obtain ⟨h6, c6⟩ := hn6
          have cc6 : Chg (Of t) σ w σ5 w6 := H5.out.2.1.trans (c6.mono (fun y hy => by unfold Of; omega))
          have m3 : w6.cell? ⟨g, 3, none⟩ = some (.slice (some ⟨gn, 0, none⟩) s s) := by rw [h6.c3]; show some (Value.slice _ F5.s F5.s) = _; rw [H5.out.2.2.1]
          have m2 : w6.cell? ⟨g, 2, none⟩ = some (.slice (some ⟨gb, 0, none⟩) o o) := by rw [h6.c2]; show some (Value.slice _ F5.o F5.o) = _; rw [H5.out.2.2.2.1]
          have m4 : w6.cell? ⟨gn, d, none⟩ = some (.int .i64 ((k : Int) + 1)) := by
            rw [h6.n0 (show d < F5.s by rw [H5.out.2.2.1]; omega)]
            show some (Value.int .i64 ((if d = d then k + 1 else F5.to d : Nat) : Int)) = _
            rw [if_pos rfl, Hkw.out]
          have H6 := Lib.hid (And.intro h6 cc6)
          have m5 := h6.rn.frozen d
          clear h6 c6 cc6 y0 l3 l4 l5
          by_cases hlast : k + 1 < o
          · have hl2 : (k : Int) + 1 < (o : Int) := by omega
            go_wp2_with fail
            go_region_held3 (fun w' => w'.cell? ⟨g, 3, none⟩ = some (.slice (some ⟨gn, 0, none⟩) s s) ∧ w'.cell? ⟨g, 2, none⟩ = some (.slice (some ⟨gb, 0, none⟩) o o) ∧ w'.cell? ⟨gn, d, none⟩ = some (.int .i64 ((k : Int) + 1))) (go_keep) (fail)
            go_wp2
            go_ret2
            have hbd : Below w6.heap.size w6 w6.drew := (Below.refl _ _).drew
            rw [← HR5.out, HF.out.2.2.2.2.1, HE.out.2.1, if_pos (by first | exact ⟨rfl, hlast⟩ | exact ⟨trivial, hlast⟩ | exact hlast), HF5.out]
            exact ⟨rfl, σ5, ⟨_, _, _, _, _, H6.out.1.below hbd⟩, H6.out.2.below hbd⟩
          · have Hlast := Lib.hid hlast
            have hl2 : ¬ (k : Int) + 1 < (o : Int) := by omega
            go_wp2_with fail
            go_region_held3 (fun w' => w'.cell? ⟨g, 3, none⟩ = some (.slice (some ⟨gn, 0, none⟩) s s) ∧ w'.cell? ⟨g, 2, none⟩ = some (.slice (some ⟨gb, 0, none⟩) o o) ∧ w'.cell? ⟨gn, d, none⟩ = some (.int .i64 ((k : Int) + 1))) (go_keep) (fail)
            have hbd : Below w6.heap.size w6 w6.drew := (Below.refl _ _).drew
            have H7 := Lib.hid (And.intro (H6.out.1.below hbd) (H6.out.2.below hbd))
            generalize w6.drew = w7 at H7 ⊢
            clear m3 m2 m4 m5 H6 hbd
            have m3 : w7.cell? ⟨g, 3, none⟩ = some (.slice (some ⟨gn, 0, none⟩) s s) := by rw [H7.out.1.c3]; show some (Value.slice _ F5.s F5.s) = _; rw [H5.out.2.2.1]
            have m4 : w7.cell? ⟨gn, d, none⟩ = some (.int .i64 ((k : Int) + 1)) := by
              rw [H7.out.1.n0 (show d < F5.s by rw [H5.out.2.2.1]; omega)]
              show some (Value.int .i64 ((if d = d then k + 1 else F5.to d : Nat) : Int)) = _
              rw [if_pos rfl, Hkw.out]
            have m5 := H7.out.1.rn.frozen d
            go_upto_region 12 with fail
            go_cut [] (fun w' => Hid (w' = w7.setCell ⟨gn, d, none⟩ (.int .i64 0)))
            case first =>
              go_wp2_with fail
              go_meet
              case rel => exact Lib.hid rfl
            case rest =>
              rename World => w8
              have hw8 := hcut
              clear hcut
              have hn8 := H7.out.1.setn (d := d) (show d < F5.s by rw [H5.out.2.2.1]; omega) 0 (Nat.zero_le _)
              rw [show (((0 : Nat) : Int)) = 0 from rfl, ← hw8.out] at hn8
              obtain ⟨h8, c8⟩ := hn8
              have cc8 : Chg (Of t) σ w σ5 w8 := H7.out.2.trans (c8.mono (fun y hy => by unfold Of; omega))
              have HC := Lib.hid cc8
              obtain ⟨F6, hF6⟩ : ∃ F6, (F5.putto d (k + 1)).putto d 0 = F6 := ⟨_, rfl⟩
              have HF6 := Lib.hid hF6
              have hf6 : F6.s = s ∧ F6.q d = ⟨true, key, tm, vl⟩ :: r := by rw [← hF6]; exact ⟨H5.out.2.2.1, H5.out.2.2.2.2.1⟩
              rw [hF6] at h8
              have HS := Lib.hid (And.intro h8 hf6)
              clear h8 c8 cc8 hF6 hf6 m3 m4 m5 H7
              have c1 : w8.cell? ⟨g, 1, none⟩ = some (.slice (some ⟨gq, 0, none⟩) s s) := by rw [HS.out.1.c1, HS.out.2.1]
              have q0 : w8.cell? ⟨gq, d, none⟩ = some (.slice (some ⟨b, off, none⟩) (lq + 1) (cp + 1)) := by rw [HS.out.1.q0 (by rw [HS.out.2.1]; omega), Hrow.out.2.1]
              have hfq := HS.out.1.rq.frozen d
              have hba : Below w8.heap.size w8 ((w8.alloc (.cells #[] 33)).drew) := ((Below.refl _ _).alloc (Nat.le_refl _) _).drew
              have hba2 : Below w8.heap.size w8 (w8.alloc (.cells #[] 33)) := (Below.refl _ _).alloc (Nat.le_refl _) _
              have kq := (hba2.cell (p := ⟨gq, d, none⟩) (World.block_lt_of_cell? _ _ q0)).trans q0
              have kg := (hba2.cell (p := ⟨g, 1, none⟩) (World.block_lt_of_cell? _ _ c1)).trans c1
              have hrow6 : SRow w8 σ5 (t + 12 + d) 33 4 (.slice (some ⟨b, off, none⟩) (lq + 1) (cp + 1)) (lq + 1) (it ⟨true, key, tm, vl⟩ ++ its r) := by
                have := HS.out.1.qs d (by rw [HS.out.2.1]; omega)
                rw [Hrow.out.2.1, HS.out.2.2, List.length_cons, HF.out.2.2.2.2.2] at this
                exact this
              have hnews := SRow.rest hrow6 rfl o2 Ho2.out
              have HNEW : Hid (∀ j u, (its r)[j]? = some u → ((w8.alloc (.cells #[] 33)).drew).cell? ((⟨b, o2, none⟩ : Addr).add j) = some u) := Lib.hid (fun j u hj => by
                have h0 := hnews j u hj
                exact (hba.cell (p := (⟨b, o2, none⟩ : Addr).add j) (World.block_lt_of_cell? _ _ h0)).trans h0)
              have KK : Hid (∀ (w2 : World) (σ2 : Nat → Nat), Chg (fun y => y = t + 12 + d) (upd σ5 w8.heap.size (t + 12 + d)) ((w8.alloc (.cells #[] 33)).drew) σ2 w2 → w2.cell? ⟨g, 1, none⟩ = some (.slice (some ⟨gq, 0, none⟩) s s) ∧ w2.frozen? ⟨gq, d, none⟩ = false ∧ w2.cell? ⟨gq, d, none⟩ = some (.slice (some ⟨b, off, none⟩) (lq + 1) (cp + 1))) := Lib.hid (by
                intro w2 σ2 hc2
                have l1 := World.block_lt_of_cell? _ _ q0
                have l2 := World.block_lt_of_cell? _ _ c1
                have e1 := hc2.block gq (Nat.lt_of_lt_of_le l1 hba.size) (by rw [upd_old l1, HS.out.1.tq]; omega)
                have e2 := hc2.block g (Nat.lt_of_lt_of_le l2 hba.size) (by rw [upd_old l2, HS.out.1.blk.2]; omega)
                exact ⟨(World.cell?_of_block (a := ⟨g, 1, none⟩) e2).trans ((hba.cell (p := ⟨g, 1, none⟩) l2).trans c1), (World.frozen?_of_block (a := ⟨gq, d, none⟩) e1).trans ((hba.frozen (p := ⟨gq, d, none⟩) l1).trans hfq), (World.cell?_of_block (a := ⟨gq, d, none⟩) e1).trans ((hba.cell (p := ⟨gq, d, none⟩) l1).trans q0)⟩)
              have HB := Lib.hid hba
              have Hlen4 : Hid ((its r).length = lq * 4) := Lib.hid (by rw [its_length, HF.out.2.2.2.2.2])
              clear hba hba2 hnews hrow6
              obtain ⟨i3', hi3, hz0, hz1, hz2⟩ := info_of info33'
              go_upto_region 13 with fail
              go_cut [] (fun w' => ∃ σ', RefAt w' σ' t g (F6.putq d r) ∧ Chg (fun y => y = t + 1 ∨ y = t + 12 + d) σ5 w8 σ' w')
              case first =>
                go_region_law (first | (refine step_append_srow (by rfl) _ _ 45 (by rfl) (upd σ5 w8.heap.size (t + 12 + d)) (t + 12 + d) 33 i3' _ 4 40 Try.underlying45 hi3 hz0 hz1 hz2 rfl (by omega) (.slice (some ⟨w8.heap.size, 0, none⟩) 0 0) 0 [] (by rfl) (SRow.made0 w8 σ5 (t + 12 + d) 33 4) ⟨b, o2, none⟩ lq cp (its r) (by rfl) Hlen4.out (HNEW.out) (its_one _) (by unfold maxLen; omega) (by omega) ?_; intro v2 w2 hs2 hc2; rw [Nat.zero_add, List.nil_append] at hs2; obtain ⟨A2, c2', rfl, -⟩ := hs2.slice; obtain ⟨kk0, kkf, kk1⟩ := KK.out _ _ hc2) | fail)
                all_goals
                  have hcc := (((Chg.of_below (fun y => y = t + 12 + d) σ5 HB.out).upd (Nat.le_refl _) (t + 12 + d)).trans hc2)
                  obtain ⟨hr1, hr2⟩ := HS.out.1.setq (d := d) (by rw [HS.out.2.1]; omega) (.slice A2 lq c2') r (by rw [HF.out.2.2.2.2.2]; omega) (by rw [HF.out.2.2.2.2.2]; exact hs2) hcc
                  clear hs2 hc2 kk0 kkf kk1 hcc
                  go_wp2_with fail
                  go_meet
                  case rel => exact ⟨_, ⟨_, _, _, _, _, hr1⟩, hr2⟩
              case rest =>
                rename World => w9
                obtain ⟨σ9, h9, c9⟩ := hcut
                have h99 := Lib.hid (And.intro h9 c9)
                clear h9 c9 c1 q0 hfq kq kg
                go_wp2
                go_ret2
                rw [← HR5.out, HF.out.2.2.2.2.1, HE.out.2.1, if_neg (by rintro ⟨-, h⟩; exact Hlast.out h), HF5.out]
                refine ⟨rfl, σ9, ?_, HC.out.trans (h99.out.2.mono (fun y hy => by unfold Of; omega))⟩
                have h := h99.out.1
                rw [← HF6.out, putto_two] at h
                exact h
end Go.Proofs.Ytapninpdjccglaa.C
