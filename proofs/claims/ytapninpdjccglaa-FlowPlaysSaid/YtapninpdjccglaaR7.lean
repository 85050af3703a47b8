/-
  FlowPlays: one step of both flows; their sizes.
-/
import Derived.Test.YtapninpdjccglaaR5
import Derived.Test.YtapninpdjccglaaR6
set_option linter.unusedVariables false
set_option linter.unusedSimpArgs false
namespace Go.Proofs.Ytapninpdjccglaa.C
open Go.RowKit Go.Proofs.Ytapninpdjccglaa.K

structure Inv2 (F : FS) : Prop where
  inv : FInv F
  o : ∃ P T, OInv F P T
theorem Inv2.new {s o m : Nat} (h : okNew s o m) : Inv2 (FS.new s o m) := ⟨FInv.new h, _, _, OInv.new s o m⟩
theorem Inv2.put {F : FS} (h : Inv2 F) (i : Int) (x : It) : Inv2 (F.put i x).2 := by
  obtain ⟨hi, P, T, ho⟩ := h
  by_cases hr : (F.put i x).1 = 0
  · obtain ⟨h0, h1, _⟩ := put_in hr
    obtain ⟨d, rfl⟩ := Int.eq_ofNat_of_zero_le h0
    exact ⟨hi.put _ _, _, _, ho.put hr⟩
  · rw [put_no hr]
    exact ⟨hi, P, T, ho⟩
theorem Inv2.take {F : FS} (h : Inv2 F) (j : Int) : Inv2 (F.take j).2.2.2 := by
  obtain ⟨hi, P, T, ho⟩ := h
  by_cases hr : (F.take j).2.2.1 = 0
  · obtain ⟨h0, h1⟩ := take_in hr
    obtain ⟨d, rfl⟩ := Int.eq_ofNat_of_zero_le h0
    exact ⟨hi.take _, _, _, ho.take hr⟩
  · rw [take_kept hr]
    exact ⟨hi, P, T, ho⟩
theorem Inv2.pass {F : FS} (h : Inv2 F) (hg : FGood F) (i : Int) : Inv2 (F.pass i).2.2 := by
  obtain ⟨hi, P, T, ho⟩ := h
  exact ⟨hi.pass hg i, P, T, ho.pass hi.tz i⟩
theorem rpass_any (w : World) (σ : Nat → Nat) (t g : Nat) (ht : 0 < t) (F : FS) (hF : RefAt w σ t g F) (hI : Inv2 F) (i : Int) :
    Calls Try.prog 26 #[.pointer (some ⟨g, 0, none⟩), .int .i64 i] w fun e w' => e = .returned (.tuple #[.int .i64 (F.pass i).1, .int .i64 (F.pass i).2.1]) ∧ ∃ σ', RefAt w' σ' t g (F.pass i).2.2 ∧ Chg (Of t) σ w σ' w' := by
  by_cases hi : 0 ≤ i ∧ i < F.s
  · obtain ⟨d, rfl⟩ := Int.eq_ofNat_of_zero_le hi.1
    rcases hL : F.q d with _ | ⟨x, r⟩
    · have ht : F.toward (d : Int) = (0, 44) := by unfold FS.toward; rw [if_pos hi, Int.toNat_natCast, hL]
      have hp : F.pass (d : Int) = (0, 44, F) := by unfold FS.pass; rw [if_pos hi, Int.toNat_natCast, hL]
      have hn := rpass_no w σ t g F hF hI.inv.ok (d : Int) (by rw [ht]; decide)
      rw [ht] at hn
      rw [hp]
      exact hn.mono fun e w' ⟨he, hb⟩ => ⟨he, σ, hF.below hb, Chg.of_below _ _ hb⟩
    · refine rpass_yes w σ t g ht F hF hI.inv.ok hI.inv.tz d (by omega) x r hL (fun hm => ?_)
      obtain ⟨P, T, ho⟩ := hI.o
      rcases Nat.eq_zero_or_pos (F.to d) with h | h
      · exact h
      · obtain ⟨y, r', hy, hym⟩ := ho.head d (by omega) h
        rw [hL] at hy
        cases hy
        rw [hm] at hym
        cases hym
  · have ht : F.toward i = (0, 1) := by unfold FS.toward; rw [if_neg hi]
    have hp : F.pass i = (0, 1, F) := by unfold FS.pass; rw [if_neg hi]
    have hn := rpass_no w σ t g F hF hI.inv.ok i (by rw [ht]; decide)
    rw [ht] at hn
    rw [hp]
    exact hn.mono fun e w' ⟨he, hb⟩ => ⟨he, σ, hF.below hb, Chg.of_below _ _ hb⟩

theorem wf_around {k : Nat} (h : k ≤ 11) : (Lit.int .i64 ((k : Int) - 1)).wf = true := by
  revert h
  revert k
  decide +kernel
set_option maxRecDepth 100000 in
set_option maxHeartbeats 1600000 in
theorem sizes_c (w : World) (σ : Nat → Nat) (g r : Nat) (F : FS) (h1 : FlowAt w σ 1000 g F) (h2 : RefAt w σ 2000 r F) :
    Calls Try.prog 13 #[.pointer (some ⟨g, 0, none⟩), .pointer (some ⟨r, 0, none⟩)] w fun e w' => e = .returned (.bool true) ∧ Below w.heap.size w w' := by
  have hq := fun i (hw : (Lit.int .i64 i).wf = true) => queued_c w σ 1000 g F h1 i hw
  have hb := fun i (hw : (Lit.int .i64 i).wf = true) => boxed_c w σ 1000 g F h1 i hw
  have hq2 := fun i => r_queued w σ 2000 r F h2 i
  have hb2 := fun i => r_boxed w σ 2000 r F h2 i
  have he := empty_c w σ 1000 g F h1
  have H := Lib.hid (And.intro hq (And.intro hb (And.intro hq2 (And.intro hb2 (And.intro he h2)))))
  clear hq hb hq2 hb2 he h1 h2
  go_enter Try.func13, Try.ntmps13
  go_wp2_with fail
  go_loop [5] (fun i => ∃ k : Nat, k ≤ 11 ∧ i = .int .i64 ((k : Int) - 1)) (fun i => 11 - (intOf i + 1).toNat)
  case atStart => exact ⟨0, by omega, rfl⟩
  case round =>
    obtain ⟨k, hk, rfl⟩ := hrel
    by_cases hlt : k ≤ 10
    · have hl1 : (k : Int) - 1 ≤ 9 := by omega
      have hw := wf_around hk
      have hst : (k : Int) - 1 + 1 = ((k + 1 : Nat) : Int) - 1 := by omega
      have Hst := Lib.hid hst
      clear hst
      obtain ⟨i, hi⟩ : ∃ i, (k : Int) - 1 = i := ⟨_, rfl⟩
      rw [hi] at hl1 hw ⊢
      have Hi := Lib.hid hi
      have hi1 : -1 ≤ i := by omega
      clear hi
      go_wp2_with fail
      refine (H.out.1 i hw).mono ?_
      rintro e w1 ⟨he, rfl⟩
      obtain rfl : e = .returned (.int .i64 (nQ F i)) := he
      go_wp2_with fail
      refine (H.out.2.2.1 i).mono ?_
      rintro e w1 ⟨rfl, rfl⟩
      go_wp2_with fail
      refine (H.out.2.1 i hw).mono ?_
      rintro e w1 ⟨he, rfl⟩
      obtain rfl : e = .returned (.int .i64 (nB F i)) := he
      go_wp2_with fail
      refine (H.out.2.2.2.1 i).mono ?_
      rintro e w1 ⟨rfl, rfl⟩
      go_wp2_with fail
      go_round
      case rel => exact ⟨k + 1, by omega, by rw [← Hst.out, Hi.out]⟩
      case measure => simp [intOf]; have := Hi.out; omega
    · have hl1 : ¬ (k : Int) - 1 ≤ 9 := by omega
      go_wp2_with fail
      refine H.out.2.2.2.2.1.mono ?_
      rintro e w1 ⟨rfl, hbe⟩
      have hR := H.out.2.2.2.2.2.below hbe
      go_wp2_with fail
      refine (r_empty w1 σ 2000 r F hR).mono ?_
      rintro e w2 ⟨rfl, rfl⟩
      go_wp2
      go_ret
      exact ⟨by simp, hbe⟩

structure PW (g r : Nat) (w : World) (σ : Nat → Nat) (F : FS) : Prop where
  a : FlowAt w σ 1000 g F
  r : RefAt w σ 2000 r F
  i : Inv2 F
def O2 : Nat → Prop := fun x => Of 1000 x ∨ Of 2000 x
theorem PW.below {g r : Nat} {w w' : World} {σ : Nat → Nat} {F : FS} (h : PW g r w σ F) (hb : Below w.heap.size w w') : PW g r w' σ F := ⟨h.a.below hb, h.r.below hb, h.i⟩
def stp (kd a : Int) (x : It) : Value := .agg #[.int .i64 kd, .int .i64 a, .bool x.mark, .string x.key, .int .i64 x.time, .int .i64 x.value]
/-- A step in its place. -/
structure PX (g r p : Nat) (cs : Array Value) (w : World) (σ : Nat → Nat) (F : FS) : Prop extends PW g r w σ F where
  blk : MBlk w σ 0 p 35 cs
theorem PX.below {g r p : Nat} {cs : Array Value} {w w' : World} {σ : Nat → Nat} {F : FS} (h : PX g r p cs w σ F) (hb : Below w.heap.size w w') : PX g r p cs w' σ F := ⟨h.toPW.below hb, h.blk.below hb⟩
/-- Both did the same. -/
theorem PX.both {g r p : Nat} {cs : Array Value} {w w1 w2 : World} {σ σ1 σ2 : Nat → Nat} {F F' : FS} (h : PX g r p cs w σ F) (a1 : FlowAt w1 σ1 1000 g F') (c1 : Chg (Of 1000) σ w σ1 w1) (a2 : RefAt w2 σ2 2000 r F') (c2 : Chg (Of 2000) σ1 w1 σ2 w2) (hi : Inv2 F') :
    PX g r p cs w2 σ2 F' ∧ Chg O2 σ w σ2 w2 := by
  have c := (c1.mono (S' := O2) (fun _ h => .inl h)).trans (c2.mono (S' := O2) (fun _ h => .inr h))
  exact ⟨⟨⟨a1.chg c2 (by unfold Of; omega), a2, hi⟩, h.blk.chg c (by unfold O2 Of; omega)⟩, c⟩
set_option maxRecDepth 100000 in
set_option maxHeartbeats 3200000 in
theorem told_c (w : World) (σ : Nat → Nat) (g r : Nat) (F : FS) (h : PW g r w σ F) (kd a : Int) (x : It) :
    Calls Try.prog 12 #[.pointer (some ⟨g, 0, none⟩), .pointer (some ⟨r, 0, none⟩), stp kd a x] w fun e w' => e = .returned (.bool true) ∧ ∃ σ' F', PW g r w' σ' F' ∧ Chg O2 σ w σ' w' := by
  have HX : PX g r w.heap.size #[.int .i64 kd, .int .i64 a, .bool x.mark, .string x.key, .int .i64 x.time, .int .i64 x.value] (w.alloc (.cells #[.int .i64 kd, .int .i64 a, .bool x.mark, .string x.key, .int .i64 x.time, .int .i64 x.value] 35)) (K.upd σ w.heap.size 0) F :=
    ⟨(⟨h.a.upd (Nat.le_refl _) 0, h.r.upd (Nat.le_refl _) 0, h.i⟩ : PW g r w (K.upd σ w.heap.size 0) F).below ((Below.refl _ _).alloc (Nat.le_refl _) _), Blk.new _ _ _, by simp [K.upd]⟩
  have hC : Chg O2 σ w (K.upd σ w.heap.size 0) (w.alloc (.cells #[.int .i64 kd, .int .i64 a, .bool x.mark, .string x.key, .int .i64 x.time, .int .i64 x.value] 35)) := ((Chg.refl O2 σ w).upd (Nat.le_refl _) 0).alloc _
  have H := Lib.hid (And.intro HX hC)
  obtain ⟨xm, xk, xt, xv⟩ := x
  unfold stp
  dsimp only at *
  clear h HX hC
  by_cases h1 : kd = 1
  · subst h1
    go_enter Try.func12, Try.ntmps12
    go_upto_region 3 with fail
    generalize w.alloc (.cells #[.int .i64 1, .int .i64 a, .bool xm, .string xk, .int .i64 xt, .int .i64 xv] 35) = w3 at H ⊢
    generalize K.upd σ w.heap.size 0 = σ3 at H
    generalize w.heap.size = p at H ⊢
    obtain ⟨z, hz⟩ : ∃ z, (F.put a ⟨xm, xk, xt, xv⟩).1 = z := ⟨_, rfl⟩
    obtain ⟨F1, hF1⟩ : ∃ F1, (F.put a ⟨xm, xk, xt, xv⟩).2 = F1 := ⟨_, rfl⟩
    have hi1 := H.out.1.i.put a ⟨xm, xk, xt, xv⟩
    rw [hF1] at hi1
    have H17 : Hid (∀ W, Below w3.heap.size w3 W → Calls Try.prog 17 #[.pointer (some ⟨g, 0, none⟩), .int .i64 a, .agg #[.bool xm, .string xk, .int .i64 xt, .int .i64 xv]] W fun e w' => e = .returned (.int .i64 z) ∧ ∃ σ', FlowAt w' σ' 1000 g F1 ∧ Chg (Of 1000) σ3 w3 σ' w') := Lib.hid (fun W hb => by
      have := put_any W σ3 1000 g F (H.out.1.a.below hb) a ⟨xm, xk, xt, xv⟩
      rw [hz, hF1] at this
      exact this.mono (fun e w' ⟨he, σ', h', c'⟩ => ⟨he, σ', h', (Chg.of_below _ _ hb).trans c'⟩))
    have H25 : Hid (∀ W σ1, Chg (Of 1000) σ3 w3 σ1 W → Calls Try.prog 25 #[.pointer (some ⟨r, 0, none⟩), .int .i64 a, .agg #[.bool xm, .string xk, .int .i64 xt, .int .i64 xv]] W fun e w' => e = .returned (.int .i64 z) ∧ ∃ σ', RefAt w' σ' 2000 r F1 ∧ Chg (Of 2000) σ1 W σ' w') := Lib.hid (fun W σ1 c => by
      have := r_put W σ1 2000 r (by omega) F (H.out.1.r.chg c (by unfold Of; omega)) a ⟨xm, xk, xt, xv⟩
      rw [hz, hF1] at this
      exact this)
    have e1 : w3.cell? ⟨p, 1, none⟩ = some (.int .i64 a) := by rw [H.out.1.blk.1.cell]; rfl
    have e2 : w3.cell? ⟨p, 2, none⟩ = some (.bool xm) := by rw [H.out.1.blk.1.cell]; rfl
    have e3 : w3.cell? ⟨p, 3, none⟩ = some (.string xk) := by rw [H.out.1.blk.1.cell]; rfl
    have e4 : w3.cell? ⟨p, 4, none⟩ = some (.int .i64 xt) := by rw [H.out.1.blk.1.cell]; rfl
    have e5 : w3.cell? ⟨p, 5, none⟩ = some (.int .i64 xv) := by rw [H.out.1.blk.1.cell]; rfl
    have HI := Lib.hid hi1
    have K1 : Hid (∀ W σ1, Chg (Of 1000) σ3 w3 σ1 W → W.cell? ⟨p, 1, none⟩ = some (.int .i64 a) ∧ W.cell? ⟨p, 2, none⟩ = some (.bool xm) ∧ W.cell? ⟨p, 3, none⟩ = some (.string xk) ∧ W.cell? ⟨p, 4, none⟩ = some (.int .i64 xt) ∧ W.cell? ⟨p, 5, none⟩ = some (.int .i64 xv)) := Lib.hid (fun W σ1 c => by
      have hb := (H.out.1.blk.chg c (by unfold Of; omega)).1
      exact ⟨by rw [hb.cell]; rfl, by rw [hb.cell]; rfl, by rw [hb.cell]; rfl, by rw [hb.cell]; rfl, by rw [hb.cell]; rfl⟩)
    have hdr : Below w3.heap.size w3 w3.drew := (Below.refl _ _).drew
    have HDR := Lib.hid hdr
    have hzz : (z == z) = true := by simp
    clear hi1 hz hF1 hdr
    go_region_law (first
      | (rw [if_pos (by rfl)]; go_simp; go_at_call 17; refine (H17.out _ (by first | exact HDR.out | exact Below.refl _ _)).mono ?_; rintro e w4 ⟨rfl, σ4, hA4, hc4⟩; obtain ⟨m1, m2, m3, m4, m5⟩ := K1.out w4 σ4 hc4)
      | (rw [if_pos (by rfl)]; go_simp; go_at_call 25; refine (H25.out _ σ4 hc4).mono ?_; rintro e w5 ⟨rfl, σ5, hR5, hc5⟩)
      | fail)
    all_goals
      have hB := H.out.1.both hA4 hc4 hR5 hc5 HI.out
      clear hA4 hc4 hR5 hc5 m1 m2 m3 m4 m5
      go_wp2
      go_ret
      refine ⟨?_, _, _, hB.1.toPW, H.out.2.trans hB.2⟩
      simp
      rfl
  · by_cases h2 : kd = 2
    · subst h2
      clear h1
      go_enter Try.func12, Try.ntmps12
      go_upto_region 5 with fail
      generalize w.alloc (.cells #[.int .i64 2, .int .i64 a, .bool xm, .string xk, .int .i64 xt, .int .i64 xv] 35) = w3 at H ⊢
      generalize K.upd σ w.heap.size 0 = σ3 at H
      generalize w.heap.size = p at H ⊢
      obtain ⟨z1, hz1⟩ : ∃ z, (F.pass a).1 = z := ⟨_, rfl⟩
      obtain ⟨z2, hz2⟩ : ∃ z, (F.pass a).2.1 = z := ⟨_, rfl⟩
      obtain ⟨F1, hF1⟩ : ∃ F1, (F.pass a).2.2 = F1 := ⟨_, rfl⟩
      have HI : Hid (Inv2 F1) := Lib.hid (by rw [← hF1]; exact H.out.1.i.pass H.out.1.a.good a)
      have h18 := pass_any w3 σ3 1000 g F H.out.1.a H.out.1.i.inv.ok H.out.1.i.inv.tz a
      have h26 := fun W σ1 (c : Chg (Of 1000) σ3 w3 σ1 W) => rpass_any W σ1 2000 r (by omega) F (H.out.1.r.chg c (by unfold Of; omega)) H.out.1.i a
      rw [hz1, hz2, hF1] at h18
      simp only [hz1, hz2, hF1] at h26
      have H26 := Lib.hid h26
      have H18 := Lib.hid h18
      have e1 : w3.cell? ⟨p, 1, none⟩ = some (.int .i64 a) := by rw [H.out.1.blk.1.cell]; rfl
      clear h18 h26 hz1 hz2 hF1
      go_wp2_with fail
      refine H18.out.mono ?_
      rintro e w4 ⟨rfl, σ4, hA4, hc4⟩
      have hb4 := H.out.1.blk.chg hc4 (by unfold Of; omega)
      have m1 : w4.cell? ⟨p, 1, none⟩ = some (.int .i64 a) := by rw [hb4.1.cell]; rfl
      have HA4 := Lib.hid (And.intro hA4 hc4)
      clear hA4 hc4 hb4 e1
      go_wp2_with fail
      refine (H26.out _ σ4 HA4.out.2).mono ?_
      rintro e w5 ⟨rfl, σ5, hR5, hc5⟩
      have HR5 := Lib.hid (And.intro hR5 hc5)
      clear hR5 hc5
      go_wp2
      go_ret
      refine ⟨?_, _, _, (H.out.1.both HA4.out.1 HA4.out.2 HR5.out.1 HR5.out.2 HI.out).1.toPW, H.out.2.trans (H.out.1.both HA4.out.1 HA4.out.2 HR5.out.1 HR5.out.2 HI.out).2⟩
      simp
    · by_cases h3 : kd = 3
      · subst h3
        clear h1 h2
        go_enter Try.func12, Try.ntmps12
        go_upto_region 9 with fail
        generalize w.alloc (.cells #[.int .i64 3, .int .i64 a, .bool xm, .string xk, .int .i64 xt, .int .i64 xv] 35) = w3 at H ⊢
        generalize K.upd σ w.heap.size 0 = σ3 at H
        generalize w.heap.size = p at H ⊢
        obtain ⟨z1, hz1⟩ : ∃ z, (F.take a).1 = z := ⟨_, rfl⟩
        obtain ⟨z3, hz3⟩ : ∃ z, (F.take a).2.1 = z := ⟨_, rfl⟩
        obtain ⟨z2, hz2⟩ : ∃ z, (F.take a).2.2.1 = z := ⟨_, rfl⟩
        obtain ⟨F1, hF1⟩ : ∃ F1, (F.take a).2.2.2 = F1 := ⟨_, rfl⟩
        have HI : Hid (Inv2 F1) := Lib.hid (by rw [← hF1]; exact H.out.1.i.take a)
        have h19 := take_c w3 σ3 1000 g (by omega) F H.out.1.a a
        have h27 := fun W σ1 (c : Chg (Of 1000) σ3 w3 σ1 W) => r_take W σ1 2000 r (by omega) F (H.out.1.r.chg c (by unfold Of; omega)) a
        rw [hz1, hz2, hF1, hz3] at h19
        simp only [hz1, hz2, hF1, hz3] at h27
        obtain ⟨ym, yk, yt, yv⟩ := z3
        unfold itv at h19 h27
        dsimp only at h19 h27
        have H27 := Lib.hid h27
        have H19 := Lib.hid h19
        have e1 : w3.cell? ⟨p, 1, none⟩ = some (.int .i64 a) := by rw [H.out.1.blk.1.cell]; rfl
        clear h19 h27 hz1 hz2 hF1 hz3
        go_wp2_with fail
        refine H19.out.mono ?_
        rintro e w4 ⟨rfl, σ4, hA4, hc4⟩
        have hb4 := H.out.1.blk.chg hc4 (by unfold Of; omega)
        have hal : Below w4.heap.size w4 (w4.alloc (.cells #[.bool ym, .string yk, .int .i64 yt, .int .i64 yv] 33)) := (Below.refl _ _).alloc (Nat.le_refl _) _
        have hcb : Chg (Of 1000) σ3 w3 (K.upd σ4 w4.heap.size 0) (w4.alloc (.cells #[.bool ym, .string yk, .int .i64 yt, .int .i64 yv] 33)) := (hc4.upd hc4.size 0).alloc _
        have hAb := (hA4.upd (Nat.le_refl _) 0).below hal
        have hyb : MBlk (w4.alloc (.cells #[.bool ym, .string yk, .int .i64 yt, .int .i64 yv] 33)) (K.upd σ4 w4.heap.size 0) 0 w4.heap.size 33 #[.bool ym, .string yk, .int .i64 yt, .int .i64 yv] := ⟨Blk.new _ _ _, upd_new (Nat.le_refl _)⟩
        have m1 : (w4.alloc (.cells #[.bool ym, .string yk, .int .i64 yt, .int .i64 yv] 33)).cell? ⟨p, 1, none⟩ = some (.int .i64 a) := by rw [(hb4.1.below' hal).cell]; rfl
        have HA4 := Lib.hid (And.intro hAb (And.intro hcb hyb))
        clear hA4 hc4 hb4 e1 hal hcb hAb hyb
        go_wp2_with fail
        generalize w4.alloc (.cells #[.bool ym, .string yk, .int .i64 yt, .int .i64 yv] 33) = w4' at HA4 m1 ⊢
        generalize K.upd σ4 w4.heap.size 0 = σ4' at HA4
        generalize w4.heap.size = y at HA4 ⊢
        refine (H27.out _ σ4' HA4.out.2.1).mono ?_
        rintro e w5 ⟨rfl, σ5, hR5, hc5⟩
        have hyb := (HA4.out.2.2.chg hc5 (by unfold Of; omega)).1
        have hal : Below w5.heap.size w5 (w5.alloc (.cells #[.bool ym, .string yk, .int .i64 yt, .int .i64 yv] 33)) := (Below.refl _ _).alloc (Nat.le_refl _) _
        have hyb2 := hyb.below' hal
        have n0 : (w5.alloc (.cells #[.bool ym, .string yk, .int .i64 yt, .int .i64 yv] 33)).cell? ⟨y, 0, none⟩ = some (.bool ym) := by rw [hyb2.cell]; rfl
        have n1 : (w5.alloc (.cells #[.bool ym, .string yk, .int .i64 yt, .int .i64 yv] 33)).cell? ⟨y, 1, none⟩ = some (.string yk) := by rw [hyb2.cell]; rfl
        have n2 : (w5.alloc (.cells #[.bool ym, .string yk, .int .i64 yt, .int .i64 yv] 33)).cell? ⟨y, 2, none⟩ = some (.int .i64 yt) := by rw [hyb2.cell]; rfl
        have n3 : (w5.alloc (.cells #[.bool ym, .string yk, .int .i64 yt, .int .i64 yv] 33)).cell? ⟨y, 3, none⟩ = some (.int .i64 yv) := by rw [hyb2.cell]; rfl
        have hzz : (z2 == z2) = true := by simp
        have hz1 : (z1 == z1) = true := by simp
        have HR5 := Lib.hid (And.intro hR5 (And.intro hc5 hal))
        clear hR5 hc5 hyb hyb2 hal
        go_wp2
        go_ret
        have hB := H.out.1.both HA4.out.1 HA4.out.2.1 HR5.out.1 HR5.out.2.1 HI.out
        refine ⟨?_, _, _, hB.1.toPW.below HR5.out.2.2, (H.out.2.trans hB.2).below HR5.out.2.2⟩
        simp
      · by_cases h4 : kd = 4
        · subst h4
          clear h1 h2 h3
          go_enter Try.func12, Try.ntmps12
          go_upto_region 13 with fail
          generalize w.alloc (.cells #[.int .i64 4, .int .i64 a, .bool xm, .string xk, .int .i64 xt, .int .i64 xv] 35) = w3 at H ⊢
          generalize K.upd σ w.heap.size 0 = σ3 at H
          generalize w.heap.size = p at H ⊢
          obtain ⟨z1, hz1⟩ : ∃ z, (F.toward a).1 = z := ⟨_, rfl⟩
          obtain ⟨z2, hz2⟩ : ∃ z, (F.toward a).2 = z := ⟨_, rfl⟩
          have h18 := toward_c w3 σ3 1000 g F H.out.1.a H.out.1.i.inv.ok a
          have h26 := fun W (hb : Below w3.heap.size w3 W) => r_toward W σ3 2000 r F (H.out.1.r.below hb) H.out.1.i.inv.ok a
          rw [hz1, hz2] at h18
          simp only [hz1, hz2] at h26
          have H26 := Lib.hid h26
          have H18 := Lib.hid h18
          have e1 : w3.cell? ⟨p, 1, none⟩ = some (.int .i64 a) := by rw [H.out.1.blk.1.cell]; rfl
          clear h18 h26 hz1 hz2
          go_wp2_with fail
          refine H18.out.mono ?_
          rintro e w4 ⟨rfl, hb4⟩
          have m1 : w4.cell? ⟨p, 1, none⟩ = some (.int .i64 a) := by rw [(H.out.1.blk.1.below' hb4).cell]; rfl
          have HB4 := Lib.hid hb4
          clear hb4 e1
          go_wp2_with fail
          refine (H26.out _ HB4.out).mono ?_
          rintro e w5 ⟨rfl, hb5⟩
          have hB5 := Lib.hid (Below.then_ HB4.out HB4.out.size hb5)
          clear hb5
          go_wp2
          go_ret
          refine ⟨?_, _, _, H.out.1.toPW.below hB5.out, H.out.2.below hB5.out⟩
          simp
        · have b1 : (kd == 1) = false := by simpa using h1
          have b2 : (kd == 2) = false := by simpa using h2
          have b3 : (kd == 3) = false := by simpa using h3
          have b4 : (kd == 4) = false := by simpa using h4
          go_enter Try.func12, Try.ntmps12
          go_wp2
          go_ret
          exact ⟨rfl, _, _, H.out.1.toPW, H.out.2⟩
end Go.Proofs.Ytapninpdjccglaa.C
