/-
  The call of the law FlowRoom: it returns true, whatever the input.
-/
import Derived.Test.YtapninpdjccglaaRoomL
set_option linter.unusedVariables false
set_option linter.unusedSimpArgs false
namespace Go.Proofs.Ytapninpdjccglaa.C
open Go.RowKit Go.Proofs.Ytapninpdjccglaa.K

/-- The flow in a round. -/
structure RI (w0 : World) (g o m : Nat) (w : World) (σ : Nat → Nat) (F : FS) : Prop where
  at_ : FlowAt w σ 1000 g F
  inv : FInv F
  o : F.o = o
  m : F.m = m
  c : Chg (Of 1000) (fun _ => 0) w0 σ w
theorem RI.below {w0 w w' : World} {g o m : Nat} {σ : Nat → Nat} {F : FS} (h : RI w0 g o m w σ F) (hb : Below w.heap.size w w') : RI w0 g o m w' σ F := ⟨h.at_.below hb, h.inv, h.o, h.m, h.c.below hb⟩
/-- .. and the step in its place. -/
structure RS (w0 : World) (g o m p : Nat) (kd a : Int) (x : It) (w : World) (σ : Nat → Nat) (F : FS) : Prop extends RI w0 g o m w σ F where
  blk : MBlk w σ 0 p 35 #[.int .i64 kd, .int .i64 a, .bool x.mark, .string x.key, .int .i64 x.time, .int .i64 x.value]
section
variable {w0 w w' : World} {g o m p : Nat} {kd a : Int} {x : It} {σ σ' : Nat → Nat} {F F' : FS}
theorem RS.below (h : RS w0 g o m p kd a x w σ F) (hb : Below w.heap.size w w') : RS w0 g o m p kd a x w' σ F := ⟨h.toRI.below hb, h.blk.below hb⟩
theorem RS.chg (h : RS w0 g o m p kd a x w σ F) (h1 : FlowAt w' σ' 1000 g F') (h2 : FInv F') (h3 : Like F F') (c : Chg (Of 1000) σ w σ' w') : RS w0 g o m p kd a x w' σ' F' :=
  ⟨⟨h1, h2, h3.2.1.trans h.o, h3.2.2.trans h.m, h.c.trans c⟩, h.blk.chg c (by unfold Of; omega)⟩
theorem RS.c0 (h : RS w0 g o m p kd a x w σ F) : w.cell? ⟨p, 0, none⟩ = some (.int .i64 kd) := by rw [h.blk.1.cell]; rfl
theorem RS.c1 (h : RS w0 g o m p kd a x w σ F) : w.cell? ⟨p, 1, none⟩ = some (.int .i64 a) := by rw [h.blk.1.cell]; rfl
theorem RS.c2 (h : RS w0 g o m p kd a x w σ F) : w.cell? ⟨p, 2, none⟩ = some (.bool x.mark) := by rw [h.blk.1.cell]; rfl
theorem RS.c3 (h : RS w0 g o m p kd a x w σ F) : w.cell? ⟨p, 3, none⟩ = some (.string x.key) := by rw [h.blk.1.cell]; rfl
theorem RS.c4 (h : RS w0 g o m p kd a x w σ F) : w.cell? ⟨p, 4, none⟩ = some (.int .i64 x.time) := by rw [h.blk.1.cell]; rfl
theorem RS.c5 (h : RS w0 g o m p kd a x w σ F) : w.cell? ⟨p, 5, none⟩ = some (.int .i64 x.value) := by rw [h.blk.1.cell]; rfl
end
theorem toward_le {F : FS} (hg : FGood F) (hz : FTo F) (i : Int) : 0 ≤ (F.toward i).1 ∧ (F.toward i).1 < F.o := by
  have ho := hg.o1
  by_cases hi : 0 ≤ i ∧ i < F.s
  · obtain ⟨d, rfl⟩ := Int.eq_ofNat_of_zero_le hi.1
    rcases hL : F.q d with _ | ⟨x, r⟩
    · unfold FS.toward
      rw [if_pos hi, Int.toNat_natCast, hL]
      exact ⟨Int.le_refl _, by show (0 : Int) < _; omega⟩
    · have hgo := goes_lt hg hz (d := d) (by omega) x
      rw [toward_goes (by omega) hL]
      exact ⟨by show (0 : Int) ≤ ((F.goes d x : Nat) : Int); omega, by show ((F.goes d x : Nat) : Int) < _; omega⟩
  · unfold FS.toward
    rw [if_neg hi]
    exact ⟨Int.le_refl _, by show (0 : Int) < _; omega⟩
theorem wf_small {x : Int} (h : 0 ≤ x ∧ x < 100) : (Lit.int .i64 x).wf = true := by
  obtain ⟨n, rfl⟩ := Int.eq_ofNat_of_zero_le h.1
  have hn : n < 100 := by omega
  clear h
  revert n
  decide +kernel
theorem wf_room : True := trivial

set_option maxRecDepth 100000 in
set_option maxHeartbeats 3200000 in
theorem room_walk (w : World) (a0 : Int) (y0 : (Lit.int .i64 a0).wf = true) (a1 : Int) (y1 : (Lit.int .i64 a1).wf = true) (a2 : Int) (y2 : (Lit.int .i64 a2).wf = true)
    (v : Value) (hv : ∃ (A : Option Addr) (n c : Nat) (f : Nat → St), v = .slice A n c ∧ n ≤ c ∧ Steps w A n f ∧ n ≤ 140737488351232) :
    Calls Try.prog 7 #[.int .i64 a0, .int .i64 a1, .int .i64 a2, v] w fun e w' => e = .returned (.bool true) ∧ Below w.heap.size w w' := by
  obtain ⟨A, n, c, f, rfl, hnc, hS, hcm⟩ := hv
  have HS := Lib.hid (And.intro hS (And.intro hnc hcm))
  clear hS hnc y0 y1 y2
  by_cases hn : (5000 : Int) < (n : Int)
  · go_enter Try.func7, Try.ntmps7
    go_wp2_with fail
    refine (known_c w).mono ?_
    rintro e w1 ⟨rfl, hb1⟩
    go_wp2
    go_ret
    exact ⟨rfl, hb1⟩
  · go_enter Try.func7, Try.ntmps7
    go_wp2_with fail
    refine (known_c w).mono ?_
    rintro e w1 ⟨rfl, hb1⟩
    go_wp2_with fail
    refine (small_c w1 a0 8 (by omega) (by omega)).mono ?_
    rintro e wx ⟨s, rfl, hs1, hs2, rfl⟩
    go_wp2_with fail
    refine (small_c w1 a1 8 (by omega) (by omega)).mono ?_
    rintro e wx ⟨o, rfl, ho1, ho2, rfl⟩
    go_wp2_with fail
    refine (small_c w1 a2 4 (by omega) (by omega)).mono ?_
    rintro e wx ⟨m, rfl, hm1, hm2, rfl⟩
    obtain ⟨s, rfl⟩ := Int.eq_ofNat_of_zero_le (show 0 ≤ s by omega)
    obtain ⟨o, rfl⟩ := Int.eq_ofNat_of_zero_le (show 0 ≤ o by omega)
    obtain ⟨m, rfl⟩ := Int.eq_ofNat_of_zero_le (show 0 ≤ m by omega)
    have hk : okNew s o m := by unfold okNew; omega
    go_wp2_with fail
    refine (new_yes w1 (fun _ => 0) 1000 s o m hk).mono ?_
    rintro e w2 ⟨g, σ2, rfl, h2, c2, hg⟩
    have H2 : Hid (RI w g o m w2 σ2 (FS.new s o m)) := ⟨h2, FInv.new hk, rfl, rfl, (Chg.of_below (Of 1000) (fun _ => 0) hb1).trans (c2.mono (fun _ h => h.elim))⟩
    clear h2 c2 hg hb1 hk hs1 hs2
    go_wp2_with fail
    go_loopw [11] (fun i wr => ∃ (k : Nat) (σ : Nat → Nat) (F : FS), k ≤ n ∧ i = .int .i64 k ∧ RI w g o m wr σ F) (fun i _ => n - (intOf i).toNat)
    case atStart => exact ⟨0, σ2, _, Nat.zero_le _, rfl, H2.out⟩
    case round =>
      clear H2
      obtain ⟨k, σ, F, hk, rfl, hF⟩ := hrel
      by_cases hlt : k < n
      · obtain ⟨b, off, rfl, hb, hc⟩ := HS.out.1.at_ (by omega)
        obtain ⟨wk, wa⟩ := HS.out.1.wf k hlt
        have hcs := hc k hlt
        clear hc
        generalize f k = st at wk wa hcs
        obtain ⟨kd, a, x⟩ := st
        obtain ⟨xm, xk, xt, xv⟩ := x
        have hbk : ∀ j, wr.cell? ⟨b, j, none⟩ = w.cell? ⟨b, j, none⟩ := fun j => World.cell?_of_block (a := ⟨b, j, none⟩) (hF.c.block b hb (by unfold Of; omega))
        have d0 : wr.cell? ⟨b, off + k * 6, none⟩ = some (.int .i64 kd) := (hbk _).trans (hcs 0 _ rfl)
        have d1 : wr.cell? ⟨b, off + k * 6 + 1, none⟩ = some (.int .i64 a) := (hbk _).trans (hcs 1 _ rfl)
        have d2 : wr.cell? ⟨b, off + k * 6 + 2, none⟩ = some (.bool xm) := (hbk _).trans (hcs 2 _ rfl)
        have d3 : wr.cell? ⟨b, off + k * 6 + 3, none⟩ = some (.string xk) := (hbk _).trans (hcs 3 _ rfl)
        have d4 : wr.cell? ⟨b, off + k * 6 + 4, none⟩ = some (.int .i64 xt) := (hbk _).trans (hcs 4 _ rfl)
        have d5 : wr.cell? ⟨b, off + k * 6 + 5, none⟩ = some (.int .i64 xv) := (hbk _).trans (hcs 5 _ rfl)
        have i0 : (0 : Int) ≤ (k : Int) := by omega
        have i1 : (k : Int) < (n : Int) := by omega
        have H3 : Hid (RS w g o m wr.heap.size kd a ⟨xm, xk, xt, xv⟩ (wr.alloc (.cells #[.int .i64 kd, .int .i64 a, .bool xm, .string xk, .int .i64 xt, .int .i64 xv] 35)) (K.upd σ wr.heap.size 0) F) :=
          ⟨⟨(hF.at_.upd (Nat.le_refl _) 0).below ((Below.refl _ _).alloc (Nat.le_refl _) _), hF.inv, hF.o, hF.m, (hF.c.upd hF.c.size 0).alloc _⟩, Blk.new _ _ _, by simp [K.upd]⟩
        clear hF hbk hcs hb
        go_wp2_with fail
        clear d0 d1 d2 d3 d4 d5
        generalize hw3 : wr.alloc (.cells #[.int .i64 kd, .int .i64 a, .bool xm, .string xk, .int .i64 xt, .int .i64 xv] 35) = w3 at H3 ⊢
        clear hw3
        generalize K.upd σ wr.heap.size 0 = σ3 at H3
        generalize wr.heap.size = p at H3 ⊢
        refine (queued_c w3 σ3 1000 g F H3.out.at_ a wa).mono ?_
        rintro e wx ⟨he, rfl⟩
        obtain rfl : e = .returned (.int .i64 (nQ F a)) := he
        have hnq := nQ_le H3.out.at_.good a
        obtain ⟨q, hq⟩ : ∃ q, nQ F a = q := ⟨_, rfl⟩
        have Hq := Lib.hid hq
        rw [hq] at hnq ⊢
        clear hq
        obtain ⟨hq0, hq1⟩ := hnq
        have c1 := H3.out.c1
        go_wp2_with fail
        refine (toward_c w3 σ3 1000 g F H3.out.at_ H3.out.inv.ok a).mono ?_
        rintro e w4 ⟨he, hb4⟩
        have H4 : Hid (RS w g o m p kd a ⟨xm, xk, xt, xv⟩ w4 σ3 F) := H3.out.below hb4
        have htl := toward_le H3.out.at_.good H3.out.inv.tz a
        rw [H3.out.o] at htl
        clear H3 hb4 c1
        obtain ⟨tw, htw⟩ : ∃ z, (F.toward a).1 = z := ⟨_, rfl⟩
        obtain ⟨ge, hge⟩ : ∃ z, (F.toward a).2 = z := ⟨_, rfl⟩
        rw [htw, hge] at he
        rw [htw] at htl
        subst he
        have Ht := Lib.hid (And.intro htw hge)
        clear htw hge
        obtain ⟨ht0, ht1⟩ := htl
        have c1 := H4.out.c1
        go_wp2_with fail
        refine (boxed_c w4 σ3 1000 g F H4.out.at_ tw (wf_small (by omega))).mono ?_
        rintro e wx ⟨he, rfl⟩
        obtain rfl : e = .returned (.int .i64 (nB F tw)) := he
        have hle := nB_le H4.out.at_.good tw
        rw [H4.out.m] at hle
        obtain ⟨bx, hbx⟩ : ∃ z, nB F tw = z := ⟨_, rfl⟩
        have Hbx := Lib.hid hbx
        rw [hbx] at hle ⊢
        clear hbx
        obtain ⟨hbx0, hbx1⟩ := hle
        go_wp2_with fail
        refine (boxed_c w4 σ3 1000 g F H4.out.at_ a wa).mono ?_
        rintro e wx ⟨he, rfl⟩
        obtain rfl : e = .returned (.int .i64 (nB F a)) := he
        have hle := nB_le H4.out.at_.good a
        rw [H4.out.m] at hle
        obtain ⟨tk, htk⟩ : ∃ z, nB F a = z := ⟨_, rfl⟩
        have Htk := Lib.hid htk
        rw [htk] at hle ⊢
        clear htk
        obtain ⟨htk0, htk1⟩ := hle
        have c0 := H4.out.c0
        by_cases h1 : kd = 1
        · subst h1
          have c2 := H4.out.c2
          have c3 := H4.out.c3
          have c4 := H4.out.c4
          have c5 := H4.out.c5
          go_wp2_with fail
          refine (put_any w4 σ3 1000 g F H4.out.at_ a ⟨xm, xk, xt, xv⟩).mono ?_
          rintro e w5 ⟨he, σ5, h5, d5⟩
          by_cases hr : (F.put a ⟨xm, xk, xt, xv⟩).1 = 0
          · have hy := put_yes hr
            rw [Hq.out] at hy
            rw [hr] at he
            subst he
            have H5 : Hid (RS w g o m p 1 a ⟨xm, xk, xt, xv⟩ w5 σ5 (F.put a ⟨xm, xk, xt, xv⟩).2) := H4.out.chg h5 (H4.out.inv.put a _) (put_like _ _ _) d5
            generalize (F.put a ⟨xm, xk, xt, xv⟩).2 = F5 at H5 hy
            clear h5 d5 c0 c1 c2 c3 c4 c5 hr H4 Ht Hbx Htk
            have Hy := Lib.hid hy
            clear hy
            have c1 := H5.out.c1
            have hqq : ¬ q + 1 = q := by omega
            go_wp2_with fail
            refine (queued_c w5 σ5 1000 g F5 H5.out.at_ a wa).mono ?_
            rintro e wx ⟨he, rfl⟩
            obtain rfl : e = .returned (.int .i64 (q + 1)) := by rw [← Hy.out]; exact he
            go_wp2_with fail
            refine (queued_c w5 σ5 1000 g F5 H5.out.at_ a wa).mono ?_
            rintro e wx ⟨he, rfl⟩
            obtain rfl : e = .returned (.int .i64 (q + 1)) := by rw [← Hy.out]; exact he
            clear Hy
            go_wp2_with fail
            have HT := Lib.hid H5.out.toRI
            clear H5
            go_loopw [25] (fun j wr => ∃ (i : Nat), i ≤ o ∧ j = .int .i64 i ∧ RI w g o m wr σ5 F5) (fun j _ => o - (intOf j).toNat)
            case atStart => exact ⟨0, Nat.zero_le _, rfl, HT.out⟩
            case round =>
              clear HT
              obtain ⟨i, hi, rfl, hF⟩ := hrel
              have HF := Lib.hid hF
              clear hF
              by_cases hlo : i < o
              · have hlo1 : (i : Int) < (o : Int) := by omega
                go_wp2_with fail
                refine (boxed_c wr σ5 1000 g F5 HF.out.at_ i (wf_small (by omega))).mono ?_
                rintro e wx ⟨he, rfl⟩
                obtain rfl : e = .returned (.int .i64 (nB F5 i)) := he
                have hle := nB_le HF.out.at_.good i
                rw [HF.out.m] at hle
                generalize nB F5 i = z at hle ⊢
                obtain ⟨hz0, hz1⟩ := hle
                have hz2 : ¬ (m : Int) < z := by omega
                go_wp2_with fail
                go_roundw
                case rel => exact ⟨i + 1, by omega, by go_num, HF.out⟩
                case measure => simp [intOf]; omega
              · have hio : i = o := by omega
                have Hr := Lib.hid HF.out
                clear HF
                go_wp2_with fail
                go_roundw
                case rel => exact ⟨k + 1, σ5, F5, by omega, by go_num, Hr.out⟩
                case measure => simp [intOf]; omega

          · have hno := put_no hr
            rw [hno] at h5
            obtain ⟨r, hrr⟩ : ∃ z, (F.put a ⟨xm, xk, xt, xv⟩).1 = z := ⟨_, rfl⟩
            rw [hrr] at hr he
            subst he
            have H5 : Hid (RS w g o m p 1 a ⟨xm, xk, xt, xv⟩ w5 σ5 F) := H4.out.chg h5 H4.out.inv ⟨rfl, rfl, rfl⟩ d5
            clear h5 d5 c0 c1 c2 c3 c4 c5 H4 Ht Hbx Htk hno hrr
            have c1 := H5.out.c1
            go_wp2_with fail
            refine (queued_c w5 σ5 1000 g F H5.out.at_ a wa).mono ?_
            rintro e wx ⟨he, rfl⟩
            obtain rfl : e = .returned (.int .i64 q) := by rw [← Hq.out]; exact he
            go_wp2_with fail
            have HT := Lib.hid H5.out.toRI
            clear H5
            go_loopw [25] (fun j wr => ∃ (i : Nat), i ≤ o ∧ j = .int .i64 i ∧ RI w g o m wr σ5 F) (fun j _ => o - (intOf j).toNat)
            case atStart => exact ⟨0, Nat.zero_le _, rfl, HT.out⟩
            case round =>
              clear HT
              obtain ⟨i, hi, rfl, hF⟩ := hrel
              have HF := Lib.hid hF
              clear hF
              by_cases hlo : i < o
              · have hlo1 : (i : Int) < (o : Int) := by omega
                go_wp2_with fail
                refine (boxed_c wr σ5 1000 g F HF.out.at_ i (wf_small (by omega))).mono ?_
                rintro e wx ⟨he, rfl⟩
                obtain rfl : e = .returned (.int .i64 (nB F i)) := he
                have hle := nB_le HF.out.at_.good i
                rw [HF.out.m] at hle
                generalize nB F i = z at hle ⊢
                obtain ⟨hz0, hz1⟩ := hle
                have hz2 : ¬ (m : Int) < z := by omega
                go_wp2_with fail
                go_roundw
                case rel => exact ⟨i + 1, by omega, by go_num, HF.out⟩
                case measure => simp [intOf]; omega
              · have hio : i = o := by omega
                have Hr := Lib.hid HF.out
                clear HF
                go_wp2_with fail
                go_roundw
                case rel => exact ⟨k + 1, σ5, F, by omega, by go_num, Hr.out⟩
                case measure => simp [intOf]; omega

        · by_cases h2 : kd = 2
          · subst h2
            clear h1
            go_wp2_with fail
            refine (pass_any w4 σ3 1000 g F H4.out.at_ H4.out.inv.ok H4.out.inv.tz a).mono ?_
            rintro e w5 ⟨he, σ5, h5, d5⟩
            have hi5 := H4.out.inv.pass H4.out.at_.good a
            by_cases hg0 : ge = 0
            · rcases pass_some H4.out.at_.good H4.out.inv.tz (i := a) (Ht.out.2.trans hg0) with ⟨p1, p2, p3⟩ | ⟨p1, p2, p3, p4⟩
              · rw [Ht.out.1, Hbx.out, H4.out.m] at p1
                rw [p3] at h5 hi5
                rw [p2] at he
                generalize (F.pass a).1 = z at he
                subst he hg0
                have H5 : Hid (RS w g o m p 2 a ⟨xm, xk, xt, xv⟩ w5 σ5 F) := H4.out.chg h5 hi5 ⟨rfl, rfl, rfl⟩ d5
                clear h5 d5 c0 c1 H4 Ht Htk Hq p2 p3 hi5
                have c1 := H5.out.c1
                go_wp2_with fail
                refine (boxed_c w5 σ5 1000 g F H5.out.at_ tw (wf_small (by omega))).mono ?_
                rintro e wx ⟨he, rfl⟩
                obtain rfl : e = .returned (.int .i64 bx) := by rw [← Hbx.out]; exact he
                go_wp2_with fail
                have HT := Lib.hid H5.out.toRI
                clear H5
                go_loopw [25] (fun j wr => ∃ (i : Nat), i ≤ o ∧ j = .int .i64 i ∧ RI w g o m wr σ5 F) (fun j _ => o - (intOf j).toNat)
                case atStart => exact ⟨0, Nat.zero_le _, rfl, HT.out⟩
                case round =>
                  clear HT
                  obtain ⟨i, hi, rfl, hF⟩ := hrel
                  have HF := Lib.hid hF
                  clear hF
                  by_cases hlo : i < o
                  · have hlo1 : (i : Int) < (o : Int) := by omega
                    go_wp2_with fail
                    refine (boxed_c wr σ5 1000 g F HF.out.at_ i (wf_small (by omega))).mono ?_
                    rintro e wx ⟨he, rfl⟩
                    obtain rfl : e = .returned (.int .i64 (nB F i)) := he
                    have hle := nB_le HF.out.at_.good i
                    rw [HF.out.m] at hle
                    generalize nB F i = z at hle ⊢
                    obtain ⟨hz0, hz1⟩ := hle
                    have hz2 : ¬ (m : Int) < z := by omega
                    go_wp2_with fail
                    go_roundw
                    case rel => exact ⟨i + 1, by omega, by go_num, HF.out⟩
                    case measure => simp [intOf]; omega
                  · have hio : i = o := by omega
                    have Hr := Lib.hid HF.out
                    clear HF
                    go_wp2_with fail
                    go_roundw
                    case rel => exact ⟨k + 1, σ5, F, by omega, by go_num, Hr.out⟩
                    case measure => simp [intOf]; omega

              · rw [Ht.out.1, Hbx.out, H4.out.m] at p1
                rw [Ht.out.1, Hbx.out] at p4
                rw [Ht.out.1] at p3
                rw [p2, p3] at he
                subst he hg0
                have H5 : Hid (RS w g o m p 2 a ⟨xm, xk, xt, xv⟩ w5 σ5 (F.pass a).2.2) := H4.out.chg h5 hi5 (pass_like _ _) d5
                generalize (F.pass a).2.2 = F5 at H5 p4
                clear h5 d5 c0 c1 H4 Ht Htk Hq p2 p3 hi5 Hbx
                have Hp := Lib.hid p4
                clear p4
                have p5 : ¬ (m : Int) ≤ bx := by omega
                have c1 := H5.out.c1
                go_wp2_with fail
                refine (boxed_c w5 σ5 1000 g F5 H5.out.at_ tw (wf_small (by omega))).mono ?_
                rintro e wx ⟨he, rfl⟩
                obtain rfl : e = .returned (.int .i64 (bx + 1)) := by rw [← Hp.out]; exact he
                clear Hp
                go_wp2_with fail
                have HT := Lib.hid H5.out.toRI
                clear H5
                go_loopw [25] (fun j wr => ∃ (i : Nat), i ≤ o ∧ j = .int .i64 i ∧ RI w g o m wr σ5 F5) (fun j _ => o - (intOf j).toNat)
                case atStart => exact ⟨0, Nat.zero_le _, rfl, HT.out⟩
                case round =>
                  clear HT
                  obtain ⟨i, hi, rfl, hF⟩ := hrel
                  have HF := Lib.hid hF
                  clear hF
                  by_cases hlo : i < o
                  · have hlo1 : (i : Int) < (o : Int) := by omega
                    go_wp2_with fail
                    refine (boxed_c wr σ5 1000 g F5 HF.out.at_ i (wf_small (by omega))).mono ?_
                    rintro e wx ⟨he, rfl⟩
                    obtain rfl : e = .returned (.int .i64 (nB F5 i)) := he
                    have hle := nB_le HF.out.at_.good i
                    rw [HF.out.m] at hle
                    generalize nB F5 i = z at hle ⊢
                    obtain ⟨hz0, hz1⟩ := hle
                    have hz2 : ¬ (m : Int) < z := by omega
                    go_wp2_with fail
                    go_roundw
                    case rel => exact ⟨i + 1, by omega, by go_num, HF.out⟩
                    case measure => simp [intOf]; omega
                  · have hio : i = o := by omega
                    have Hr := Lib.hid HF.out
                    clear HF
                    go_wp2_with fail
                    go_roundw
                    case rel => exact ⟨k + 1, σ5, F5, by omega, by go_num, Hr.out⟩
                    case measure => simp [intOf]; omega

            · have p2 := pass_none (F := F) (i := a) (by rw [Ht.out.2]; exact hg0)
              rw [Ht.out.2] at p2
              rw [p2] at he
              generalize (F.pass a).1 = z at he
              subst he
              have H5 : Hid (RI w g o m w5 σ5 (F.pass a).2.2) := (H4.out.chg h5 hi5 (pass_like _ _) d5).toRI
              generalize (F.pass a).2.2 = F5 at H5
              clear h5 d5 c0 c1 H4 Ht Htk Hq p2 hi5 Hbx
              go_wp2_with fail
              go_roundw
              case rel => exact ⟨k + 1, σ5, F5, by omega, by go_num, H5.out⟩
              case measure => simp [intOf]; omega
          · by_cases h3 : kd = 3
            · subst h3
              clear h1 h2
              go_wp2_with fail
              refine (take_c w4 σ3 1000 g (by decide) F H4.out.at_ a).mono ?_
              rintro e w5 ⟨he, σ5, h5, d5⟩
              have hi5 := H4.out.inv.take a
              have H5 : Hid (RS w g o m p 3 a ⟨xm, xk, xt, xv⟩ w5 σ5 (F.take a).2.2.2) := H4.out.chg h5 hi5 (take_like _ _) d5
              clear h5 d5 hi5 c0 c1 H4 Ht Hbx Hq
              obtain ⟨y, hy⟩ : ∃ y, (F.take a).2.1 = y := ⟨_, rfl⟩
              rw [hy] at he
              clear hy
              obtain ⟨ym, yk, yt, yv⟩ := y
              generalize (F.take a).1 = ys at he
              by_cases ht : 0 < tk
              · obtain ⟨p1, p2⟩ := take_yes (F := F) (j := a) (by rw [Htk.out]; exact ht)
                rw [Htk.out] at p2
                rw [p1] at he
                obtain rfl : e = .returned (.tuple #[.int .i64 ys, .agg #[.bool ym, .string yk, .int .i64 yt, .int .i64 yv], .int .i64 0]) := he
                generalize (F.take a).2.2.2 = F5 at H5 p2
                have Hp := Lib.hid p2
                clear p2 p1 Htk
                have H6 : Hid (RS w g o m p 3 a ⟨xm, xk, xt, xv⟩ (w5.alloc (.cells #[.bool ym, .string yk, .int .i64 yt, .int .i64 yv] 33)) σ5 F5) := H5.out.below ((Below.refl _ _).alloc (Nat.le_refl _) _)
                clear H5
                have c1 := H6.out.c1
                go_wp2_with fail
                refine (boxed_c _ σ5 1000 g F5 H6.out.at_ a wa).mono ?_
                rintro e wx ⟨he, rfl⟩
                obtain rfl : e = .returned (.int .i64 (tk - 1)) := by rw [← Hp.out]; exact he
                clear Hp
                go_wp2_with fail
                have HT := Lib.hid H6.out.toRI
                clear H6
                go_loopw [25] (fun j wr => ∃ (i : Nat), i ≤ o ∧ j = .int .i64 i ∧ RI w g o m wr σ5 F5) (fun j _ => o - (intOf j).toNat)
                case atStart => exact ⟨0, Nat.zero_le _, rfl, HT.out⟩
                case round =>
                  clear HT
                  obtain ⟨i, hi, rfl, hF⟩ := hrel
                  have HF := Lib.hid hF
                  clear hF
                  by_cases hlo : i < o
                  · have hlo1 : (i : Int) < (o : Int) := by omega
                    go_wp2_with fail
                    refine (boxed_c wr σ5 1000 g F5 HF.out.at_ i (wf_small (by omega))).mono ?_
                    rintro e wx ⟨he, rfl⟩
                    obtain rfl : e = .returned (.int .i64 (nB F5 i)) := he
                    have hle := nB_le HF.out.at_.good i
                    rw [HF.out.m] at hle
                    generalize nB F5 i = z at hle ⊢
                    obtain ⟨hz0, hz1⟩ := hle
                    have hz2 : ¬ (m : Int) < z := by omega
                    go_wp2_with fail
                    go_roundw
                    case rel => exact ⟨i + 1, by omega, by go_num, HF.out⟩
                    case measure => simp [intOf]; omega
                  · have hio : i = o := by omega
                    have Hr := Lib.hid HF.out
                    clear HF
                    go_wp2_with fail
                    go_roundw
                    case rel => exact ⟨k + 1, σ5, F5, by omega, by go_num, Hr.out⟩
                    case measure => simp [intOf]; omega

              · have ht' : tk = 0 := by omega
                subst ht'
                have p1 := take_no (F := F) (j := a) Htk.out
                generalize (F.take a).2.2.1 = r at p1 he
                have b1 : (r == 0) = false := by simpa using p1
                obtain rfl : e = .returned (.tuple #[.int .i64 ys, .agg #[.bool ym, .string yk, .int .i64 yt, .int .i64 yv], .int .i64 r]) := he
                generalize (F.take a).2.2.2 = F5 at H5
                clear Htk
                have H6 : Hid (RS w g o m p 3 a ⟨xm, xk, xt, xv⟩ (w5.alloc (.cells #[.bool ym, .string yk, .int .i64 yt, .int .i64 yv] 33)) σ5 F5) := H5.out.below ((Below.refl _ _).alloc (Nat.le_refl _) _)
                clear H5
                have c1 := H6.out.c1
                go_wp2_with fail
                have HT := Lib.hid H6.out.toRI
                clear H6
                go_loopw [25] (fun j wr => ∃ (i : Nat), i ≤ o ∧ j = .int .i64 i ∧ RI w g o m wr σ5 F5) (fun j _ => o - (intOf j).toNat)
                case atStart => exact ⟨0, Nat.zero_le _, rfl, HT.out⟩
                case round =>
                  clear HT
                  obtain ⟨i, hi, rfl, hF⟩ := hrel
                  have HF := Lib.hid hF
                  clear hF
                  by_cases hlo : i < o
                  · have hlo1 : (i : Int) < (o : Int) := by omega
                    go_wp2_with fail
                    refine (boxed_c wr σ5 1000 g F5 HF.out.at_ i (wf_small (by omega))).mono ?_
                    rintro e wx ⟨he, rfl⟩
                    obtain rfl : e = .returned (.int .i64 (nB F5 i)) := he
                    have hle := nB_le HF.out.at_.good i
                    rw [HF.out.m] at hle
                    generalize nB F5 i = z at hle ⊢
                    obtain ⟨hz0, hz1⟩ := hle
                    have hz2 : ¬ (m : Int) < z := by omega
                    go_wp2_with fail
                    go_roundw
                    case rel => exact ⟨i + 1, by omega, by go_num, HF.out⟩
                    case measure => simp [intOf]; omega
                  · have hio : i = o := by omega
                    have Hr := Lib.hid HF.out
                    clear HF
                    go_wp2_with fail
                    go_roundw
                    case rel => exact ⟨k + 1, σ5, F5, by omega, by go_num, Hr.out⟩
                    case measure => simp [intOf]; omega

            · clear c1 Ht Htk Hq Hbx
              have b1 : (kd == 1) = false := by simpa using h1
              have b2 : (kd == 2) = false := by simpa using h2
              have b3 : (kd == 3) = false := by simpa using h3
              go_wp2_with fail
              clear h1 h2 h3 c0
              have HT := Lib.hid H4.out.toRI
              clear H4
              go_loopw [25] (fun j wr => ∃ (i : Nat), i ≤ o ∧ j = .int .i64 i ∧ RI w g o m wr σ3 F) (fun j _ => o - (intOf j).toNat)
              case atStart => exact ⟨0, Nat.zero_le _, rfl, HT.out⟩
              case round =>
                clear HT
                obtain ⟨i, hi, rfl, hF⟩ := hrel
                have HF := Lib.hid hF
                clear hF
                by_cases hlo : i < o
                · have hlo1 : (i : Int) < (o : Int) := by omega
                  go_wp2_with fail
                  refine (boxed_c wr σ3 1000 g F HF.out.at_ i (wf_small (by omega))).mono ?_
                  rintro e wx ⟨he, rfl⟩
                  obtain rfl : e = .returned (.int .i64 (nB F i)) := he
                  have hle := nB_le HF.out.at_.good i
                  rw [HF.out.m] at hle
                  generalize nB F i = z at hle ⊢
                  obtain ⟨hz0, hz1⟩ := hle
                  have hz2 : ¬ (m : Int) < z := by omega
                  go_wp2_with fail
                  go_roundw
                  case rel => exact ⟨i + 1, by omega, by go_num, HF.out⟩
                  case measure => simp [intOf]; omega
                · have hio : i = o := by omega
                  have Hr := Lib.hid HF.out
                  clear HF
                  go_wp2_with fail
                  go_roundw
                  case rel => exact ⟨k + 1, σ3, F, by omega, by go_num, Hr.out⟩
                  case measure => simp [intOf]; omega

      · have hkn : k = n := by omega
        have hc := hF.c
        go_wp2_with fail
        go_ret
        exact ⟨rfl, ⟨hc.os, hc.tape, hc.output, hc.size, fun b hb => hc.block b hb (by unfold Of; omega)⟩⟩
end Go.Proofs.Ytapninpdjccglaa.C
