/-
  One step of a script on a net (did): its number, what it told.
-/
import Derived.Test.YtalabfbnbiagiaaC8d
import Derived.Test.YtalabfbnbiagiaaC9
import Derived.Test.YtalabfbnbiagiaaLawA
import Derived.Test.YtalabfbnbiagiaaNSteps
import Derived.Deep.DeepCutAuto
set_option linter.unusedVariables false
set_option linter.unusedSimpArgs false
namespace Go.Proofs.Ytalabfbnbiagiaa.C
open Go.RowKit Go.Proofs.Ytalabfbnbiagiaa.K

def NS.did (N : NS) (s : NSt) : Int × List Int × NS :=
  if s.kind = 1 then ((N.open_ s.c).1, [], (N.open_ s.c).2)
  else if s.kind = 2 then ((N.send s.c s.L).1, [], (N.send s.c s.L).2)
  else if s.kind = 3 then ((N.bring s.c s.most).2.1, zeros (N.bring s.c s.most).1.toNat, (N.bring s.c s.most).2.2)
  else if s.kind = 4 then ((N.take s.c).2.1, (N.take s.c).1, (N.take s.c).2.2)
  else if s.kind = 5 then ((N.write s.c s.L).2.1, zeros (N.write s.c s.L).1.toNat, (N.write s.c s.L).2.2)
  else if s.kind = 6 then ((N.fetch s.c s.most).2.1, zeros (N.fetch s.c s.most).1.toNat, (N.fetch s.c s.most).2.2)
  else if s.kind = 7 then ((N.close s.c).1, [], (N.close s.c).2)
  else if s.kind = 8 then ((N.cut_ s.c).1, [], (N.cut_ s.c).2)
  else (0, [], N)
theorem str_nil : str [] = ⟨#[]⟩ := rfl
theorem NetAt.good {w : World} {σ : Nat → Nat} {t g : Nat} {N : NS} (h : NetAt w σ t g N) : Good N := by
  obtain ⟨ks, h⟩ := h
  exact h.good
theorem fit_small {room : Int} {m n : Nat} (h0 : 0 ≤ room) (h1 : room ≤ 131072) : fit room m n ≤ 131072 := by unfold fit; rw [if_neg (by omega)]; omega
theorem bring_nat {N : NS} (h : Good N) (c most : Int) : ∃ k : Nat, (N.bring c most).1 = (k : Int) ∧ k ≤ 131072 := by
  have h1 := h.i1
  have h2 := h.i2
  unfold NS.bring
  split
  · split
    · exact ⟨0, rfl, by omega⟩
    · rename_i C hC
      exact ⟨_, rfl, fit_small (by omega) h2⟩
  · exact ⟨0, rfl, by omega⟩
theorem write_nat {N : NS} (h : Good N) (c : Int) (L : List Int) : ∃ k : Nat, (N.write c L).1 = (k : Int) ∧ k ≤ 131072 := by
  have h1 := h.o1
  have h2 := h.o2
  unfold NS.write
  split
  · split
    · exact ⟨0, rfl, by omega⟩
    · rename_i C hC
      exact ⟨_, rfl, fit_small (by omega) h2⟩
  · exact ⟨0, rfl, by omega⟩
theorem fetches_small {N : NS} (h : Good N) {d : Nat} {C : Cn} (hC : N.cs d = some C) (most : Int) : fetches C most ≤ 131072 := by
  have h1 := h.out _ _ hC
  have h2 := h.o2
  unfold fetches
  omega
theorem fetch_nat {N : NS} (h : Good N) (c most : Int) : ∃ k : Nat, (N.fetch c most).1 = (k : Int) ∧ k ≤ 131072 := by
  unfold NS.fetch
  split
  · split
    · exact ⟨0, rfl, by omega⟩
    · rename_i C hC
      exact ⟨_, rfl, fetches_small h hC most⟩
  · exact ⟨0, rfl, by omega⟩
theorem put_mv (N : NS) (d : Nat) (C : Cn) : (N.put d C).mv = N.mv := rfl
/-- A step moves at most so many bytes. -/
theorem did_mv {N : NS} (h : Good N) (s : NSt) : (N.did s).2.2.mv ≤ N.mv + 131072 := by
  have hi1 := h.i1
  have hi2 := h.i2
  unfold NS.did
  repeat' split
  · show (N.open_ s.c).2.mv ≤ _
    unfold NS.open_
    repeat' split
    all_goals first | (rw [put_mv]; omega) | (show N.mv ≤ _; omega)
  · show (N.send s.c s.L).2.mv ≤ _
    unfold NS.send
    repeat' split
    all_goals (show N.mv ≤ _; omega)
  · show (N.bring s.c s.most).2.2.mv ≤ _
    unfold NS.bring
    repeat' split
    · show N.mv ≤ _; omega
    · rename_i C hC
      have := fit_small (room := N.i) (m := C.inb.length) (n := min s.most.toNat C.way.length) (by omega) hi2
      show N.mv + ((N.brings C s.most : Nat) : Int) ≤ _
      unfold NS.brings
      omega
    · show N.mv ≤ _; omega
  · show (N.take s.c).2.2.mv ≤ _
    unfold NS.take
    repeat' split
    all_goals (show N.mv ≤ _; omega)
  · show (N.write s.c s.L).2.2.mv ≤ _
    unfold NS.write
    repeat' split
    all_goals (show N.mv ≤ _; omega)
  · show (N.fetch s.c s.most).2.2.mv ≤ _
    unfold NS.fetch
    repeat' split
    · show N.mv ≤ _; omega
    · rename_i C hC
      have := fetches_small h hC s.most
      show N.mv + ((fetches C s.most : Nat) : Int) ≤ _
      omega
    · show N.mv ≤ _; omega
  · show (N.close s.c).2.mv ≤ _
    unfold NS.close
    repeat' split
    all_goals (show N.mv ≤ _; omega)
  · show (N.cut_ s.c).2.mv ≤ _
    unfold NS.cut_
    repeat' split
    all_goals (show N.mv ≤ _; omega)
  · show N.mv ≤ _; omega

set_option maxRecDepth 100000 in
set_option maxHeartbeats 3200000 in
theorem did_c (w : World) (σ : Nat → Nat) (t g : Nat) (N : NS) (h : NetAt w σ t g N) (hmv : N.mv ≤ 1099511627776) (s : NSt) (hs : s.ok w) :
    Calls Try.prog 34 #[.pointer (some ⟨g, 0, none⟩), .agg s.cells.toArray] w fun e w' => e = .returned (.tuple #[.int .i64 (N.did s).1, .string (str (N.did s).2.1)]) ∧ ∃ σ', NetAt w' σ' t g (N.did s).2.2 ∧ Chg (Of t) σ w σ' w' := by
  obtain ⟨kd, c, A, n, cp, L, most⟩ := s
  have hal : Below w.heap.size w (w.alloc (.cells #[.int .i64 kd, .int .i64 c, .slice A n cp, .int .i64 most] 49)) := (Below.refl _ _).alloc (Nat.le_refl _) _
  have H := Lib.hid (And.intro ((h.upd (Nat.le_refl _) 0).below hal) (And.intro (((Chg.refl (Of t) σ w).upd (Nat.le_refl _) 0).below hal) (And.intro (show MBlk (w.alloc (.cells #[.int .i64 kd, .int .i64 c, .slice A n cp, .int .i64 most] 49)) (K.upd σ w.heap.size 0) 0 w.heap.size 49 #[.int .i64 kd, .int .i64 c, .slice A n cp, .int .i64 most] from ⟨Blk.new _ _ _, upd_new (Nat.le_refl _)⟩) (hs.rd.below hal))))
  have Hok := Lib.hid hs
  have Hmv := Lib.hid hmv
  unfold NSt.cells NSt.bytes
  dsimp only at *
  clear h hs hmv hal
  by_cases h1 : kd = 1
  · subst h1
    rw [show N.did ⟨1, c, A, n, cp, L, most⟩ = ((N.open_ c).1, [], (N.open_ c).2) from rfl]
    have hcall := open_c (w.alloc (.cells #[.int .i64 1, .int .i64 c, .slice A n cp, .int .i64 most] 49)) (K.upd σ w.heap.size 0) t g N H.out.1 c Hok.out.wc
    obtain ⟨z, hz⟩ : ∃ z, (N.open_ c).1 = z := ⟨_, rfl⟩
    obtain ⟨N1, hN1⟩ : ∃ N1, (N.open_ c).2 = N1 := ⟨_, rfl⟩
    rw [hz, hN1] at hcall ⊢
    rw [str_nil]
    clear hz hN1
    have Hcall := Lib.hid hcall
    clear hcall
    go_enter Try.func34, Try.ntmps34
    go_upto_region 3 with fail
    generalize w.alloc (.cells #[.int .i64 1, .int .i64 c, .slice A n cp, .int .i64 most] 49) = w3 at H Hcall ⊢
    generalize K.upd σ w.heap.size 0 = σ3 at H Hcall
    generalize w.heap.size = p at H ⊢
    have e1 : w3.cell? ⟨p, 1, none⟩ = some (.int .i64 c) := by rw [H.out.2.2.1.1.cell]; rfl
    have e2 : w3.cell? ⟨p, 2, none⟩ = some (.slice A n cp) := by rw [H.out.2.2.1.1.cell]; rfl
    have e3 : w3.cell? ⟨p, 3, none⟩ = some (.int .i64 most) := by rw [H.out.2.2.1.1.cell]; rfl
    go_wp2_with fail
    refine Hcall.out.mono ?_
    rintro e w4 ⟨rfl, σ4, hA4, hc4⟩
    have HA := Lib.hid (And.intro hA4 hc4)
    clear e1 e2 e3 hA4 hc4
    go_wp2
    go_ret2
    exact ⟨by first | rfl | simp, σ4, HA.out.1, H.out.2.1.trans HA.out.2⟩
  · by_cases h2 : kd = 2
    · subst h2
      clear h1
      rw [show N.did ⟨2, c, A, n, cp, L, most⟩ = ((N.send c L).1, [], (N.send c L).2) from rfl]
      have hcall := send_c (w.alloc (.cells #[.int .i64 2, .int .i64 c, .slice A n cp, .int .i64 most] 49)) (K.upd σ w.heap.size 0) t g N H.out.1 c Hok.out.wc A n cp L Hok.out.len Hok.out.lim Hok.out.cap H.out.2.2.2
      obtain ⟨z, hz⟩ : ∃ z, (N.send c L).1 = z := ⟨_, rfl⟩
      obtain ⟨N1, hN1⟩ : ∃ N1, (N.send c L).2 = N1 := ⟨_, rfl⟩
      rw [hz, hN1] at hcall ⊢
      rw [str_nil]
      clear hz hN1
      have Hcall := Lib.hid hcall
      clear hcall
      go_enter Try.func34, Try.ntmps34
      go_upto_region 5 with fail
      generalize w.alloc (.cells #[.int .i64 2, .int .i64 c, .slice A n cp, .int .i64 most] 49) = w3 at H Hcall ⊢
      generalize K.upd σ w.heap.size 0 = σ3 at H Hcall
      generalize w.heap.size = p at H ⊢
      have e1 : w3.cell? ⟨p, 1, none⟩ = some (.int .i64 c) := by rw [H.out.2.2.1.1.cell]; rfl
      have e2 : w3.cell? ⟨p, 2, none⟩ = some (.slice A n cp) := by rw [H.out.2.2.1.1.cell]; rfl
      have e3 : w3.cell? ⟨p, 3, none⟩ = some (.int .i64 most) := by rw [H.out.2.2.1.1.cell]; rfl
      go_wp2_with fail
      refine Hcall.out.mono ?_
      rintro e w4 ⟨rfl, σ4, hA4, hc4⟩
      have HA := Lib.hid (And.intro hA4 hc4)
      clear e1 e2 e3 hA4 hc4
      go_wp2
      go_ret2
      exact ⟨by first | rfl | simp, σ4, HA.out.1, H.out.2.1.trans HA.out.2⟩
    · by_cases h3 : kd = 3
      · subst h3
        clear h1
        clear h2
        rw [show N.did ⟨3, c, A, n, cp, L, most⟩ = ((N.bring c most).2.1, zeros (N.bring c most).1.toNat, (N.bring c most).2.2) from rfl]
        have hcall := bring_c (w.alloc (.cells #[.int .i64 3, .int .i64 c, .slice A n cp, .int .i64 most] 49)) (K.upd σ w.heap.size 0) t g N H.out.1 Hmv.out c most Hok.out.wc
        obtain ⟨k, hk, hk2⟩ := bring_nat H.out.1.good c most
        obtain ⟨z, hz⟩ : ∃ z, (N.bring c most).2.1 = z := ⟨_, rfl⟩
        obtain ⟨N1, hN1⟩ : ∃ N1, (N.bring c most).2.2 = N1 := ⟨_, rfl⟩
        rw [hk, hz, hN1] at hcall ⊢
        rw [Int.toNat_natCast]
        clear hz hN1 hk
        have Hcall := Lib.hid hcall
        clear hcall
        go_enter Try.func34, Try.ntmps34
        go_upto_region 7 with fail
        generalize w.alloc (.cells #[.int .i64 3, .int .i64 c, .slice A n cp, .int .i64 most] 49) = w3 at H Hcall ⊢
        generalize K.upd σ w.heap.size 0 = σ3 at H Hcall
        generalize w.heap.size = p at H ⊢
        have e1 : w3.cell? ⟨p, 1, none⟩ = some (.int .i64 c) := by rw [H.out.2.2.1.1.cell]; rfl
        have e2 : w3.cell? ⟨p, 2, none⟩ = some (.slice A n cp) := by rw [H.out.2.2.1.1.cell]; rfl
        have e3 : w3.cell? ⟨p, 3, none⟩ = some (.int .i64 most) := by rw [H.out.2.2.1.1.cell]; rfl
        go_wp2_with fail
        refine Hcall.out.mono ?_
        rintro e w4 ⟨rfl, σ4, hA4, hc4⟩
        have HA := Lib.hid (And.intro hA4 hc4)
        have hmk := fun W => make_c k (by omega) W
        have hcv := fun W => conv_reads (cp := k) (zeros_length k) (made_reads W k)
        have hal : Below w4.heap.size w4 (w4.alloc (.cells (madeCells #[.int .u8 0] k) 5)) := (Below.refl _ _).alloc (Nat.le_refl _) _
        have hcd := conv_reads (cp := k) (zeros_length k) ((made_reads w4 k).below ((Below.refl _ _).drew))
        have Hal := Lib.hid hal
        clear e1 e2 e3 hA4 hc4 hal
        go_wp2_with fail
        go_region
        all_goals
          go_wp2
          go_ret2
          exact ⟨by first | rfl | simp, σ4, HA.out.1.below Hal.out.drew, (H.out.2.1.trans HA.out.2).below Hal.out.drew⟩
      · by_cases h4 : kd = 4
        · subst h4
          clear h1
          clear h2
          clear h3
          rw [show N.did ⟨4, c, A, n, cp, L, most⟩ = ((N.take c).2.1, (N.take c).1, (N.take c).2.2) from rfl]
          have hcall := take_n (w.alloc (.cells #[.int .i64 4, .int .i64 c, .slice A n cp, .int .i64 most] 49)) (K.upd σ w.heap.size 0) t g N H.out.1 c Hok.out.wc
          obtain ⟨z, hz⟩ : ∃ z, (N.take c).2.1 = z := ⟨_, rfl⟩
          obtain ⟨M, hM⟩ : ∃ M, (N.take c).1 = M := ⟨_, rfl⟩
          obtain ⟨N1, hN1⟩ : ∃ N1, (N.take c).2.2 = N1 := ⟨_, rfl⟩
          rw [hz, hM, hN1] at hcall ⊢
          clear hz hM hN1
          have Hcall := Lib.hid hcall
          clear hcall
          go_enter Try.func34, Try.ntmps34
          go_upto_region 10 with fail
          generalize w.alloc (.cells #[.int .i64 4, .int .i64 c, .slice A n cp, .int .i64 most] 49) = w3 at H Hcall ⊢
          generalize K.upd σ w.heap.size 0 = σ3 at H Hcall
          generalize w.heap.size = p at H ⊢
          have e1 : w3.cell? ⟨p, 1, none⟩ = some (.int .i64 c) := by rw [H.out.2.2.1.1.cell]; rfl
          have e2 : w3.cell? ⟨p, 2, none⟩ = some (.slice A n cp) := by rw [H.out.2.2.1.1.cell]; rfl
          have e3 : w3.cell? ⟨p, 3, none⟩ = some (.int .i64 most) := by rw [H.out.2.2.1.1.cell]; rfl
          go_wp2_with fail
          refine Hcall.out.mono ?_
          rintro e w4 ⟨v, rfl, σ4, hA4, hc4, hr, -⟩
          have HA := Lib.hid (And.intro hA4 hc4)
          obtain ⟨V, cv, rfl⟩ := own_slice hr.1
          have hcv := conv_reads (cp := cv) (n := M.length) rfl (Reads.of_row hr.1)
          have hcd := conv_reads (cp := cv) (n := M.length) rfl ((Reads.of_row hr.1).below ((Below.refl _ _).drew))
          clear e1 e2 e3 hA4 hc4 hr
          go_wp2_with fail
          go_region
          all_goals
            go_wp2
            go_ret2
            exact ⟨by first | rfl | simp, σ4, HA.out.1.below (Below.refl _ _).drew, (H.out.2.1.trans HA.out.2).below (Below.refl _ _).drew⟩
        · by_cases h5 : kd = 5
          · subst h5
            clear h1
            clear h2
            clear h3
            clear h4
            rw [show N.did ⟨5, c, A, n, cp, L, most⟩ = ((N.write c L).2.1, zeros (N.write c L).1.toNat, (N.write c L).2.2) from rfl]
            have hcall := write_c (w.alloc (.cells #[.int .i64 5, .int .i64 c, .slice A n cp, .int .i64 most] 49)) (K.upd σ w.heap.size 0) t g N H.out.1 c Hok.out.wc A n cp L Hok.out.len Hok.out.lim Hok.out.cap H.out.2.2.2
            obtain ⟨k, hk, hk2⟩ := write_nat H.out.1.good c L
            obtain ⟨z, hz⟩ : ∃ z, (N.write c L).2.1 = z := ⟨_, rfl⟩
            obtain ⟨N1, hN1⟩ : ∃ N1, (N.write c L).2.2 = N1 := ⟨_, rfl⟩
            rw [hk, hz, hN1] at hcall ⊢
            rw [Int.toNat_natCast]
            clear hz hN1 hk
            have Hcall := Lib.hid hcall
            clear hcall
            go_enter Try.func34, Try.ntmps34
            go_upto_region 13 with fail
            generalize w.alloc (.cells #[.int .i64 5, .int .i64 c, .slice A n cp, .int .i64 most] 49) = w3 at H Hcall ⊢
            generalize K.upd σ w.heap.size 0 = σ3 at H Hcall
            generalize w.heap.size = p at H ⊢
            have e1 : w3.cell? ⟨p, 1, none⟩ = some (.int .i64 c) := by rw [H.out.2.2.1.1.cell]; rfl
            have e2 : w3.cell? ⟨p, 2, none⟩ = some (.slice A n cp) := by rw [H.out.2.2.1.1.cell]; rfl
            have e3 : w3.cell? ⟨p, 3, none⟩ = some (.int .i64 most) := by rw [H.out.2.2.1.1.cell]; rfl
            go_wp2_with fail
            refine Hcall.out.mono ?_
            rintro e w4 ⟨rfl, σ4, hA4, hc4⟩
            have HA := Lib.hid (And.intro hA4 hc4)
            have hmk := fun W => make_c k (by omega) W
            have hcv := fun W => conv_reads (cp := k) (zeros_length k) (made_reads W k)
            have hal : Below w4.heap.size w4 (w4.alloc (.cells (madeCells #[.int .u8 0] k) 5)) := (Below.refl _ _).alloc (Nat.le_refl _) _
            have hcd := conv_reads (cp := k) (zeros_length k) ((made_reads w4 k).below ((Below.refl _ _).drew))
            have Hal := Lib.hid hal
            clear e1 e2 e3 hA4 hc4 hal
            go_wp2_with fail
            go_region
            all_goals
              go_wp2
              go_ret2
              exact ⟨by first | rfl | simp, σ4, HA.out.1.below Hal.out.drew, (H.out.2.1.trans HA.out.2).below Hal.out.drew⟩
          · by_cases h6 : kd = 6
            · subst h6
              clear h1
              clear h2
              clear h3
              clear h4
              clear h5
              rw [show N.did ⟨6, c, A, n, cp, L, most⟩ = ((N.fetch c most).2.1, zeros (N.fetch c most).1.toNat, (N.fetch c most).2.2) from rfl]
              have hcall := fetch_c (w.alloc (.cells #[.int .i64 6, .int .i64 c, .slice A n cp, .int .i64 most] 49)) (K.upd σ w.heap.size 0) t g N H.out.1 Hmv.out c most Hok.out.wc
              obtain ⟨k, hk, hk2⟩ := fetch_nat H.out.1.good c most
              obtain ⟨z, hz⟩ : ∃ z, (N.fetch c most).2.1 = z := ⟨_, rfl⟩
              obtain ⟨N1, hN1⟩ : ∃ N1, (N.fetch c most).2.2 = N1 := ⟨_, rfl⟩
              rw [hk, hz, hN1] at hcall ⊢
              rw [Int.toNat_natCast]
              clear hz hN1 hk
              have Hcall := Lib.hid hcall
              clear hcall
              go_enter Try.func34, Try.ntmps34
              go_upto_region 16 with fail
              generalize w.alloc (.cells #[.int .i64 6, .int .i64 c, .slice A n cp, .int .i64 most] 49) = w3 at H Hcall ⊢
              generalize K.upd σ w.heap.size 0 = σ3 at H Hcall
              generalize w.heap.size = p at H ⊢
              have e1 : w3.cell? ⟨p, 1, none⟩ = some (.int .i64 c) := by rw [H.out.2.2.1.1.cell]; rfl
              have e2 : w3.cell? ⟨p, 2, none⟩ = some (.slice A n cp) := by rw [H.out.2.2.1.1.cell]; rfl
              have e3 : w3.cell? ⟨p, 3, none⟩ = some (.int .i64 most) := by rw [H.out.2.2.1.1.cell]; rfl
              go_wp2_with fail
              refine Hcall.out.mono ?_
              rintro e w4 ⟨rfl, σ4, hA4, hc4⟩
              have HA := Lib.hid (And.intro hA4 hc4)
              have hmk := fun W => make_c k (by omega) W
              have hcv := fun W => conv_reads (cp := k) (zeros_length k) (made_reads W k)
              have hal : Below w4.heap.size w4 (w4.alloc (.cells (madeCells #[.int .u8 0] k) 5)) := (Below.refl _ _).alloc (Nat.le_refl _) _
              have hcd := conv_reads (cp := k) (zeros_length k) ((made_reads w4 k).below ((Below.refl _ _).drew))
              have Hal := Lib.hid hal
              clear e1 e2 e3 hA4 hc4 hal
              go_wp2_with fail
              go_region
              all_goals
                go_wp2
                go_ret2
                exact ⟨by first | rfl | simp, σ4, HA.out.1.below Hal.out.drew, (H.out.2.1.trans HA.out.2).below Hal.out.drew⟩
            · by_cases h7 : kd = 7
              · subst h7
                clear h1
                clear h2
                clear h3
                clear h4
                clear h5
                clear h6
                rw [show N.did ⟨7, c, A, n, cp, L, most⟩ = ((N.close c).1, [], (N.close c).2) from rfl]
                have hcall := close_c (w.alloc (.cells #[.int .i64 7, .int .i64 c, .slice A n cp, .int .i64 most] 49)) (K.upd σ w.heap.size 0) t g N H.out.1 c Hok.out.wc
                obtain ⟨z, hz⟩ : ∃ z, (N.close c).1 = z := ⟨_, rfl⟩
                obtain ⟨N1, hN1⟩ : ∃ N1, (N.close c).2 = N1 := ⟨_, rfl⟩
                rw [hz, hN1] at hcall ⊢
                rw [str_nil]
                clear hz hN1
                have Hcall := Lib.hid hcall
                clear hcall
                go_enter Try.func34, Try.ntmps34
                go_upto_region 19 with fail
                generalize w.alloc (.cells #[.int .i64 7, .int .i64 c, .slice A n cp, .int .i64 most] 49) = w3 at H Hcall ⊢
                generalize K.upd σ w.heap.size 0 = σ3 at H Hcall
                generalize w.heap.size = p at H ⊢
                have e1 : w3.cell? ⟨p, 1, none⟩ = some (.int .i64 c) := by rw [H.out.2.2.1.1.cell]; rfl
                have e2 : w3.cell? ⟨p, 2, none⟩ = some (.slice A n cp) := by rw [H.out.2.2.1.1.cell]; rfl
                have e3 : w3.cell? ⟨p, 3, none⟩ = some (.int .i64 most) := by rw [H.out.2.2.1.1.cell]; rfl
                go_wp2_with fail
                refine Hcall.out.mono ?_
                rintro e w4 ⟨rfl, σ4, hA4, hc4⟩
                have HA := Lib.hid (And.intro hA4 hc4)
                clear e1 e2 e3 hA4 hc4
                go_wp2
                go_ret2
                exact ⟨by first | rfl | simp, σ4, HA.out.1, H.out.2.1.trans HA.out.2⟩
              · by_cases h8 : kd = 8
                · subst h8
                  clear h1
                  clear h2
                  clear h3
                  clear h4
                  clear h5
                  clear h6
                  clear h7
                  rw [show N.did ⟨8, c, A, n, cp, L, most⟩ = ((N.cut_ c).1, [], (N.cut_ c).2) from rfl]
                  have hcall := cut_c (w.alloc (.cells #[.int .i64 8, .int .i64 c, .slice A n cp, .int .i64 most] 49)) (K.upd σ w.heap.size 0) t g N H.out.1 c Hok.out.wc
                  obtain ⟨z, hz⟩ : ∃ z, (N.cut_ c).1 = z := ⟨_, rfl⟩
                  obtain ⟨N1, hN1⟩ : ∃ N1, (N.cut_ c).2 = N1 := ⟨_, rfl⟩
                  rw [hz, hN1] at hcall ⊢
                  rw [str_nil]
                  clear hz hN1
                  have Hcall := Lib.hid hcall
                  clear hcall
                  go_enter Try.func34, Try.ntmps34
                  go_upto_region 21 with fail
                  generalize w.alloc (.cells #[.int .i64 8, .int .i64 c, .slice A n cp, .int .i64 most] 49) = w3 at H Hcall ⊢
                  generalize K.upd σ w.heap.size 0 = σ3 at H Hcall
                  generalize w.heap.size = p at H ⊢
                  have e1 : w3.cell? ⟨p, 1, none⟩ = some (.int .i64 c) := by rw [H.out.2.2.1.1.cell]; rfl
                  have e2 : w3.cell? ⟨p, 2, none⟩ = some (.slice A n cp) := by rw [H.out.2.2.1.1.cell]; rfl
                  have e3 : w3.cell? ⟨p, 3, none⟩ = some (.int .i64 most) := by rw [H.out.2.2.1.1.cell]; rfl
                  go_wp2_with fail
                  refine Hcall.out.mono ?_
                  rintro e w4 ⟨rfl, σ4, hA4, hc4⟩
                  have HA := Lib.hid (And.intro hA4 hc4)
                  clear e1 e2 e3 hA4 hc4
                  go_wp2
                  go_ret2
                  exact ⟨by first | rfl | simp, σ4, HA.out.1, H.out.2.1.trans HA.out.2⟩
                · have b1 : (kd == 1) = false := by simpa using h1
                  have b2 : (kd == 2) = false := by simpa using h2
                  have b3 : (kd == 3) = false := by simpa using h3
                  have b4 : (kd == 4) = false := by simpa using h4
                  have b5 : (kd == 5) = false := by simpa using h5
                  have b6 : (kd == 6) = false := by simpa using h6
                  have b7 : (kd == 7) = false := by simpa using h7
                  have b8 : (kd == 8) = false := by simpa using h8
                  have hd : N.did ⟨kd, c, A, n, cp, L, most⟩ = (0, [], N) := by
                    unfold NS.did
                    simp only [h1, h2, h3, h4, h5, h6, h7, h8, if_false]
                  rw [hd, str_nil]
                  clear hd
                  go_enter Try.func34, Try.ntmps34
                  go_wp2
                  go_ret2
                  exact ⟨by first | rfl | simp, _, H.out.1, H.out.2.1⟩
end Go.Proofs.Ytalabfbnbiagiaa.C
