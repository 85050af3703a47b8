/-
  The document's operator; the two known calls.
-/
import Derived.Test.YtapninpdjccglaaG4
set_option linter.unusedVariables false
set_option linter.unusedSimpArgs false
namespace Go.Proofs.Ytapninpdjccglaa.C
open Go.RowKit Go.Proofs.Ytapninpdjccglaa.K

theorem operator_c (w : World) (s : ByteArray) (hs : s.size ≤ 140737488351232) (o : Nat) (h1 : 1 ≤ o) (h2 : o ≤ 64) : Calls Try.prog 15 #[.string s, .int .i64 o] w fun e w' => e = .returned (.int .i64 (rtN o s : Nat)) ∧ w = w' := by
  have hr := (rtN_eq o s h1 h2).1
  have hc := ref_hash w s hs
  obtain ⟨H, hH⟩ : ∃ H, hashL s.data.toList = H := ⟨_, rfl⟩
  rw [hH] at hr hc
  have Hr := Lib.hid hr
  have hwo : IntKind.u64.wrap (o : Int) = (o : Int) := by rw [IntKind.wrap_u64]; omega
  have hne : ¬ ((o : Int) = 0) := by omega
  have hne2 : ¬ (o = 0) := by omega
  clear hH hr hs
  go_enter Try.func15, Try.ntmps15
  go_wp2_with fail
  refine hc.mono ?_
  rintro e w1 ⟨rfl, rfl⟩
  go_wp2
  go_ret
  refine ⟨?_, rfl⟩
  rw [← Hr.out]
  unfold rt
  rw [show ∀ z : Int, IntKind.i64.wrap z = wrap64 z from fun z => by rw [IntKind.wrap_i64]; unfold wrap64; omega]
  rfl

def xc : It := ⟨false, ⟨#[99]⟩, 0, 3⟩
def xm : It := ⟨true, ⟨#[]⟩, 5, 0⟩
theorem may_c : May xc = 0 := by
  have h : ¬ (⟨#[99]⟩ : ByteArray).toList = [] := by
    rw [toList_nil_iff_emptyBytes]
    intro h
    have := congrArg ByteArray.size h
    cases this
  unfold May xc
  rw [if_neg (by rintro ⟨_, h1 | h1⟩; exact h h1; exact absurd h1 (by decide)), if_neg (by decide), if_neg (by rintro ⟨h1, _⟩; cases h1)]
theorem may_m : May xm = 0 := by
  have h : (⟨#[]⟩ : ByteArray).toList = [] := by rw [toList_nil_iff_emptyBytes]; rfl
  unfold May xm
  rw [if_neg (by rintro ⟨h1, _⟩; cases h1), if_neg (by decide), if_neg (by rintro ⟨_, h1 | h1⟩; exact h1 h; exact h1 rfl)]
def K0 : FS := FS.new 1 2 1
def K1 : FS := K0.putq 0 [xc]
def K2 : FS := K1.putq 0 [xc, xm]
def K3 : FS := ((K2.putb 0 [⟨0, xc⟩]).putq 0 [xm]).putto 0 0
def K4 : FS := K3.putb 0 []
theorem k1 : K0.put 0 xc = (0, K1) := by
  unfold FS.put
  rw [if_pos (by decide), if_pos may_c, if_neg (by decide)]
  rfl
theorem k2 : K1.put 0 xm = (0, K2) := by
  unfold FS.put
  rw [if_pos (by decide), if_pos may_m, if_neg (by decide)]
  rfl
theorem route_99 : rtN 2 ⟨#[99]⟩ = 0 := by decide +kernel
theorem route_97 : rtN 2 ⟨#[97]⟩ = 1 := by decide +kernel
theorem goes_c : K2.goes 0 xc = 0 := by
  unfold FS.goes
  rw [if_neg (by decide), show K2.o = 2 from rfl, show xc.key = ⟨#[99]⟩ from rfl]
  exact route_99
theorem k3 : K2.pass 0 = (0, 0, K3) := by
  unfold FS.pass
  rw [if_pos (by decide)]
  show (if (K2.b (K2.goes 0 xc)).length = K2.m then _ else _) = _
  rw [goes_c]
  rfl
theorem k3b : K3.pass 0 = (0, 45, K3) := by
  unfold FS.pass
  rw [if_pos (by decide)]
  rfl
theorem k4 : K3.take 0 = (0, xc, 0, K4) := by
  unfold FS.take
  rw [if_pos (by decide)]
  rfl
theorem k4b : K4.left = 1 := by rfl

theorem inv2 : FInv K2 := by
  have h0 : FInv K0 := FInv.new (s := 1) (o := 2) (m := 1) (by unfold okNew; decide)
  have h1 := h0.put 0 xc
  rw [k1] at h1
  have h2 := h1.put 0 xm
  rw [k2] at h2
  exact h2
theorem inv3 : FInv K3 := by
  have h := inv2.pass ⟨by decide, by decide, by decide, by decide, by decide, by decide, fun i _ => Nat.zero_le _, fun i hi => by
    have h1 : i < 1 := hi
    have h2 : i = 0 := by omega
    subst h2
    decide, fun i _ => Nat.zero_le _⟩ 0
  rw [k3] at h
  exact h

set_option maxRecDepth 100000 in
set_option maxHeartbeats 3200000 in
theorem known_c (w : World) : Calls Try.prog 9 #[] w fun e w' => e = .returned (.bool true) ∧ Below w.heap.size w w' := by
  go_enter Try.func9, Try.ntmps9
  go_wp2_with fail
  refine (new_yes w (fun _ => 0) 1000 1 2 1 (by unfold okNew; decide)).mono ?_
  rintro e w1 ⟨g, σ1, rfl, h1, c1, hg⟩
  have S1 := Lib.hid (And.intro h1 (c1.mono (S' := Of 1000) (fun _ h => h.elim)))
  clear h1 c1
  go_wp2_with fail
  refine (new_no w1 0 1 1 (by unfold okNew; decide)).mono ?_
  rintro e w2 ⟨rfl, rfl⟩
  go_wp2_with fail
  refine (put_any w1 σ1 1000 g K0 S1.out.1 0 xc).mono ?_
  rintro e w2 ⟨he, σ2, h2, c2⟩
  rw [k1] at he h2
  obtain rfl : e = .returned (.int .i64 0) := he
  have S2 := Lib.hid (And.intro h2 (S1.out.2.trans c2))
  clear h2 c2 S1
  go_wp2_with fail
  refine (put_any w2 σ2 1000 g K1 S2.out.1 0 xm).mono ?_
  rintro e w3 ⟨he, σ3, h3, c3⟩
  rw [k2] at he h3
  obtain rfl : e = .returned (.int .i64 0) := he
  have S3 := Lib.hid (And.intro h3 (S2.out.2.trans c3))
  clear h3 c3 S2
  go_wp2_with fail
  refine (queued_c w3 σ3 1000 g K2 S3.out.1 0 (by decide)).mono ?_
  rintro e w4 ⟨he, rfl⟩
  obtain rfl : e = .returned (.int .i64 2) := he
  go_wp2_with fail
  refine (route_c w3 σ3 1000 g K2 S3.out.1 ⟨#[99]⟩ (by decide)).mono ?_
  rintro e w4 ⟨he, hb4⟩
  obtain rfl : e = .returned (.int .i64 0) := by rw [he, show K2.o = 2 from rfl, route_99]; rfl
  have S4 := Lib.hid (And.intro (S3.out.1.below hb4) (S3.out.2.below hb4))
  clear hb4 he S3
  go_wp2_with fail
  refine (route_c w4 σ3 1000 g K2 S4.out.1 ⟨#[97]⟩ (by decide)).mono ?_
  rintro e w5 ⟨he, hb5⟩
  obtain rfl : e = .returned (.int .i64 1) := by rw [he, show K2.o = 2 from rfl, route_97]; rfl
  have S5 := Lib.hid (And.intro (S4.out.1.below hb5) (S4.out.2.below hb5))
  clear hb5 he S4
  go_wp2_with fail
  refine (pass_any w5 σ3 1000 g K2 S5.out.1 inv2.ok inv2.tz 0).mono ?_
  rintro e w6 ⟨he, σ6, h6, c6⟩
  rw [k3] at he h6
  obtain rfl : e = .returned (.tuple #[.int .i64 0, .int .i64 0]) := he
  have S6 := Lib.hid (And.intro h6 (S5.out.2.trans c6))
  clear h6 c6 S5
  go_wp2_with fail
  refine (pass_any w6 σ6 1000 g K3 S6.out.1 inv3.ok inv3.tz 0).mono ?_
  rintro e w7 ⟨he, σ7, h7, c7⟩
  rw [k3b] at he h7
  obtain rfl : e = .returned (.tuple #[.int .i64 0, .int .i64 45]) := he
  have S7 := Lib.hid (And.intro h7 (S6.out.2.trans c7))
  clear h7 c7 S6
  go_wp2_with fail
  refine (take_c w7 σ7 1000 g (by decide) K3 S7.out.1 0).mono ?_
  rintro e w8 ⟨he, σ8, h8, c8⟩
  rw [k4] at he h8
  obtain rfl : e = .returned (.tuple #[.int .i64 0, .agg #[.bool false, .string ⟨#[99]⟩, .int .i64 0, .int .i64 3], .int .i64 0]) := he
  have S8 := Lib.hid (And.intro h8 (S7.out.2.trans c8))
  clear h8 c8 S7
  go_wp2_with fail
  have hba : Below w8.heap.size w8 (w8.alloc (.cells #[.bool false, .string ⟨#[99]⟩, .int .i64 0, .int .i64 3] 33)) := (Below.refl _ _).alloc (Nat.le_refl _) _
  have S9 := Lib.hid (And.intro (S8.out.1.below hba) (S8.out.2.below hba))
  clear hba
  refine (boxed_c _ σ8 1000 g K4 S9.out.1 0 (by decide)).mono ?_
  rintro e w9 ⟨he, rfl⟩
  obtain rfl : e = .returned (.int .i64 0) := he
  go_wp2_with fail
  refine (empty_c _ σ8 1000 g K4 S9.out.1).mono ?_
  rintro e w9 ⟨he, hb9⟩
  obtain rfl : e = .returned (.bool false) := by rw [he, k4b]; rfl
  go_wp2
  go_ret
  have hc := S9.out.2.below hb9
  exact ⟨rfl, ⟨hc.os, hc.tape, hc.output, hc.size, fun b hb => hc.block b hb (by unfold Of; omega)⟩⟩
end Go.Proofs.Ytapninpdjccglaa.C
