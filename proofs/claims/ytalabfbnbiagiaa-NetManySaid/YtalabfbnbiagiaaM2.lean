/-
  NetMany: bytes of a connection.
-/
import Derived.Test.YtalabfbnbiagiaaM1
import Derived.Test.YtalabfbnbiagiaaQ1
set_option linter.unusedVariables false
set_option linter.unusedSimpArgs false
namespace Go.Proofs.Ytalabfbnbiagiaa.C
open Go.RowKit Go.Proofs.Ytalabfbnbiagiaa.K

set_option maxRecDepth 100000 in
theorem bytes_c (w : World) (c long : Nat) (hc : c ≤ 200) (hl : long ≤ 60) :
    Calls Try.prog 28 #[.int .i64 c, .int .i64 long] w fun e w' => ∃ v, e = .returned v ∧ Below w.heap.size w w' ∧ w'.ownsRow w.heap.size 5 1 v long (bs (byt c long)) := by
  obtain ⟨i1, hi1, hy0, hy1, hy2⟩ := info_parts info5'
  have HI := Lib.hid (And.intro hi1 (And.intro hy0 (And.intro hy1 hy2)))
  clear hi1 hy0 hy1 hy2
  go_enter Try.func28, Try.ntmps28
  go_wp2_with fail
  go_loopw [5, 6] (fun u i wr => ∃ k : Nat, k ≤ long ∧ i = .int .i64 k ∧ wr.ownsRow w.heap.size 5 1 u k (bs (byt c k)) ∧ Below w.heap.size w wr) (fun _ i _ => long - (intOf i).toNat)
  case atStart => exact ⟨0, Nat.zero_le _, rfl, World.ownsRow_nil _ _ _ _, Below.refl _ _⟩
  case round =>
    obtain ⟨k, hk, rfl, hu, hb⟩ := hrel
    obtain ⟨Au, cu, rfl⟩ := own_slice hu
    have HU := Lib.hid (And.intro hu hb)
    clear hu hb
    by_cases hkl : k < long
    · have k1 : (k : Int) < (long : Int) := by omega
      have q0 : (0 : Int) ≤ (k : Int) * (k : Int) := Int.mul_nonneg (by omega) (by omega)
      have q1 : (k : Int) * (k : Int) ≤ 3600 := Int.le_trans (Int.mul_le_mul (show (k : Int) ≤ 60 by omega) (show (k : Int) ≤ 60 by omega) (by omega) (by decide)) (by decide)
      obtain ⟨hi1, hy0, hy1, hy2⟩ := HI.out
      have hsu := byt_succ c k
      have Hsu := Lib.hid hsu
      clear hsu
      go_wp2_with (at_builtin; refine wpList_append_reads (by rfl) _ _ 29 (by rfl) w.heap.size 5 i1 _ 1 1 Try.underlying29 hi1 hy0 hy1 hy2 rfl (by omega) (.slice Au k cu) k (bs (byt c k)) (by rfl) ?c0 (some ⟨wr.heap.size, 0, none⟩) 1 1 (bs [IntKind.u8.wrap ((c : Int) * 7 + (k : Int) * (k : Int))]) (by rfl) rfl ?c2 (bs_one _) ?c4 ?c5 ?c6 ?_)
      case c0 => exact own_below HU.out.1 ((Below.refl _ _).alloc (Nat.le_refl _) _)
      case c2 =>
        have := reads_new wr #[.int .u8 (IntKind.u8.wrap ((c : Int) * 7 + (k : Int) * (k : Int)))] 5
        exact this
      case c4 => unfold maxLen; omega
      case c5 => omega
      case c6 => have := HU.out.2.size; simp; omega
      intro v' w9 hown9 hgrow hat
      have hb9 : Below w.heap.size w w9 := (HU.out.2.alloc HU.out.2.size _).grown hgrow (by have := HU.out.2.size; simp; omega) (fun x e => (HU.out.1.lt x e).1)
      have hown : w9.ownsRow w.heap.size 5 1 v' (k + 1) (bs (byt c (k + 1))) := by rw [Hsu.out, bs_append]; exact hown9
      have HR := Lib.hid (And.intro hown hb9)
      clear hat hgrow hown9 hown hb9 hi1 hy0 hy1 hy2
      go_wp2
      go_roundw
      case rel => exact ⟨k + 1, by omega, by go_num, HR.out.1, HR.out.2⟩
      case measure => simp [intOf]; omega
    · have k1 : ¬ (k : Int) < (long : Int) := by omega
      obtain rfl : long = k := by omega
      go_wp2
      go_ret
      exact ⟨_, rfl, HU.out.2, HU.out.1⟩
end Go.Proofs.Ytalabfbnbiagiaa.C
