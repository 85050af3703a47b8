/-
  among: cells among others.
-/
import Derived.Test.YtdnamidhbloaoaaOwn
import Derived.BigRegion
import Derived.BigQuiet
import Derived.Deep.QuietTactic
import Derived.LoopTactic
set_option linter.unusedVariables false
set_option linter.unusedSimpArgs false
namespace Go.Proofs.Ytdnamidhbloaoaa.Mark
open Go.RowKit Go.Proofs.Ytdnamidhbloaoaa.K
attribute [local go_sem ↓] Go.wp_at_zero Go.wp_at_succ

theorem cellVs_at (l : List (Nat × Int)) : ∀ i (h : i < l.length), (cellVs l)[i * 3]? = some (.int .i64 l[i].1) ∧ (cellVs l)[i * 3 + 1]? = some (.string ⟨#[]⟩) ∧ (cellVs l)[i * 3 + 2]? = some (.int .i64 l[i].2) := by
  induction l with
  | nil => intro i h; simp at h
  | cons c l ih =>
    intro i h
    have e : cellVs (c :: l) = .int .i64 c.1 :: .string ⟨#[]⟩ :: .int .i64 c.2 :: cellVs l := rfl
    rcases i with _ | i
    · rw [e]; exact ⟨rfl, rfl, rfl⟩
    · have hl : i < l.length := by simpa using h
      obtain ⟨h0, h1, h2⟩ := ih i hl
      rw [e, show (i + 1) * 3 = i * 3 + 1 + 1 + 1 by omega, show i * 3 + 1 + 1 + 1 + 1 = (i * 3 + 1) + 1 + 1 + 1 by omega, show i * 3 + 1 + 1 + 1 + 2 = (i * 3 + 2) + 1 + 1 + 1 by omega]
      simp only [List.getElem?_cons_succ, List.getElem_cons_succ]
      exact ⟨h0, h1, h2⟩
theorem mem_take_succ' (l : List (Nat × Int)) (x : Nat × Int) (i : Nat) (h : i < l.length) : x ∈ l.take (i + 1) ↔ x ∈ l.take i ∨ x = l[i] := by
  rw [List.take_succ_eq_append_getElem h, List.mem_append, List.mem_singleton]

set_option maxRecDepth 100000 in
set_option maxHeartbeats 3200000 in
theorem among_c (w : World) (B B' : Nat) (v v' : Value) (l la : List (Nat × Int)) (n m : Nat) (hn : l.length = n) (hm : la.length = m) (h1000 : n ≤ 1000) (h1001 : m ≤ 1000) (hsub : ∀ c ∈ l, c ∈ la)
    (h0 : w.ownsRow B 63 3 v n (cellVs l)) (h1 : w.ownsRow B' 63 3 v' m (cellVs la)) :
    Calls Try.prog 29 #[v, v'] w fun e w' => e = .returned (.bool true) ∧ Below w.heap.size w w' := by
  obtain ⟨A, ca, rfl⟩ := own_slice h0
  obtain ⟨A', ca', rfl⟩ := own_slice h1
  have Hn := Lib.hid hn
  have Hm := Lib.hid hm
  have Hsub := Lib.hid hsub
  have H0 := Lib.hid h0
  have H1 := Lib.hid h1
  clear hn hm hsub h0 h1
  go_enter Try.func29, Try.ntmps29
  go_wp2_with fail
  go_loopw [5] (fun i wr => ∃ k : Nat, k ≤ n ∧ i = .int .i64 k ∧ Below w.heap.size w wr) (fun i _ => n - (intOf i).toNat)
  case atStart => exact ⟨0, Nat.zero_le _, rfl, Below.refl _ _⟩
  case round =>
    obtain ⟨k, hk, rfl, hb⟩ := hrel
    by_cases hkn : k < n
    · have hk1 : (k : Int) < (n : Int) := by omega
      have hk0 : (0 : Int) ≤ (k : Int) := by omega
      have hkl : k < l.length := by rw [Hn.out]; exact hkn
      obtain ⟨ga, ca2, e, _, hga⟩ := own_form H0.out (by omega)
      cases e
      obtain ⟨x0, x1, x2⟩ := cellVs_at l k hkl
      obtain ⟨c, hc⟩ : ∃ c, l[k] = c := ⟨_, rfl⟩
      rw [hc] at x0 x2
      have hmem : c ∈ la := Hsub.out c (by rw [← hc]; exact List.getElem_mem hkl)
      have y0 : ∀ W, Below w.heap.size w W → W.cell? ⟨ga, k * 3, none⟩ = some (.int .i64 c.1) ∧ W.cell? ⟨ga, k * 3 + 1, none⟩ = some (.string ⟨#[]⟩) ∧ W.cell? ⟨ga, k * 3 + 2, none⟩ = some (.int .i64 c.2) := fun W hW =>
        ⟨(hW.cell (p := ⟨ga, k * 3, none⟩) hga).trans ((World.ownsRow.cellAt H0.out (k * 3) (by omega)).trans x0), (hW.cell (p := ⟨ga, k * 3 + 1, none⟩) hga).trans ((World.ownsRow.cellAt H0.out (k * 3 + 1) (by omega)).trans x1), (hW.cell (p := ⟨ga, k * 3 + 2, none⟩) hga).trans ((World.ownsRow.cellAt H0.out (k * 3 + 2) (by omega)).trans x2)⟩
      have Y0 := Lib.hid y0
      have Hmem := Lib.hid hmem
      obtain ⟨c1, c2⟩ := c
      dsimp only at Y0
      clear x0 x1 x2 hc y0 hmem
      go_wp2_with fail
      go_loopw [6, 7] (fun z i wz => ∃ (j : Nat) (b : Bool), j ≤ m ∧ i = .int .i64 j ∧ z = .bool b ∧ b = decide (((c1, c2) : Nat × Int) ∈ la.take j) ∧ Below w.heap.size w wz) (fun _ i _ => m - (intOf i).toNat)
      case atStart => exact ⟨0, false, Nat.zero_le _, rfl, rfl, by simp, hb⟩
      case round =>
        clear hb
        obtain ⟨j, b, hj, rfl, rfl, hbe, hb⟩ := hrel
        by_cases hjm : j < m
        · have hj1 : (j : Int) < (m : Int) := by omega
          have hj0 : (0 : Int) ≤ (j : Int) := by omega
          have hjl : j < la.length := by rw [Hm.out]; exact hjm
          obtain ⟨gb, cb2, e, _, hgb⟩ := own_form H1.out (by omega)
          cases e
          obtain ⟨x0, x1, x2⟩ := cellVs_at la j hjl
          obtain ⟨z0, z1, z2⟩ := Y0.out wr hb
          have hts := mem_take_succ' la (c1, c2) j hjl
          obtain ⟨d, hd⟩ : ∃ d, la[j] = d := ⟨_, rfl⟩
          rw [hd] at x0 x2 hts
          have q0 : wr.cell? ⟨gb, j * 3, none⟩ = some (.int .i64 d.1) := (hb.cell (p := ⟨gb, j * 3, none⟩) hgb).trans ((World.ownsRow.cellAt H1.out (j * 3) (by omega)).trans x0)
          have q1 : wr.cell? ⟨gb, j * 3 + 1, none⟩ = some (.string ⟨#[]⟩) := (hb.cell (p := ⟨gb, j * 3 + 1, none⟩) hgb).trans ((World.ownsRow.cellAt H1.out (j * 3 + 1) (by omega)).trans x1)
          have q2 : wr.cell? ⟨gb, j * 3 + 2, none⟩ = some (.int .i64 d.2) := (hb.cell (p := ⟨gb, j * 3 + 2, none⟩) hgb).trans ((World.ownsRow.cellAt H1.out (j * 3 + 2) (by omega)).trans x2)
          obtain ⟨d1, d2⟩ := d
          dsimp only at q0 q2
          have Hts := Lib.hid hts
          have HB := Lib.hid (And.intro hb hbe)
          clear x0 x1 x2 hd hts hb hbe
          rcases b with _ | _
          · by_cases hq : c1 = d1 ∧ c2 = d2
            · obtain ⟨rfl, rfl⟩ := hq
              go_wp2_with fail
              go_quiet (fail)
              go_wp2
              go_roundw
              case rel => exact ⟨j + 1, true, by omega, by go_num, by first | rfl | simp, by symm; rw [decide_eq_true_eq, Hts.out]; exact .inr (by first | trivial | rfl), below_drewN HB.out.1 _⟩
              case measure => simp [intOf]; omega
            · have hne : ¬ (((c1, c2) : Nat × Int) = (d1, d2)) := fun e => hq (by cases e; exact ⟨rfl, rfl⟩)
              have Hne := Lib.hid hne
              clear hne
              by_cases hq1 : (d1 : Int) = (c1 : Int)
              · have hq2 : ¬ d2 = c2 := fun e => hq ⟨by omega, e.symm⟩
                have g2 : (d2 == c2) = false := by simpa using hq2
                have g1 : ((d1 : Int) == (c1 : Int)) = true := by simpa using hq1
                clear hq
                go_wp2_with fail
                go_quiet (fail)
                go_wp2
                go_roundw
                case rel => exact ⟨j + 1, false, by omega, by go_num, by first | rfl | simp, by symm; rw [decide_eq_false_iff_not, Hts.out]; rintro (h | h); exact (by have := HB.out.2; simp [h] at this); exact Hne.out h, below_drewN HB.out.1 _⟩
                case measure => simp [intOf]; omega
              · have g1 : ((d1 : Int) == (c1 : Int)) = false := by simpa using hq1
                clear hq
                go_wp2_with fail
                go_quiet (fail)
                go_wp2
                go_roundw
                case rel => exact ⟨j + 1, false, by omega, by go_num, by first | rfl | simp, by symm; rw [decide_eq_false_iff_not, Hts.out]; rintro (h | h); exact (by have := HB.out.2; simp [h] at this); exact Hne.out h, below_drewN HB.out.1 _⟩
                case measure => simp [intOf]; omega
          · go_wp2_with fail
            go_quiet (fail)
            go_wp2
            go_roundw
            case rel => exact ⟨j + 1, true, by omega, by go_num, by first | rfl | simp, by symm; rw [decide_eq_true_eq, Hts.out]; exact .inl (by have := HB.out.2; simpa using this.symm), below_drewN HB.out.1 _⟩
            case measure => simp [intOf]; omega
        · obtain rfl : j = m := by omega
          have hb1 : b = true := by rw [hbe, ← Hm.out, List.take_length]; simpa using Hmem.out
          subst hb1
          clear hbe
          go_wp2_with fail
          go_roundw
          case rel => exact ⟨k + 1, by omega, by go_num, hb⟩
          case measure => simp [intOf]; omega
    · have hk1 : ¬ (k : Int) < (n : Int) := by omega
      go_wp2
      go_ret
      exact ⟨rfl, hb⟩
end Go.Proofs.Ytdnamidhbloaoaa.Mark
