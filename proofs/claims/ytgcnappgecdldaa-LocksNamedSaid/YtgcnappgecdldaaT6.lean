/-
  Locks: meets: two rising sets.
-/
import Derived.Test.YtgcnappgecdldaaT5
set_option linter.unusedVariables false
set_option linter.unusedSimpArgs false
namespace Go.Proofs.Ytgcnappgecdldaa.C
open Go.RowKit Go.Proofs.Ytgcnappgecdldaa.K Go.Maps

def Rise (L : List (Int × Bool)) : Prop := L.Pairwise fun p q => p.1 < q.1
/-- Two lists of locks conflict. -/
def CL (P Q : List (Int × Bool)) : Prop := ∃ p ∈ P, ∃ q ∈ Q, p.1 = q.1 ∧ ¬(p.2 = true ∧ q.2 = true)
theorem CL_nil1 (Q : List (Int × Bool)) : ¬ CL [] Q := fun ⟨p, hp, _⟩ => by simp at hp
theorem CL_nil2 (P : List (Int × Bool)) : ¬ CL P [] := fun ⟨p, _, q, hq, _⟩ => by simp at hq
theorem CL_left {p q : Int × Bool} {P Q : List (Int × Bool)} (h : p.1 < q.1) (hq : Rise (q :: Q)) : CL (p :: P) (q :: Q) ↔ CL P (q :: Q) := by
  constructor
  · rintro ⟨x, hx, y, hy, he, hn⟩
    rcases List.mem_cons.1 hx with rfl | hx
    · rcases List.mem_cons.1 hy with rfl | hy
      · omega
      · have := (List.pairwise_cons.1 hq).1 y hy
        omega
    · exact ⟨x, hx, y, hy, he, hn⟩
  · rintro ⟨x, hx, y, hy, he, hn⟩
    exact ⟨x, List.mem_cons_of_mem _ hx, y, hy, he, hn⟩
theorem CL_comm (P Q : List (Int × Bool)) : CL P Q ↔ CL Q P := by
  constructor <;> rintro ⟨x, hx, y, hy, he, hn⟩ <;> exact ⟨y, hy, x, hx, he.symm, fun h => hn h.symm⟩
theorem CL_right {p q : Int × Bool} {P Q : List (Int × Bool)} (h : q.1 < p.1) (hp : Rise (p :: P)) : CL (p :: P) (q :: Q) ↔ CL (p :: P) Q := by
  rw [CL_comm, CL_left h hp, CL_comm]
theorem CL_both {p q : Int × Bool} {P Q : List (Int × Bool)} (h : p.1 = q.1) (h1 : p.2 = true) (h2 : q.2 = true) (hp : Rise (p :: P)) (hq : Rise (q :: Q)) : CL (p :: P) (q :: Q) ↔ CL P Q := by
  constructor
  · rintro ⟨x, hx, y, hy, he, hn⟩
    rcases List.mem_cons.1 hx with rfl | hx
    · rcases List.mem_cons.1 hy with rfl | hy
      · exact absurd ⟨h1, h2⟩ hn
      · have := (List.pairwise_cons.1 hq).1 y hy
        omega
    · rcases List.mem_cons.1 hy with rfl | hy
      · have := (List.pairwise_cons.1 hp).1 x hx
        omega
      · exact ⟨x, hx, y, hy, he, hn⟩
  · rintro ⟨x, hx, y, hy, he, hn⟩
    exact ⟨x, List.mem_cons_of_mem _ hx, y, List.mem_cons_of_mem _ hy, he, hn⟩
theorem CL_here {p q : Int × Bool} {P Q : List (Int × Bool)} (h : p.1 = q.1) (hn : ¬(p.2 = true ∧ q.2 = true)) : CL (p :: P) (q :: Q) := ⟨p, List.mem_cons_self .., q, List.mem_cons_self .., h, hn⟩
theorem Rise.drop {L : List (Int × Bool)} (h : Rise L) (i : Nat) : Rise (L.drop i) := List.Pairwise.sublist (List.drop_sublist _ _) h

set_option maxRecDepth 100000 in
set_option maxHeartbeats 1600000 in
theorem meets_q (w : World) (A A' : Option Addr) (n n' cp cp' : Nat) (L L' : List (Int × Bool)) (hl : L.length = n) (hl' : L'.length = n') (hn : n ≤ 1000000) (hn' : n' ≤ 1000000) (h : LksAt w A L) (h' : LksAt w A' L') (hr : Rise L) (hr' : Rise L') (r : Bool) (hres : r = true ↔ CL L L') :
    Calls Try.prog 14 #[.slice A n cp, .slice A' n' cp'] w fun e w' => e = .returned (.bool r) ∧ ∃ m, w' = w.drewN m := by
  have H := Lib.hid (And.intro h h')
  have Hl := Lib.hid (And.intro hl hl')
  have HR := Lib.hid (And.intro hr hr')
  have HE := Lib.hid hres
  clear h h' hl hl' hr hr' hres
  go_enter Try.func14, Try.ntmps14
  go_wp2_with fail
  go_loopw [5, 6] (fun x y wr => ∃ i j : Nat, i ≤ n ∧ j ≤ n' ∧ x = .int .i64 i ∧ y = .int .i64 j ∧ (CL L L' ↔ CL (L.drop i) (L'.drop j)) ∧ ∃ q, wr = w.drewN q) (fun x y _ => (n - (intOf x).toNat) + (n' - (intOf y).toNat))
  case atStart => exact ⟨0, 0, Nat.zero_le _, Nat.zero_le _, rfl, rfl, Iff.rfl, 0, rfl⟩
  case round =>
    obtain ⟨i, j, hi, hj, rfl, rfl, hc, q0, rfl⟩ := hrel
    have HC := Lib.hid hc
    have HB := Lib.hid (below_drewN (Below.refl w.heap.size w) q0)
    clear hc
    by_cases hin : i < n
    · by_cases hjn : j < n'
      · have k1 : (i : Int) < (n : Int) := by omega
        have k2 : (j : Int) < (n' : Int) := by omega
        have k3 : (0 : Int) ≤ (i : Int) := by omega
        have k4 : (0 : Int) ≤ (j : Int) := by omega
        have hil : i < L.length := by rw [Hl.out.1]; exact hin
        have hjl : j < L'.length := by rw [Hl.out.2]; exact hjn
        obtain ⟨ga, off, rfl, hga, hca⟩ := (H.out.1).at_ (by omega)
        obtain ⟨gb, off', rfl, hgb, hcb⟩ := (H.out.2).at_ (by omega)
        obtain ⟨d0, d1⟩ := hca i hil
        obtain ⟨e0, e1⟩ := hcb j hjl
        have hd1 : L.drop i = L[i] :: L.drop (i + 1) := List.drop_eq_getElem_cons hil
        have hd2 : L'.drop j = L'[j] :: L'.drop (j + 1) := List.drop_eq_getElem_cons hjl
        have hr1 := HR.out.1.drop i
        have hr2 := HR.out.2.drop j
        rw [hd1] at hr1
        rw [hd2] at hr2
        have hc := HC.out
        rw [hd1, hd2] at hc
        generalize L[i] = p at d0 d1 hr1 hc hd1
        generalize L'[j] = q at e0 e1 hr2 hc hd2
        obtain ⟨pn, ps⟩ := p
        obtain ⟨qn, qs⟩ := q
        dsimp only at d0 d1 e0 e1
        have HX := Lib.hid (And.intro hr1 (And.intro hr2 (And.intro hc (And.intro hd1 hd2))))
        clear hca hcb hd1 hd2 hr1 hr2 hc HC
        by_cases h1 : pn < qn
        · have HN := Lib.hid (HX.out.2.2.1.trans (CL_left (p := (pn, ps)) (q := (qn, qs)) h1 HX.out.2.1))
          go_wp2_with fail
          go_quiet (fail)
          go_wp2_with fail
          go_roundw
          case rel => exact ⟨i + 1, j, by omega, by omega, by go_num, by go_num, by rw [HX.out.2.2.2.2]; exact HN.out, by first | exact ⟨_, rfl⟩ | (simp only [World.drewN_drewN]; exact ⟨_, rfl⟩) | (simp; exact ⟨_, rfl⟩)⟩
          case measure => simp [intOf]; omega
        · by_cases h2 : qn < pn
          · have HN := Lib.hid (HX.out.2.2.1.trans (CL_right (p := (pn, ps)) (q := (qn, qs)) h2 HX.out.1))
            go_wp2_with fail
            go_quiet (fail)
            go_wp2_with fail
            go_quiet (fail)
            go_wp2_with fail
            go_roundw
            case rel => exact ⟨i, j + 1, by omega, by omega, by go_num, by go_num, by rw [HX.out.2.2.2.1]; exact HN.out, by first | exact ⟨_, rfl⟩ | (simp only [World.drewN_drewN]; exact ⟨_, rfl⟩) | (simp; exact ⟨_, rfl⟩)⟩
            case measure => simp [intOf]; omega
          · obtain rfl : pn = qn := by omega
            rcases ps with _ | _
            · obtain rfl : r = true := HE.out.2 (HX.out.2.2.1.2 (CL_here (p := (pn, false)) (q := (pn, qs)) rfl (by simp)))
              go_wp2_with fail
              go_quiet (fail)
              go_wp2_with fail
              go_quiet (fail)
              go_wp2_with fail
              go_ret
              exact ⟨rfl, by first | exact ⟨_, rfl⟩ | (simp only [World.drewN_drewN]; exact ⟨_, rfl⟩) | (simp; exact ⟨_, rfl⟩)⟩
            · rcases qs with _ | _
              · obtain rfl : r = true := HE.out.2 (HX.out.2.2.1.2 (CL_here (p := (pn, true)) (q := (pn, false)) rfl (by simp)))
                go_wp2_with fail
                go_quiet (fail)
                go_wp2_with fail
                go_quiet (fail)
                go_wp2_with fail
                go_ret
                exact ⟨rfl, by first | exact ⟨_, rfl⟩ | (simp only [World.drewN_drewN]; exact ⟨_, rfl⟩) | (simp; exact ⟨_, rfl⟩)⟩
              · have HN := Lib.hid (HX.out.2.2.1.trans (CL_both (p := (pn, true)) (q := (pn, true)) rfl rfl rfl HX.out.1 HX.out.2.1))
                go_wp2_with fail
                go_quiet (fail)
                go_wp2_with fail
                go_quiet (fail)
                go_wp2_with fail
                go_roundw
                case rel => exact ⟨i + 1, j + 1, by omega, by omega, by go_num, by go_num, HN.out, by first | exact ⟨_, rfl⟩ | (simp only [World.drewN_drewN]; exact ⟨_, rfl⟩) | (simp; exact ⟨_, rfl⟩)⟩
                case measure => simp [intOf]; omega
      · have k1 : (i : Int) < (n : Int) := by omega
        have k2 : ¬ (j : Int) < (n' : Int) := by omega
        have hf : r = false := by
          rcases hh : r with _ | _
          · rfl
          · have := HC.out.1 (HE.out.1 hh)
            rw [List.drop_eq_nil_of_le («as» := L') (by rw [Hl.out.2]; omega)] at this
            exact absurd this (CL_nil2 _)
        subst hf
        go_wp2_with fail
        go_ret
        exact ⟨rfl, q0, rfl⟩
    · have k1 : ¬ (i : Int) < (n : Int) := by omega
      have hf : r = false := by
        rcases hh : r with _ | _
        · rfl
        · have := HC.out.1 (HE.out.1 hh)
          rw [List.drop_eq_nil_of_le («as» := L) (by rw [Hl.out.1]; omega)] at this
          exact absurd this (CL_nil1 _)
      subst hf
      go_wp2_with fail
      go_ret
      exact ⟨rfl, q0, rfl⟩
theorem meets_c (w : World) (A A' : Option Addr) (n n' cp cp' : Nat) (L L' : List (Int × Bool)) (hl : L.length = n) (hl' : L'.length = n') (hn : n ≤ 1000000) (hn' : n' ≤ 1000000) (h : LksAt w A L) (h' : LksAt w A' L') (hr : Rise L) (hr' : Rise L') (r : Bool) (hres : r = true ↔ CL L L') :
    Calls Try.prog 14 #[.slice A n cp, .slice A' n' cp'] w fun e w' => e = .returned (.bool r) ∧ Below w.heap.size w w' := by
  refine (meets_q w A A' n n' cp cp' L L' hl hl' hn hn' h h' hr hr' r hres).mono ?_
  rintro e w' ⟨he, m, rfl⟩
  exact ⟨he, below_drewN (Below.refl _ _) m⟩
end Go.Proofs.Ytgcnappgecdldaa.C
