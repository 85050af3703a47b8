/-
  inOrder.
-/
import Derived.Test.YtapninpdjccglaaOrderM
set_option linter.unusedVariables false
set_option linter.unusedSimpArgs false
namespace Go.Proofs.Ytapninpdjccglaa.C
open Go.RowKit Go.Proofs.Ytapninpdjccglaa.K

/-- A slice of n elements of m cells, to be read. -/
def Rd (w : World) (m : Nat) (A : Option Addr) (n : Nat) (f : Nat → List Value) : Prop :=
  0 < n → ∃ b off, A = some ⟨b, off, none⟩ ∧ b < w.heap.size ∧ ∀ i, i < n → ∀ c v, (f i)[c]? = some v → w.cell? ⟨b, off + (i * m + c), none⟩ = some v
theorem of_cons (i : Nat) (m : Ms) (L : List Ms) : of_ i (m :: L) = if m.src = (i : Int) then m.item :: of_ i L else of_ i L := by
  unfold of_
  rw [List.filter_cons]
  by_cases h : m.src = (i : Int) <;> simp [h]

set_option maxRecDepth 100000 in
set_option maxHeartbeats 3200000 in
theorem order_c (w : World) (σ : Nat → Nat) (t g : Nat) (F : FS) (hF : FlowAt w σ t g F) (nP nT : Nat) (p : Nat → It) (q : Nat → Ms) (hp : ∀ k, k < nP → ItOk (p k)) (A : Option Addr) (cA : Nat) (B : Option Addr) (cB : Nat)
    (hA : Rd w 4 A nP (fun k => it (p k))) (hB : Rd w 5 B nT (fun k => ms (q k))) (hcA : nP ≤ cA) (hcB : nT ≤ cB) (hmA : nP ≤ 1000000) (hmB : nT ≤ 1000000) (i j : Nat)
    (R : Nat → Nat → Prop) (h0 : R 0 0) (hskip : ∀ a k, k < nT → R a k → (q k).src ≠ (i : Int) → R a (k + 1))
    (hlt : ∀ a k, k < nT → R a k → (q k).src = (i : Int) → a < nP ∧ (if mine F.o j (p a) then p a = (q k).item ∧ R (a + 1) (k + 1) else R (a + 1) k))
    (hend : ∀ a, R a nT → a < nP → mine F.o j (p a) = false ∧ R (a + 1) nT) (hle : ∀ a k, R a k → a ≤ nP) :
    Calls Try.prog 21 #[.slice A nP cA, .slice B nT cB, .int .i64 i, .int .i64 j, .pointer (some ⟨g, 0, none⟩)] w fun e w' => e = .returned (.bool true) ∧ Below w.heap.size w w' := by
  have HA := Lib.hid (And.intro hA (And.intro hB (And.intro hF hp)))
  have HR := Lib.hid (And.intro hskip (And.intro hlt (And.intro hend hle)))
  have H0 := Lib.hid h0
  clear hA hB hF hskip hlt hend hle h0 hp
  go_enter Try.func21, Try.ntmps21
  go_wp2_with fail
  go_loopw [11, 12] (fun a k wr => ∃ a' k' : Nat, a = .int .i64 a' ∧ k = .int .i64 k' ∧ k' ≤ nT ∧ R a' k' ∧ Below w.heap.size w wr) (fun _ k _ => nT - (intOf k).toNat)
  case atStart => exact ⟨0, 0, rfl, rfl, Nat.zero_le _, H0.out, Below.refl _ _⟩
  case round =>
    clear H0
    obtain ⟨a, k, rfl, rfl, hk, hr, hb⟩ := hrel
    have Hr := Lib.hid hr
    have ha := HR.out.2.2.2 a k hr
    clear hr
    by_cases hkT : k < nT
    · obtain ⟨bB, oB, rfl, hbB, hcellB⟩ := HA.out.2.1 (by omega)
      have e0 := hcellB k hkT 0 _ rfl
      have d0 : wr.cell? ⟨bB, oB + k * 5, none⟩ = some (.int .i64 (q k).src) := (hb.cell (p := ⟨bB, oB + k * 5, none⟩) hbB).trans e0
      have HB := Lib.hid (And.intro hbB hcellB)
      clear e0 hcellB hbB
      have i0 : (k : Int) < (nT : Int) := by omega
      have i1 : (0 : Int) ≤ (k : Int) := by omega
      by_cases hs : (q k).src = (i : Int)
      · rw [hs] at d0
        go_wp2_with fail
        clear d0
        go_loopw [11] (fun a wr => ∃ a' : Nat, a = .int .i64 a' ∧ R a' k ∧ Below w.heap.size w wr) (fun a _ => nP - (intOf a).toNat)
        case atStart => exact ⟨a, rfl, Hr.out, hb⟩
        case round =>
          clear Hr hb ha
          obtain ⟨a, rfl, hr, hb⟩ := hrel
          obtain ⟨haP, hm⟩ := HR.out.2.1 a k hkT hr hs
          obtain ⟨bA, oA, rfl, hbA, hcellA⟩ := HA.out.1 (by omega)
          have HAA : Hid (∀ c v, (it (p a))[c]? = some v → w.cell? ⟨bA, oA + (a * 4 + c), none⟩ = some v) := hcellA a haP
          have HBB : Hid (∀ c v, (ms (q k))[c]? = some v → w.cell? ⟨bB, oB + (k * 5 + c), none⟩ = some v) := HB.out.2 k hkT
          have hpo := HA.out.2.2.2 a haP
          clear hcellA
          have i2 : (a : Int) < (nP : Int) := by omega
          have i3 : (0 : Int) ≤ (a : Int) := by omega
          have i4 : ¬ (a : Int) = (nP : Int) := by omega
          have b4 : ((a : Int) == (nP : Int)) = false := by simpa using i4
          by_cases hmi : mine F.o j (p a) = true
          · rw [if_pos hmi] at hm
            obtain ⟨hpq, hr2⟩ := hm
            have hms : ms (q k) = .int .i64 (q k).src :: it (p a) := by rw [hpq]; rfl
            rw [hms] at HBB
            clear hms hpq
            generalize p a = x at HAA HBB hpo hmi
            obtain ⟨xm, xk, xt, xv⟩ := x
            cases xm
            · have hrj : rtN F.o xk = j := by
                unfold mine at hmi
                simpa using hmi
              have d0 : wr.cell? ⟨bA, oA + a * 4, none⟩ = some (.bool false) := (hb.cell (p := ⟨bA, oA + a * 4, none⟩) hbA).trans (HAA.out 0 _ rfl)
              have d1 : wr.cell? ⟨bA, oA + a * 4 + 1, none⟩ = some (.string xk) := (hb.cell (p := ⟨bA, oA + a * 4 + 1, none⟩) hbA).trans (HAA.out 1 _ rfl)
              clear hmi hr
              go_wp2_with fail
              refine (route_c wr σ t g F (HA.out.2.2.1.below hb) xk hpo).mono ?_
              rintro e w3 ⟨rfl, hb3⟩
              have hmj' : ((rtN F.o xk : Nat) : Int) = (j : Int) := by omega
              have hbb := Below.then_ hb hb.size hb3
              clear d0 d1 hb hb3 hrj
              have f0 : w3.cell? ⟨bA, oA + a * 4, none⟩ = some (.bool false) := (hbb.cell (p := ⟨bA, oA + a * 4, none⟩) hbA).trans (HAA.out 0 _ rfl)
              have f1 : w3.cell? ⟨bA, oA + a * 4 + 1, none⟩ = some (.string xk) := (hbb.cell (p := ⟨bA, oA + a * 4 + 1, none⟩) hbA).trans (HAA.out 1 _ rfl)
              have f2 : w3.cell? ⟨bA, oA + a * 4 + 2, none⟩ = some (.int .i64 xt) := (hbb.cell (p := ⟨bA, oA + a * 4 + 2, none⟩) hbA).trans (HAA.out 2 _ rfl)
              have f3 : w3.cell? ⟨bA, oA + a * 4 + 3, none⟩ = some (.int .i64 xv) := (hbb.cell (p := ⟨bA, oA + a * 4 + 3, none⟩) hbA).trans (HAA.out 3 _ rfl)
              have g0 : w3.cell? ⟨bB, oB + k * 5 + 1, none⟩ = some (.bool false) := (hbb.cell (p := ⟨bB, oB + k * 5 + 1, none⟩) HB.out.1).trans (HBB.out 1 _ rfl)
              have g1 : w3.cell? ⟨bB, oB + k * 5 + 2, none⟩ = some (.string xk) := (hbb.cell (p := ⟨bB, oB + k * 5 + 2, none⟩) HB.out.1).trans (HBB.out 2 _ rfl)
              have g2 : w3.cell? ⟨bB, oB + k * 5 + 3, none⟩ = some (.int .i64 xt) := (hbb.cell (p := ⟨bB, oB + k * 5 + 3, none⟩) HB.out.1).trans (HBB.out 3 _ rfl)
              have g3 : w3.cell? ⟨bB, oB + k * 5 + 4, none⟩ = some (.int .i64 xv) := (hbb.cell (p := ⟨bB, oB + k * 5 + 4, none⟩) HB.out.1).trans (HBB.out 4 _ rfl)
              go_wp2_with fail
              go_region
              go_wp2_with fail
              go_roundw
              case rel => exact ⟨a + 1, k + 1, by go_num, by go_num, by omega, hr2, by first | exact hbb | exact hbb.drew⟩
              case measure => simp [intOf]; omega
            · clear hmi hr
              have f0 : wr.cell? ⟨bA, oA + a * 4, none⟩ = some (.bool true) := (hb.cell (p := ⟨bA, oA + a * 4, none⟩) hbA).trans (HAA.out 0 _ rfl)
              have f1 : wr.cell? ⟨bA, oA + a * 4 + 1, none⟩ = some (.string xk) := (hb.cell (p := ⟨bA, oA + a * 4 + 1, none⟩) hbA).trans (HAA.out 1 _ rfl)
              have f2 : wr.cell? ⟨bA, oA + a * 4 + 2, none⟩ = some (.int .i64 xt) := (hb.cell (p := ⟨bA, oA + a * 4 + 2, none⟩) hbA).trans (HAA.out 2 _ rfl)
              have f3 : wr.cell? ⟨bA, oA + a * 4 + 3, none⟩ = some (.int .i64 xv) := (hb.cell (p := ⟨bA, oA + a * 4 + 3, none⟩) hbA).trans (HAA.out 3 _ rfl)
              have g0 : wr.cell? ⟨bB, oB + k * 5 + 1, none⟩ = some (.bool true) := (hb.cell (p := ⟨bB, oB + k * 5 + 1, none⟩) HB.out.1).trans (HBB.out 1 _ rfl)
              have g1 : wr.cell? ⟨bB, oB + k * 5 + 2, none⟩ = some (.string xk) := (hb.cell (p := ⟨bB, oB + k * 5 + 2, none⟩) HB.out.1).trans (HBB.out 2 _ rfl)
              have g2 : wr.cell? ⟨bB, oB + k * 5 + 3, none⟩ = some (.int .i64 xt) := (hb.cell (p := ⟨bB, oB + k * 5 + 3, none⟩) HB.out.1).trans (HBB.out 3 _ rfl)
              have g3 : wr.cell? ⟨bB, oB + k * 5 + 4, none⟩ = some (.int .i64 xv) := (hb.cell (p := ⟨bB, oB + k * 5 + 4, none⟩) HB.out.1).trans (HBB.out 4 _ rfl)
              go_wp2_with fail
              go_region
              go_wp2_with fail
              go_roundw
              case rel => exact ⟨a + 1, k + 1, by go_num, by go_num, by omega, hr2, by first | exact hb | exact hb.drew⟩
              case measure => simp [intOf]; omega
          · rw [if_neg hmi] at hm
            generalize p a = x at HAA hpo hmi
            obtain ⟨xm, xk, xt, xv⟩ := x
            obtain ⟨rfl, hmj⟩ : xm = false ∧ rtN F.o xk ≠ j := by
              unfold mine at hmi
              simpa using hmi
            have d0 : wr.cell? ⟨bA, oA + a * 4, none⟩ = some (.bool false) := (hb.cell (p := ⟨bA, oA + a * 4, none⟩) hbA).trans (HAA.out 0 _ rfl)
            have d1 : wr.cell? ⟨bA, oA + a * 4 + 1, none⟩ = some (.string xk) := (hb.cell (p := ⟨bA, oA + a * 4 + 1, none⟩) hbA).trans (HAA.out 1 _ rfl)
            clear hmi hr
            go_wp2_with fail
            refine (route_c wr σ t g F (HA.out.2.2.1.below hb) xk hpo).mono ?_
            rintro e w3 ⟨rfl, hb3⟩
            have hmj' : ¬ ((rtN F.o xk : Nat) : Int) = (j : Int) := by omega
            have hbb := Below.then_ hb hb.size hb3
            go_wp2_with fail
            go_roundw
            case rel => exact ⟨a + 1, by go_num, hm, hbb⟩
            case measure => simp [intOf]; omega
      · have hr' := HR.out.1 a k hkT Hr.out hs
        clear Hr
        go_wp2_with fail
        go_roundw
        case rel => exact ⟨a, k + 1, rfl, by go_num, by omega, hr', hb⟩
        case measure => simp [intOf]; omega
    · have hkn : k = nT := by omega
      subst hkn
      go_wp2_with fail
      go_loopw [11] (fun a wr => ∃ a' : Nat, a = .int .i64 a' ∧ R a' k ∧ Below w.heap.size w wr) (fun a _ => nP - (intOf a).toNat)
      case atStart => exact ⟨a, rfl, Hr.out, hb⟩
      case round =>
        clear Hr hb ha
        obtain ⟨a, rfl, hr, hb⟩ := hrel
        have ha := HR.out.2.2.2 a k hr
        by_cases haP : a < nP
        · obtain ⟨hm, hr2⟩ := HR.out.2.2.1 a hr haP
          obtain ⟨bA, oA, rfl, hbA, hcellA⟩ := HA.out.1 (by omega)
          have e0 := hcellA a haP 0 _ rfl
          have e1 := hcellA a haP 1 _ rfl
          have hpo := HA.out.2.2.2 a haP
          generalize p a = x at e0 e1 hm hpo
          obtain ⟨xm, xk, xt, xv⟩ := x
          obtain ⟨rfl, hmj⟩ : xm = false ∧ rtN F.o xk ≠ j := by
            unfold mine at hm
            simpa using hm
          have d0 : wr.cell? ⟨bA, oA + a * 4, none⟩ = some (.bool false) := (hb.cell (p := ⟨bA, oA + a * 4, none⟩) hbA).trans e0
          have d1 : wr.cell? ⟨bA, oA + a * 4 + 1, none⟩ = some (.string xk) := (hb.cell (p := ⟨bA, oA + a * 4 + 1, none⟩) hbA).trans e1
          have i0 : (a : Int) < (nP : Int) := by omega
          have i1 : (0 : Int) ≤ (a : Int) := by omega
          clear e0 e1 hcellA hm hr
          go_wp2_with fail
          refine (route_c wr σ t g F (HA.out.2.2.1.below hb) xk hpo).mono ?_
          rintro e w3 ⟨rfl, hb3⟩
          have hmj' : ¬ ((rtN F.o xk : Nat) : Int) = (j : Int) := by omega
          have hbb := Below.then_ hb hb.size hb3
          go_wp2_with fail
          go_roundw
          case rel => exact ⟨a + 1, by go_num, hr2, hbb⟩
          case measure => simp [intOf]; omega
        · have i0 : a = nP := by omega
          go_wp2_with fail
          go_ret
          exact ⟨rfl, hb⟩
end Go.Proofs.Ytapninpdjccglaa.C
