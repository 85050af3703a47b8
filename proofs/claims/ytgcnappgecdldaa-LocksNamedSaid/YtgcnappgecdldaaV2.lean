/-
  Locks: names: tasks' other numbers.
-/
import Derived.Test.YtgcnappgecdldaaV1
set_option linter.unusedVariables false
set_option linter.unusedSimpArgs false
namespace Go.Proofs.Ytgcnappgecdldaa.C
open Go.RowKit Go.Proofs.Ytgcnappgecdldaa.K Go.Maps

/-- The other numbers, as cells. -/
def renL (b : Int) (xs : List Int) : List Value := (xs.map (ren b)).map (Value.int .i64)
set_option maxRecDepth 100000 in
set_option maxHeartbeats 1600000 in
theorem names_c (w : World) (B : Nat) (v : Value) (n : Nat) (xs : List Int) (b : Int) (hl : xs.length = n) (hn : n ≤ 1000000) (hx : ∀ x ∈ xs, 0 ≤ x ∧ x ≤ 1099511627776) (hb0 : 0 ≤ b) (hb1 : b < 1048576) (h : w.ownsRow B 3 1 v n (xs.map (Value.int .i64))) :
    Calls Try.prog 34 #[v, .int .i64 b] w fun e w' => ∃ u, e = .returned u ∧ w'.ownsRow w.heap.size 3 1 u n (renL b xs) ∧ Below w.heap.size w w' := by
  obtain ⟨A, cp, rfl⟩ := own_slice h
  obtain ⟨i3, hi3, hy0, hy1, hy2⟩ := info_parts2 info3p
  have HI3 := Lib.hid (And.intro hi3 (And.intro hy0 (And.intro hy1 hy2)))
  have H := Lib.hid (And.intro h (And.intro hl hx))
  clear h hi3 hy0 hy1 hy2 hl hx
  go_enter Try.func34, Try.ntmps34
  go_wp2_with fail
  go_loopw [5, 6] (fun vo vi wr => ∃ (k : Nat), vi = .int .i64 k ∧ k ≤ n ∧ wr.ownsRow w.heap.size 3 1 vo k (renL b (xs.take k)) ∧ Below w.heap.size w wr) (fun _ vi _ => n - (intOf vi).toNat)
  case atStart => exact ⟨0, rfl, Nat.zero_le _, World.ownsRow_nil _ _ _ _, Below.refl _ _⟩
  case round =>
    rename World => wa
    obtain ⟨k, rfl, hk, ho, hbel⟩ := hrel
    obtain ⟨Ao, co, rfl⟩ := own_slice ho
    have HR := Lib.hid (And.intro ho hbel)
    clear ho hbel
    by_cases hkn : k < n
    · have k0 : (0 : Int) ≤ (k : Int) := by omega
      have k1 : (k : Int) < (n : Int) := by omega
      obtain ⟨g, c, e, _, hg⟩ := own_form H.out.1 (by omega)
      obtain ⟨rfl, rfl⟩ : A = some ⟨g, 0, none⟩ ∧ cp = c := by cases e; exact ⟨rfl, rfl⟩
      clear e
      have hkl : k < xs.length := by rw [H.out.2.1]; exact hkn
      have d0 : wa.cell? ⟨g, k, none⟩ = some (.int .i64 xs[k]) := (HR.out.2.cell (p := ⟨g, k, none⟩) hg).trans ((World.ownsRow.cellAt H.out.1 k (by omega)).trans (by rw [List.getElem?_map, List.getElem?_eq_getElem hkl]; rfl))
      have hr := H.out.2.2 xs[k] (List.getElem_mem hkl)
      have htk : (xs.take (k + 1)).map (ren b) = (xs.take k).map (ren b) ++ [3 * xs[k] + b] := by
        rw [List.take_succ_eq_append_getElem hkl, List.map_append]
        rfl
      have HTK := Lib.hid htk
      clear htk
      generalize xs[k] = x at d0 hr HTK
      obtain ⟨hr0, hr1⟩ := hr
      obtain ⟨hi3, hy0, hy1, hy2⟩ := HI3.out
      go_wp2_with (first | (at_builtin; refine wpList_append_reads (by rfl) _ _ 23 (by rfl) w.heap.size 3 i3 _ 1 8 Try.underlying23 hi3 hy0 hy1 hy2 rfl (by omega) (.slice Ao k co) k (renL b (xs.take k)) (by rfl) ?c0 (some ⟨wa.heap.size, 0, none⟩) 1 1 [.int .i64 (3 * x + b)] (by rfl) rfl ?c2 (by intro u hu; simp at hu; subst hu; rfl) ?c4 ?c5 ?c6 ?_) | fail)
      case c0 => exact own_below HR.out.1 ((Below.refl _ _).alloc (Nat.le_refl _) _)
      case c2 => exact reads_new2 wa #[.int .i64 (3 * x + b)] 3
      case c4 => unfold maxLen; omega
      case c5 => omega
      case c6 => have := HR.out.2.size; simp; omega
      intro v' w9 ho9 hg9 hat9
      have hb9 : Below w.heap.size w w9 := (HR.out.2.alloc HR.out.2.size _).grown hg9 (by have := HR.out.2.size; simp; omega) (fun x e => (HR.out.1.lt x e).1)
      have HN := Lib.hid (And.intro (show w9.ownsRow w.heap.size 3 1 v' (k + 1) (renL b (xs.take (k + 1))) from by unfold renL; rw [HTK.out, List.map_append]; exact ho9) hb9)
      clear ho9 hg9 hat9 hb9 hi3 hy0 hy1 hy2
      go_wp2_with fail
      go_roundw
      case rel => exact ⟨k + 1, by go_num, by omega, HN.out.1, HN.out.2⟩
      case measure => simp [intOf]; omega
    · obtain rfl : n = k := by omega
      have k1 : ¬ (n : Int) < (n : Int) := by omega
      go_wp2_with fail
      go_ret
      exact ⟨_, rfl, by have hh := HR.out.1; rw [List.take_of_length_le (by rw [H.out.2.1]; exact Nat.le_refl _)] at hh; exact hh, HR.out.2⟩
end Go.Proofs.Ytgcnappgecdldaa.C
