/-
  Locks: slices.Delete of one claim.
-/
import Derived.Test.YtgcnappgecdldaaL8
import Derived.Laws.OwnMore
import Derived.Test.YtgcnappgecdldaaSrow
import Derived.Laws.IdiomCopy
set_option linter.unusedVariables false
set_option linter.unusedSimpArgs false
namespace Go.Proofs.Ytgcnappgecdldaa.C
open Go.RowKit Go.Proofs.Ytgcnappgecdldaa.K Go.Maps

theorem cvs_take (l : List Clm) : ∀ i, (cvs l).take (i * 2) = cvs (l.take i) := by
  induction l with
  | nil => intro i; simp [cvs]
  | cons c r ih =>
    intro i
    rcases i with _ | i
    · simp [cvs]
    · have e : cvs (c :: r) = .int .i64 c.task :: .map (some c.blk) :: cvs r := rfl
      rw [e, show (i + 1) * 2 = i * 2 + 1 + 1 by omega, List.take_succ_cons, List.take_succ_cons, ih]
      rfl
theorem cvs_drop (l : List Clm) : ∀ i, (cvs l).drop (i * 2) = cvs (l.drop i) := by
  induction l with
  | nil => intro i; simp [cvs]
  | cons c r ih =>
    intro i
    rcases i with _ | i
    · rfl
    · have e : cvs (c :: r) = .int .i64 c.task :: .map (some c.blk) :: cvs r := rfl
      rw [e, show (i + 1) * 2 = i * 2 + 1 + 1 by omega, List.drop_succ_cons, List.drop_succ_cons, ih]
      rfl
theorem own_front {w : World} {B g n cap : Nat} {l : List Clm} (h : w.ownsRow B 86 2 (.slice (some ⟨g, 0, none⟩) n cap) n (cvs l)) (hl : l.length = n) (i : Nat) (hi : i ≤ n) :
    w.ownsRow B 86 2 (.slice (some ⟨g, 0, none⟩) i cap) i (cvs (l.take i)) := by
  rcases h.2 with ⟨h', _⟩ | ⟨g', cap', cur, h', hbg, hg, hnc, hcm, hcs, htake⟩
  · cases h'
  · simp only [Value.slice.injEq, Option.some.injEq, Addr.mk.injEq, and_true, true_and] at h'
    obtain ⟨rfl, rfl⟩ := h'
    refine ⟨by rw [cvs_length, List.length_take, hl, Nat.min_eq_left hi], .inr ⟨g, cap, cur, rfl, hbg, hg, by omega, hcm, hcs, ?_⟩⟩
    rw [← cvs_take, ← htake, List.take_take, Nat.min_eq_left (by omega)]
theorem zero86 (w : World) : (zeroValue 86).run Try.prog w = .ok (.agg #[.int .i64 0, .map none]) w := by kernel_rfl
theorem clear2 (w : World) (ty : TypeId) (g o c : Nat) (h0 : (w.cell? ⟨g, o, none⟩).isSome = true) (h1 : (w.cell? ⟨g, o + 1, none⟩).isSome = true) (f0 : w.frozen? ⟨g, o, none⟩ = false) (f1 : w.frozen? ⟨g, o + 1, none⟩ = false) :
    (Builtin.clear_ #[75] ty #[.slice (some ⟨g, o, none⟩) 1 c]).run Try.prog w = .ok (.tuple #[]) (w.setCells g o [.int .i64 0, .map none]) := by
  have hst := run_storeCells_cells (P := Try.prog) g o [.int .i64 0, .map none] 0 w
    (by intro j hj; rcases j with _ | _ | j; · exact h0
        · exact h1
        · exact absurd hj (by show ¬ j + 1 + 1 < 2; omega))
    (by intro j hj; rcases j with _ | _ | j; · exact f0
        · exact f1
        · exact absurd hj (by show ¬ j + 1 + 1 < 2; omega))
    (by intro v hv; simp at hv; rcases hv with rfl | rfl <;> rfl)
  simp only [Nat.add_zero] at hst
  have hzc : (Builtin.zeroCells (Value.agg #[.int .i64 0, .map none]).cells 1).toList = [.int .i64 0, .map none] := by kernel_rfl
  simp [Builtin.clear_, run_underlying Try.underlying75, zero86, hzc, hst]

/-- An append whose run is known. -/
theorem step_append_run {P : Program} {w : World} {ops : Array Oper} {o : Oper} {a : Act} {K : Act → World → Prop} {Q : Exit → Act → World → Prop} {E : Prop} (hgd : o.guard = none) (s x : Operand) (t : TypeId)
    (ho : o.op = .call { callee := .builtin .append, args := #[s, x], argTypes := #[t, t] }) (v1 v2 v' : Value) (w' : World) (hs : a.eval s = v1) (hx : a.eval x = v2)
    (hr : (Builtin.append_ #[t, t] o.type #[v1, v2]).run P w = .ok v' w') (h : K (a.put o.dst v') w') :
    if Region.wanted o (yielded ops a.tmps) = true then Oper.wp P o a w K Q else E := by
  have hw : Region.wanted o (yielded ops a.tmps) = true := by simp [Region.wanted, hgd]
  rw [if_pos hw]
  unfold Oper.wp execOp
  rw [ho]
  simp [resolve, invoke, builtin, hs, hx, hr, Result.andThen]
  exact h

/-- A clear whose run is known. -/
theorem wpList_clear_run {P : Program} {w : World} {ops : Array Oper} {rest : List Oper} {o : Oper} {a : Act} {Q : Exit → Act → World → Prop} (hgd : o.guard = none) (s : Operand) (t : TypeId)
    (ho : o.op = .call { callee := .builtin .clear, args := #[s], argTypes := #[t] }) (v1 v' : Value) (w' : World) (hs : a.eval s = v1)
    (hr : (Builtin.clear_ #[t] o.type #[v1]).run P w = .ok v' w') (h : wpList P ops Q rest (a.put o.dst v') w') : wpList P ops Q (o :: rest) a w := by
  refine wpList_plain hgd fun K hK => ?_
  unfold Oper.wp execOp
  simp [ho, resolve, invoke, builtin, hs, hr, Result.andThen]
  exact hK _ _ h

set_option maxRecDepth 100000 in
set_option maxHeartbeats 1600000 in
theorem delete_c (w : World) (B g n cap : Nat) (l : List Clm) (hl : l.length = n) (hn : n ≤ 100000) (ho : w.ownsRow B 86 2 (.slice (some ⟨g, 0, none⟩) n cap) n (cvs l)) (i : Nat) (hi : i < n) :
    Calls Try.prog 48 #[.slice (some ⟨g, 0, none⟩) n cap, .int .i64 i, .int .i64 ((i : Int) + 1)] w fun e w' => e = .returned (.slice (some ⟨g, 0, none⟩) (n - 1) cap) ∧
      w'.ownsRow B 86 2 (.slice (some ⟨g, 0, none⟩) (n - 1) cap) (n - 1) (cvs (l.eraseIdx i)) ∧ w.grownBy w' (some g) := by
  have hcap : n ≤ cap := by
    rcases ho.2 with ⟨h', _⟩ | ⟨g', cap', cur, h', _, _, hnc, _⟩
    · cases h'
    · cases h'; exact hnc
  have hpre := own_front ho hl i (by omega)
  obtain ⟨i0, hi0, hz0, hz1, hz2⟩ := info_parts2 (show (Try.prog.info? 86).map (fun i => (i.zero, i.size, i.bytes)) = some (some (.agg #[.int .i64 0, .map none]), 2, 16) by kernel_rfl)
  have hread : ∀ j u, (cvs (l.drop (i + 1)))[j]? = some u → w.cell? ((⟨g, (i + 1) * 2, none⟩ : Addr).add j) = some u := fun j u hu => by
    rw [← cvs_drop, List.getElem?_drop] at hu
    rw [add_plain, ← hu]
    have hj : (i + 1) * 2 + j < n * 2 := by
      have := (List.getElem?_eq_some_iff.1 hu).1
      rw [cvs_length, hl] at this
      exact this
    exact World.ownsRow.cellAt ho _ hj
  have hap : ∃ w2, (cap = i + 1 → w2 = w.drew) ∧ (¬ cap = i + 1 → ∀ ty, (Builtin.append_ #[75, 75] ty #[.slice (some ⟨g, 0, none⟩) i cap, .slice (some ⟨g, (i + 1) * 2, none⟩) (n - (i + 1)) (cap - (i + 1))]).run Try.prog w.drew = .ok (.slice (some ⟨g, 0, none⟩) (n - 1) cap) w2) ∧
      w2.ownsRow B 86 2 (.slice (some ⟨g, 0, none⟩) (n - 1) cap) (n - 1) (cvs (l.eraseIdx i)) ∧ w.grownBy w2 (some g) := by
    by_cases e : cap = i + 1
    · refine ⟨w.drew, fun _ => rfl, fun h => absurd e h, ?_, ⟨rfl, rfl, rfl, Nat.le_refl _, fun _ _ _ => rfl⟩⟩
      have hni : n - 1 = i := by omega
      rw [hni, List.eraseIdx_eq_take_drop_succ, List.drop_eq_nil_of_le (by omega), List.append_nil]
      exact hpre
    · obtain ⟨w2, hrun, ho2, hg2⟩ := run_append_fits (P := Try.prog) w.drew B 75 75 86 i0 2 Try.underlying75 hi0 hz1 g i cap (cvs (l.take i)) hpre ⟨g, (i + 1) * 2, none⟩ (n - (i + 1)) (cap - (i + 1)) (cvs (l.drop (i + 1))) (by rw [cvs_length, List.length_drop, hl]) hread (cvs_one _) (by omega)
      rw [show i + (n - (i + 1)) = n - 1 by omega] at hrun ho2
      rw [← cvs_append, ← List.eraseIdx_eq_take_drop_succ] at ho2
      exact ⟨w2, fun h => absurd h e, fun _ ty => hrun, ho2, ⟨hg2.os, hg2.tape, hg2.output, hg2.size, hg2.block⟩⟩
  obtain ⟨w2, hsame, hrun, ho2, hg2⟩ := hap
  have hcells : ∀ q, q < n * 2 → (w2.cell? ⟨g, q, none⟩).isSome = true ∧ w2.frozen? ⟨g, q, none⟩ = false := fun q hq => by
    rcases ho2.2 with ⟨h', _⟩ | ⟨g', cap', cur, h', hbg, hg, hnc, hcm, hcs, htake⟩
    · cases h'
    · simp only [Value.slice.injEq, Option.some.injEq, Addr.mk.injEq, and_true, true_and] at h'
      obtain ⟨rfl, rfl⟩ := h'
      refine ⟨?_, Blk.frozen (show Blk w2 g 86 cur from hg) q⟩
      rw [Blk.cell (show Blk w2 g 86 cur from hg)]
      rw [Array.getElem?_eq_getElem (by omega)]
      rfl
  have HO2 := Lib.hid (And.intro ho2 hg2)
  have hclr := fun ty => clear2 w2 ty g ((n - 1) * 2) (cap - (n - 1)) (hcells _ (by omega)).1 (hcells _ (by omega)).1 (hcells _ (by omega)).2 (hcells _ (by omega)).2
  have hfin : (w2.setCells g ((n - 1) * 2) [.int .i64 0, .map none]).ownsRow B 86 2 (.slice (some ⟨g, 0, none⟩) (n - 1) cap) (n - 1) (cvs (l.eraseIdx i)) ∧ w.grownBy (w2.setCells g ((n - 1) * 2) [.int .i64 0, .map none]) (some g) := by
    rcases ho2.2 with ⟨h', _⟩ | ⟨g', cap', cur, h', hbg, hg, hnc, hcm, hcs, htake⟩
    · cases h'
    · simp only [Value.slice.injEq, Option.some.injEq, Addr.mk.injEq, and_true, true_and] at h'
      obtain ⟨rfl, rfl⟩ := h'
      have hb := Blk.setCells [.int .i64 0, .map none] ((n - 1) * 2) w2 cur (show Blk w2 g 86 cur from hg) (by show (n - 1) * 2 + 2 ≤ cur.size; omega)
      refine ⟨⟨ho2.1, .inr ⟨g, cap, _, rfl, hbg, hb, hnc, hcm, ?_, ?_⟩⟩, ?_⟩
      · show (spliced cur.toList ((n - 1) * 2) [.int .i64 0, .map none]).toArray.size = _
        rw [List.size_toArray, spliced_length _ _ _ (by show (n - 1) * 2 + 2 ≤ cur.toList.length; simp; omega)]
        simpa using hcs
      · show (spliced cur.toList ((n - 1) * 2) [.int .i64 0, .map none]).take ((n - 1) * 2) = _
        rw [← htake]
        unfold spliced
        rw [List.append_assoc, List.take_append_of_le_length (by simp; omega), List.take_take, Nat.min_self]
      · have hk := grown_setCells w2 g ((n - 1) * 2) [.int .i64 0, .map none]
        exact ⟨hk.os.trans hg2.os, hk.tape.trans hg2.tape, hk.output.trans hg2.output, Nat.le_trans hg2.size hk.size, fun b hb hne => (hk.block b (Nat.lt_of_lt_of_le hb hg2.size) hne).trans (hg2.block b hb hne)⟩
  have HF := Lib.hid hfin
  clear hfin hcells ho2 hg2 hread hpre hi0 hz0 hz1 hz2 ho
  have z1 : (i : Int) < (n : Int) := by omega
  have z2 : (n : Int) ≤ (cap : Int) := by omega
  have z3 : ¬ ((i : Int) = (i : Int) + 1) := by omega
  have z4 : ((i : Int) == (i : Int) + 1) = false := by simp; omega
  have z5 : ((i : Int) + 1).toNat = i + 1 := by omega
  have z6 : (0 : Int) ≤ (i : Int) := by omega
  have z7 : ¬ n = i := by omega
  have z8 : ¬ cap = n - 1 := by omega
  go_enter Try.func48, Try.ntmps48
  go_upto_region 5 with fail
  go_cut [0] (fun z w' => z = .slice (some ⟨g, 0, none⟩) (n - 1) cap ∧ w' = w2)
  case first =>
    rcases Decidable.em (cap = i + 1) with e | e
    · obtain rfl : n = i + 1 := by omega
      subst e
      have hsm := Lib.hid (hsame rfl)
      clear hsame hrun hclr
      go_region
      all_goals
        go_wp2_with fail
        go_meet
        case rel => exact ⟨rfl, hsm.out.symm⟩
    · have hrun := hrun e
      clear hsame
      have y1 : i ≤ cap := by omega
      have y2 : (0 : Int) ≤ (i : Int) + 1 := by omega
      have y3 : (i : Int) + 1 ≤ (n : Int) := by omega
      have y4 : (i : Int) + 1 ≤ (cap : Int) := by omega
      have y5 : ¬ cap = i + 1 := e
      have y6 : ¬ i + 1 = cap := fun h => e h.symm
      have HRUN := Lib.hid hrun
      clear hrun hclr
      go_region_law (first | (refine step_append_run (by rfl) _ _ 75 (by rfl) _ _ _ _ (by rfl) (by rfl) (HRUN.out _) ?_) | fail)
      all_goals
        go_wp2_with fail
        go_meet
        case rel => exact ⟨rfl, rfl⟩
  case rest =>
    rename World => w3
    obtain ⟨rfl, rfl⟩ := hcut
    clear hsame hrun
    obtain ⟨m, rfl⟩ : ∃ m, n = m + 1 := ⟨n - 1, by omega⟩
    simp only [Nat.add_sub_cancel] at *
    have x1 : m + 1 - m = 1 := by omega
    have x2 : (m : Int) ≤ ((m + 1 : Nat) : Int) := by omega
    have x3 : m ≤ cap := by omega
    have x4 : (m : Int) ≤ (cap : Int) := by omega
    have HC := Lib.hid hclr
    clear hclr
    go_wp2_with (first | (refine wpList_clear_run (by rfl) _ 75 (by rfl) _ _ _ (by rfl) (HC.out _) ?_) | fail)
    simp only [Nat.add_sub_cancel]
    go_ret
    exact ⟨rfl, HF.out.1, HF.out.2⟩
end Go.Proofs.Ytgcnappgecdldaa.C
