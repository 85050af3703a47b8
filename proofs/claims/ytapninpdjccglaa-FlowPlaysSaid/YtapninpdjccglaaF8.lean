/-
  Put, where it may be.
-/
import Derived.Test.YtapninpdjccglaaF7
set_option linter.unusedVariables false
set_option linter.unusedSimpArgs false
namespace Go.Proofs.Ytapninpdjccglaa.C
open Go.RowKit Go.Proofs.Ytapninpdjccglaa.K

theorem step_append_srow {P : Program} {w : World} {ops : Array Oper} {o : Oper} {a : Act} {K : Act → World → Prop} {Q : Exit → Act → World → Prop} {E : Prop} (hgd : o.guard = none) (s x : Operand) (tt : TypeId)
    (ho : o.op = .call { callee := .builtin .append, args := #[s, x], argTypes := #[tt, tt] })
    (σ : Nat → Nat) (t : Nat) (e : TypeId) (i : TypeInfo) (z : Value) (size bytes : Nat) (ht : P.underlying tt = some (.slice e)) (hi : P.info? e = some i) (hz : i.zero = some z)
    (hsize : i.size = size) (hby : i.bytes = bytes) (hzs : z.cells.size = size) (hsz : 0 < size)
    (v : Value) (n : Nat) (xs : List Value) (hs : a.eval s = v) (h : SRow w σ t e size v n xs)
    (ad : Addr) (m c : Nat) (news : List Value) (hx : a.eval x = .slice (some ad) m c) (hl : news.length = m * size) (hnews : ∀ j u, news[j]? = some u → w.cell? (ad.add j) = some u) (h1 : ∀ u ∈ news, u.oneCell' = true)
    (h63 : n + m ≤ maxLen) (hbytes : (n + m) * bytes ≤ 140737488355328)
    (hK : ∀ v' w', SRow w' (upd σ w.heap.size t) t e size v' (n + m) (xs ++ news) → Chg (fun x => x = t) σ w (upd σ w.heap.size t) w' → K (a.put o.dst v') w') :
    if Region.wanted o (yielded ops a.tmps) = true then Oper.wp P o a w K Q else E := by
  have hw : Region.wanted o (yielded ops a.tmps) = true := by simp [Region.wanted, hgd]
  rw [if_pos hw]
  obtain ⟨v', w', hr, h2, h3⟩ := run_append_srow (P := P) tt o.type i z size bytes ht hi hz hsize hby hzs hsz h ad c news hl hnews h1 h63 hbytes
  unfold Oper.wp execOp
  simp only [ho, resolve, invoke, builtin, Sem.run_bind, Sem.run_pure, Result.andThen_ok, List.map_toArray, List.map_cons, List.map_nil, hs, hx, hr]
  exact hK _ _ h2 h3

theorem info_of {t : TypeId} {z : Value} {s b : Nat} (h : (Try.prog.info? t).map (fun i => (i.zero, i.size, i.bytes)) = some (some z, s, b)) : ∃ i, Try.prog.info? t = some i ∧ i.zero = some z ∧ i.size = s ∧ i.bytes = b := by
  obtain ⟨i, hi, he⟩ := Option.map_eq_some_iff.1 h
  simp only [Prod.mk.injEq] at he
  exact ⟨i, hi, he.1, he.2.1, he.2.2⟩

theorem putq_same (F : FS) (d : Nat) (L : List It) : (F.putq d L).putto d (F.to d) = F.putq d L := by
  unfold FS.putq FS.putto
  congr 1
  funext k
  by_cases hk : k = d <;> simp [hk]
theorem put_end {w W1 W2 w2 : World} {σ : Nat → Nat} {t g : Nat} {F : FS} {gb gq gbx : Nat} {qv : Nat → Value} {fi gr : Nat → Nat} {rc : Nat → Nat → Value} (h : FlowIn W1 (upd σ gb 0) t g F gq gbx qv fi gr rc) {d : Nat} (hd : d < F.s) (hB : Below w.heap.size w W1) (hgb : w.heap.size = gb)
    (x : It) (hba : Below W1.heap.size W1 W2) {A2 : Option Addr} {c2 n : Nat} (hn : (F.q d).length = n) (hn6 : n < 65536)
    (hs2 : SRow w2 (upd (upd σ gb 0) W2.heap.size (t + 11 + d)) (t + 11 + d) 33 4 (.slice A2 (n + 1) c2) (n + 1) (its (F.q d) ++ it x)) (hc2 : Chg (fun y => y = t + 11 + d) (upd σ gb 0) W2 (upd (upd σ gb 0) W2.heap.size (t + 11 + d)) w2) :
    ∃ σ', FlowAt (w2.setCell ⟨gq, d * 2, none⟩ (.slice A2 (n + 1) c2)) σ' t g (F.putq d (F.q d ++ [x])) ∧ Chg (Of t) σ w σ' (w2.setCell ⟨gq, d * 2, none⟩ (.slice A2 (n + 1) c2)) := by
  have hs := h.good.s2
  have hgq : (upd (upd σ gb 0) W2.heap.size (t + 11 + d)) gq = t + 1 := by rw [upd_old (Nat.lt_of_lt_of_le h.rq.lt hba.size)]; exact h.tq
  have c : Chg (fun y => y = t + 1 ∨ y = t + 11 + d) (upd σ gb 0) W1 (upd (upd σ gb 0) W2.heap.size (t + 11 + d)) (w2.setCell ⟨gq, d * 2, none⟩ (.slice A2 (n + 1) c2)) :=
    ((Chg.of_below _ _ hba).trans (hc2.mono (fun _ h => .inr h))).setCell (p := ⟨gq, d * 2, none⟩) (.inl (.inl hgq)) _
  have r1 := (row_below h.rq hba).of_block (hc2.block gq (row_below h.rq hba).lt (by rw [h.tq]; omega))
  have r2 : (w2.setCell ⟨gq, d * 2, none⟩ (.slice A2 (n + 1) c2)).rowIs gq 79 (2 * F.s) (qCells (fun k => if k = d then F.to d else F.to k) (fun k => if k = d then .slice A2 (n + 1) c2 else qv k)) := (r1.set (d * 2) (.slice A2 (n + 1) c2)).congr (fun i _ => qCells_set0)
  have e1 : (F.q d ++ [x]).length = n + 1 := by rw [List.length_append, hn]; rfl
  have s2 : SRow (w2.setCell ⟨gq, d * 2, none⟩ (.slice A2 (n + 1) c2)) (upd (upd σ gb 0) W2.heap.size (t + 11 + d)) (t + 11 + d) 33 4 (.slice A2 (n + 1) c2) (F.q d ++ [x]).length (its (F.q d ++ [x])) := by
    rw [e1, its_append, show its [x] = it x from List.append_nil _]
    exact hs2.chg ((Chg.refl (fun y => y = t + 1) _ w2).setCell (p := ⟨gq, d * 2, none⟩) (.inl hgq) _) (by omega)
  have hq := FlowIn.queue h hd (.slice A2 (n + 1) c2) (F.to d) (h.good.to d hd) (F.q d ++ [x]) (by rw [e1]; omega) r2 s2 c
  rw [putq_same] at hq
  refine ⟨_, ⟨_, _, _, _, _, _, hq⟩, ?_⟩
  have c0 := (Chg.of_below (Of t) σ hB).upd (Nat.le_refl _) 0
  rw [hgb] at c0
  exact c0.trans (c.mono (fun y hy => by unfold Of; omega))

set_option maxRecDepth 100000 in
set_option maxHeartbeats 1600000 in
theorem put_ok (w : World) (σ : Nat → Nat) (t g : Nat) (F : FS) (hF : FlowAt w σ t g F) (d : Nat) (hd : d < F.s) (x : It) (hm : May x = 0) :
    Calls Try.prog 17 #[.pointer (some ⟨g, 0, none⟩), .int .i64 d, itv x] w fun e w' => e = .returned (.int .i64 (F.put d x).1) ∧ ∃ σ', FlowAt w' σ' t g (F.put d x).2 ∧ Chg (Of t) σ w σ' w' := by
  obtain ⟨i3, hi3, hz0, hz1, hz2⟩ := info_of info33'
  obtain ⟨W1, hW1⟩ : ∃ W1, w.alloc (.cells #[.bool x.mark, .string x.key, .int .i64 x.time, .int .i64 x.value] 33) = W1 := ⟨_, rfl⟩
  have hB : Below w.heap.size w W1 := by rw [← hW1]; exact (Below.refl _ _).alloc (Nat.le_refl _) _
  have hbx : Blk W1 w.heap.size 33 (it x).toArray := by rw [← hW1]; exact Blk.new w 33 (it x).toArray
  obtain ⟨gb, hgb⟩ : ∃ gb, w.heap.size = gb := ⟨_, rfl⟩
  have hF1 := (hF.upd (Nat.le_refl _) 0).below hB
  rw [hgb] at hF1
  have hput : F.put (d : Int) x = if (F.q d).length = 65536 then (2, F) else (0, F.putq d (F.q d ++ [x])) := by
    unfold FS.put
    rw [if_pos (by omega), if_pos hm, Int.toNat_natCast]
  rw [hput]
  obtain ⟨gq, gbx, qv, fi, gr, rc, h⟩ := hF1
  have hof := of_yes W1 _ t g F gq gbx qv fi gr rc h d hd
  have q0 := h.q0 hd
  have hrow := h.qs d hd
  obtain ⟨A, c, hv, hnc⟩ := hrow.slice
  rw [hv] at q0 hrow
  obtain ⟨n, hn⟩ : ∃ n, (F.q d).length = n := ⟨_, rfl⟩
  have hn6 := h.good.q d hd
  rw [hn] at q0 hrow hn6 ⊢
  have b0 := hbx.cell 0
  have b1 := hbx.cell 1
  have b2 := hbx.cell 2
  have b3 := hbx.cell 3
  simp only [it, List.getElem?_toArray, List.getElem?_cons_zero, List.getElem?_cons_succ] at b0 b1 b2 b3
  rw [hgb] at b0 b1 b2 b3 hbx
  have hbq : ¬ gb = gq := by
    intro e
    have h1 := h.tq
    rw [← e, upd_new (Nat.le_refl _)] at h1
    omega
  have hqb : ¬ gq = gb := fun e => hbq e.symm
  have hfz := h.rq.frozen (d * 2)
  have H := Lib.hid (And.intro h (And.intro hd (And.intro hB hbx)))
  have Hn := Lib.hid (And.intro hn (And.intro hv (And.intro hgb hF)))
  have Hrow := Lib.hid hrow
  have hcases := may_cases x
  have HNEW : Hid (∀ j u, (it x)[j]? = some u → ((W1.alloc (.cells (it x).toArray 33)).drew).cell? ((⟨W1.heap.size, 0, none⟩ : Addr).add j) = some u) := Lib.hid (by
    intro j u hj
    have hadd : (⟨W1.heap.size, 0, none⟩ : Addr).add j = ⟨W1.heap.size, j, none⟩ := by unfold Addr.add; split <;> simp_all
    rw [hadd, World.cell?_drew, (Blk.new W1 33 (it x).toArray).cell]
    simpa using hj)
  have hba : Below W1.heap.size W1 ((W1.alloc (.cells (it x).toArray 33)).drew) := ((Below.refl _ _).alloc (Nat.le_refl _) _).drew
  have HB := Lib.hid hba
  have KK : Hid (∀ (w2 : World) (σ2 : Nat → Nat), Chg (fun x => x = t + 11 + d) (upd σ gb 0) ((W1.alloc (.cells (it x).toArray 33)).drew) σ2 w2 → w2.cell? ⟨gq, d * 2, none⟩ = some (.slice A n c) ∧ w2.cell? ⟨gb, 0, none⟩ = some (.bool x.mark) ∧ w2.cell? ⟨gb, 1, none⟩ = some (.string x.key) ∧ w2.cell? ⟨gb, 2, none⟩ = some (.int .i64 x.time) ∧ w2.cell? ⟨gb, 3, none⟩ = some (.int .i64 x.value) ∧ w2.frozen? ⟨gq, d * 2, none⟩ = false) := Lib.hid (by
    intro w2 σ2 hc2
    have l1 := World.block_lt_of_cell? _ _ q0
    have l2 := World.block_lt_of_cell? _ _ b0
    have e1 := hc2.block gq (Nat.lt_of_lt_of_le l1 hba.size) (by rw [h.tq]; omega)
    have e2 := hc2.block gb (Nat.lt_of_lt_of_le l2 hba.size) (by rw [upd_new (Nat.le_refl _)]; omega)
    have mv : ∀ o, w2.cell? ⟨gb, o, none⟩ = W1.cell? ⟨gb, o, none⟩ := fun o => (World.cell?_of_block (a := ⟨gb, o, none⟩) e2).trans (hba.cell (p := ⟨gb, o, none⟩) l2)
    exact ⟨(World.cell?_of_block (a := ⟨gq, d * 2, none⟩) e1).trans ((hba.cell (p := ⟨gq, d * 2, none⟩) l1).trans q0), (mv 0).trans b0, (mv 1).trans b1, (mv 2).trans b2, (mv 3).trans b3, (World.frozen?_of_block (a := ⟨gq, d * 2, none⟩) e1).trans ((hba.frozen (p := ⟨gq, d * 2, none⟩) l1).trans hfz)⟩)
  have hc : (-1152921504606846976 ≤ x.time ∧ x.time ≤ 1152921504606846976) ∧ ((x.mark = true ∧ x.key.toList = [] ∧ x.value = 0) ∨ (x.mark = false ∧ ¬ x.key.toList = [] ∧ (x.key.size : Int) ≤ 32)) := by
    rcases hcases with ⟨hx, _⟩ | ⟨hx, _⟩ | ⟨hx, _⟩ | ⟨_, h⟩
    · omega
    · omega
    · omega
    · exact h
  clear hcases hbx hB hd hn hv hrow hput hm hF hnc h hba
  obtain ⟨⟨ht1, ht2⟩, hc⟩ := hc
  have hne1 := World.new_ne W1 _ q0
  have hne2 : ¬ gq = W1.heap.size := fun e => hne1 e.symm
  by_cases hfull : n = 65536
  · rw [if_pos hfull]
    have hF := Hn.out.2.2.2
    have hfin : ∃ σ', FlowAt W1 σ' t g F ∧ Chg (Of t) σ w σ' W1 := ⟨σ, hF.below H.out.2.2.1, Chg.of_below _ _ H.out.2.2.1⟩
    have Hfin := Lib.hid hfin
    subst hfull
    unfold itv
    obtain ⟨mk, key, tm, vl⟩ := x
    dsimp only at *
    clear hfin hF
    rcases hc with ⟨h1, h2, h3⟩ | ⟨h1, h2, h3⟩
    · subst h1
      have hv0 : (vl != 0) = false := by simp [h3]
      clear h3
      go_enter Try.func17, Try.ntmps17
      go_wp2_with fail
      clear hW1 hgb
      refine hof.mono ?_
      rintro e w1 ⟨rfl, rfl⟩
      go_wp2
      go_ret
      exact ⟨rfl, Hfin.out⟩
    · subst h1
      have h6 : key.toList.isEmpty = false := by simpa using h2
      go_enter Try.func17, Try.ntmps17
      go_wp2_with fail
      clear hW1 hgb
      refine hof.mono ?_
      rintro e w1 ⟨rfl, rfl⟩
      go_wp2
      go_ret
      exact ⟨rfl, Hfin.out⟩
  · rw [if_neg hfull]
    have hful2 : ((n : Int) == 65536) = false := by simp; omega
    unfold itv
    obtain ⟨mk, key, tm, vl⟩ := x
    dsimp only at *
    rcases hc with ⟨h1, h2, h3⟩ | ⟨h1, h2, h3⟩
    · subst h1
      have hv0 : (vl != 0) = false := by simp [h3]
      clear h3
      have kq : (W1.alloc (.cells #[.bool true, .string key, .int .i64 tm, .int .i64 vl] 33)).cell? ⟨gq, d * 2, none⟩ = some (.slice A n c) := (HB.out.cell (p := ⟨gq, d * 2, none⟩) (World.block_lt_of_cell? _ _ q0)).trans q0
      go_enter Try.func17, Try.ntmps17
      go_wp2_with fail
      clear hW1 hgb
      refine hof.mono ?_
      rintro e w1 ⟨rfl, rfl⟩
      go_wp2_with fail
      go_region_law (first | (refine step_append_srow (by rfl) _ _ 45 (by rfl) (upd σ gb 0) (t + 11 + d) 33 i3 _ 4 40 Try.underlying45 hi3 hz0 hz1 hz2 rfl (by omega) (.slice A n c) n (its (F.q d)) (by rfl) (Hrow.out.below HB.out) ⟨W1.heap.size, 0, none⟩ 1 1 (it ⟨true, key, tm, vl⟩) (by rfl) rfl (HNEW.out) (it_one _) (by unfold maxLen; omega) (by omega) ?_; intro v2 w2 hs2 hc2; obtain ⟨A2, c2, rfl, -⟩ := hs2.slice; obtain ⟨kk0, -, -, -, -, kkf⟩ := KK.out _ _ hc2) | fail)
      all_goals
        go_wp2
        go_ret
        exact ⟨rfl, put_end H.out.1 H.out.2.1 H.out.2.2.1 Hn.out.2.2.1 _ HB.out Hn.out.1 (by omega) hs2 hc2⟩
    · subst h1
      have h6 : key.toList.isEmpty = false := by simpa using h2
      have kq : (W1.alloc (.cells #[.bool false, .string key, .int .i64 tm, .int .i64 vl] 33)).cell? ⟨gq, d * 2, none⟩ = some (.slice A n c) := (HB.out.cell (p := ⟨gq, d * 2, none⟩) (World.block_lt_of_cell? _ _ q0)).trans q0
      go_enter Try.func17, Try.ntmps17
      go_wp2_with fail
      clear hW1 hgb
      refine hof.mono ?_
      rintro e w1 ⟨rfl, rfl⟩
      go_wp2_with fail
      go_region_law (first | (refine step_append_srow (by rfl) _ _ 45 (by rfl) (upd σ gb 0) (t + 11 + d) 33 i3 _ 4 40 Try.underlying45 hi3 hz0 hz1 hz2 rfl (by omega) (.slice A n c) n (its (F.q d)) (by rfl) (Hrow.out.below HB.out) ⟨W1.heap.size, 0, none⟩ 1 1 (it ⟨false, key, tm, vl⟩) (by rfl) rfl (HNEW.out) (it_one _) (by unfold maxLen; omega) (by omega) ?_; intro v2 w2 hs2 hc2; obtain ⟨A2, c2, rfl, -⟩ := hs2.slice; obtain ⟨kk0, -, -, -, -, kkf⟩ := KK.out _ _ hc2) | fail)
      all_goals
        go_wp2
        go_ret
        exact ⟨rfl, put_end H.out.1 H.out.2.1 H.out.2.2.1 Hn.out.2.2.1 _ HB.out Hn.out.1 (by omega) hs2 hc2⟩
end Go.Proofs.Ytapninpdjccglaa.C
