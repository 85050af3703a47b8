/-
  A queue told anew; its shift.
-/
import Derived.Test.YtapninpdjccglaaF5
set_option linter.unusedVariables false
set_option linter.unusedSimpArgs false
namespace Go.Proofs.Ytapninpdjccglaa.C
open Go.RowKit Go.Proofs.Ytapninpdjccglaa.K

theorem its_cons (x : It) (r : List It) : its (x :: r) = it x ++ its r := rfl
theorem its_append (a b : List It) : its (a ++ b) = its a ++ its b := by simp [its]
theorem its_length (L : List It) : (its L).length = L.length * 4 := by
  induction L with
  | nil => rfl
  | cons x r ih => rw [its_cons, List.length_append, ih]; simp [it]; omega

section
variable {w w' : World} {σ σ' : Nat → Nat} {t g : Nat} {F : FS} {gq gb : Nat} {qv : Nat → Value} {fi gr : Nat → Nat} {rc : Nat → Nat → Value}
theorem FlowIn.queue (h : FlowIn w σ t g F gq gb qv fi gr rc) {d : Nat} (hd : d < F.s) (v : Value) (n : Nat) (hn : n ≤ F.o) (L : List It) (hL : L.length ≤ 65536)
    (hq : w'.rowIs gq 79 (2 * F.s) (qCells (fun k => if k = d then n else F.to k) (fun k => if k = d then v else qv k))) (hr : SRow w' σ' (t + 11 + d) 33 4 v L.length (its L))
    (c : Chg (fun x => x = t + 1 ∨ x = t + 11 + d) σ w σ' w') :
    FlowIn w' σ' t g ((F.putq d L).putto d n) gq gb (fun k => if k = d then v else qv k) fi gr rc := by
  have hg := h.good
  have ho := hg.o2
  have hs := hg.s2
  refine ⟨⟨hg.s1, hg.s2, hg.o1, hg.o2, hg.m1, hg.m2, fun k hk => ?_, fun k hk => ?_, hg.b⟩, h.blk.chg c (by omega), hq, (c.marks _ h.rq.lt).trans h.tq, row_chg h.rb c (by rw [h.tb]; omega), (c.marks _ h.rb.lt).trans h.tb,
    fun k hk => row_chg (h.ring k hk) c (by rw [h.tr k hk]; have : k < F.o := hk; omega), fun k hk => (c.marks _ (h.ring k hk).lt).trans (h.tr k hk), fun k hk => ?_, h.fim, h.has⟩
  · show (if k = d then n else F.to k) ≤ F.o
    split
    · exact hn
    · exact hg.to k hk
  · show (if k = d then L else F.q k).length ≤ 65536
    split
    · exact hL
    · exact hg.q k hk
  · show SRow w' σ' (t + 11 + k) 33 4 (if k = d then v else qv k) (if k = d then L else F.q k).length (its (if k = d then L else F.q k))
    by_cases hkd : k = d
    · subst hkd
      simp only [if_true]
      exact hr
    · simp only [hkd, if_false]
      exact (h.qs k hk).chg c (by omega)
theorem qCells_set {tz : Nat → Nat} {qv : Nat → Value} {d n i : Nat} {v : Value} :
    (fun k => if k = d * 2 + 1 then Value.int .i64 ((n : Nat) : Int) else (fun k => if k = d * 2 then v else qCells tz qv k) k) i = qCells (fun k => if k = d then n else tz k) (fun k => if k = d then v else qv k) i := by
  unfold qCells
  by_cases h0 : i % 2 = 0
  · simp only [h0, if_true]
    rw [if_neg (by omega)]
    by_cases hd : i / 2 = d
    · rw [if_pos hd, if_pos (by omega)]
    · rw [if_neg hd, if_neg (by omega)]
  · simp only [h0, if_false]
    by_cases hd : i / 2 = d
    · rw [if_pos hd, if_pos (by omega)]
    · rw [if_neg hd, if_neg (by omega), if_neg (by omega)]
theorem qCells_set0 {tz : Nat → Nat} {qv : Nat → Value} {d i : Nat} {v : Value} :
    (fun k => if k = d * 2 then v else qCells tz qv k) i = qCells (fun k => if k = d then tz d else tz k) (fun k => if k = d then v else qv k) i := by
  unfold qCells
  by_cases h0 : i % 2 = 0
  · simp only [h0, if_true]
    by_cases hd : i / 2 = d
    · rw [if_pos hd, if_pos (by omega)]
    · rw [if_neg hd, if_neg (by omega)]
  · simp only [h0, if_false]
    rw [if_neg (by omega)]
    by_cases hd : i / 2 = d
    · rw [if_pos hd, hd]
    · rw [if_neg hd]
end

theorem srow_at {w : World} {σ : Nat → Nat} {t : Nat} {e : TypeId} {sz b off n cap : Nat} {xs : List Value} (h : SRow w σ t e sz (.slice (some ⟨b, off, none⟩) n cap) n xs) : ∀ j u, xs[j]? = some u → w.cell? ⟨b, off + j, none⟩ = some u := by
  intro j u hj
  obtain ⟨cur, hb, _, _, _, _, hx⟩ := h.block
  rw [hb.cell]
  rw [← hx, List.getElem?_take] at hj
  split at hj
  · rw [List.getElem?_drop] at hj
    simpa using hj
  · cases hj
theorem it_one (x : It) : ∀ v ∈ it x, v.oneCell' = true := by
  intro v hv
  simp [it] at hv
  rcases hv with rfl | rfl | rfl | rfl <;> rfl
theorem its_one (L : List It) : ∀ v ∈ its L, v.oneCell' = true := by
  intro v hv
  simp only [its, List.mem_flatMap] at hv
  obtain ⟨x, _, hx⟩ := hv
  exact it_one x v hx
theorem wpList_copy_sz {P : Program} {w : World} {ops : Array Oper} {rest : List Oper} {o : Oper} {a : Act} {Q : Exit → Act → World → Prop} (hgd : o.guard = none) (d s : Operand) (dT sT : TypeId)
    (ho : o.op = .call { callee := .builtin .copy, args := #[d, s], argTypes := #[dT, sT] }) (elem : TypeId) (sz : Nat) (hu : P.underlying dT = some (.slice elem)) (hsz : (P.info? elem).map (·.size) = some sz)
    (g off dLen dCap : Nat) (ad : Addr) (sLen sCap : Nat) (hd : a.eval d = .slice (some ⟨g, off, none⟩) dLen dCap) (hs : a.eval s = .slice (some ad) sLen sCap)
    (cs : List Value) (k : Nat) (hk : Nat.min sLen dLen = k) (hn : cs.length = k * sz)
    (hsrc : ∀ j v, cs[j]? = some v → w.cell? (ad.add j) = some v) (hc : ∀ j, j < cs.length → (w.cell? ⟨g, off + j, none⟩).isSome = true) (hf : ∀ j, j < cs.length → w.frozen? ⟨g, off + j, none⟩ = false) (h1 : ∀ v ∈ cs, v.oneCell' = true)
    (h : ∀ w', Hid (w' = w.setCells g off cs) → wpList P ops Q rest (a.put o.dst (goInt k)) w') : wpList P ops Q (o :: rest) a w := by
  refine wpList_plain hgd fun K hK => ?_
  have hrun := run_copy_sz (P := P) w dT sT o.type elem sz g off dLen dCap ad sLen sCap cs hu hsz k hk hn hsrc hc hf h1
  unfold Oper.wp
  simp [execOp, ho, resolve, invoke, builtin, hd, hs, hrun, Result.andThen]
  exact hK _ _ (h _ (Lib.hid rfl))

def zit : List Value := [.bool false, .string ⟨#[]⟩, .int .i64 0, .int .i64 0]
theorem setCells4z (W : World) (G o : Nat) (a b c d : Value) : (((W.setCell ⟨G, o, none⟩ a).setCell ⟨G, o + 1, none⟩ b).setCell ⟨G, o + 2, none⟩ c).setCell ⟨G, o + 3, none⟩ d = W.setCells G o [a, b, c, d] := (setCells4 W G o a b c d).symm

theorem info33' : (Try.prog.info? 33).map (fun i => (i.zero, i.size, i.bytes)) = some (some (.agg #[.bool false, .string ⟨#[]⟩, .int .i64 0, .int .i64 0]), 4, 40) := by kernel_rfl
theorem slice_one (W : World) (b off n cp : Nat) : (Instr.slice 45 (.slice (some ⟨b, off, none⟩) (n + 1) (cp + 1)) (some (.int .i64 1)) none none).run Try.prog W = .ok (.slice (some ⟨b, if cp = 0 then off else off + 4, none⟩) n cp) W := by
  have h := run_slice_l (P := Try.prog) (w := W) 45 (some ⟨b, off, none⟩) (n + 1) (cp + 1) (by kernel_rfl) .i64 1 (by omega) (by omega)
  rw [h]
  have hs : (sizeOf (Try.prog.elem 45)).run Try.prog W = .ok 4 W := by
    obtain ⟨i, hi, he⟩ := Option.map_eq_some_iff.1 info33'
    simp only [Prod.mk.injEq] at he
    have : Try.prog.elem 45 = 33 := by kernel_rfl
    rw [this]
    simp [sizeOf, typeInfo, hi, he.2.1]
  rw [hs]
  simp only [Result.andThen, sliced]
  by_cases hc : cp = 0
  · subst hc
    simp
  · rw [if_neg (by simp; omega), if_neg hc]
    simp [Addr.add]

set_option maxRecDepth 100000 in
set_option maxHeartbeats 1600000 in
theorem shift_c (w : World) (σ : Nat → Nat) (t g : Nat) (F : FS) (gq gb : Nat) (qv : Nat → Value) (fi gr : Nat → Nat) (rc : Nat → Nat → Value) (h : FlowIn w σ t g F gq gb qv fi gr rc) (d : Nat) (hd : d < F.s) (x : It) (L : List It) (hL : F.q d = x :: L) :
    Calls Try.prog 36 #[.pointer (some ⟨gq, d * 2, none⟩)] w fun e w' => e = .returned (.tuple #[]) ∧
      ∃ σ', FlowAt w' σ' t g ((F.putq d L).putto d 0) ∧ Chg (fun x => x = t + 1 ∨ x = t + 11 + d) σ w σ' w' := by
  have q0 := h.q0 hd
  have q1 := h.q1 hd
  have fq0 := h.rq.frozen (d * 2)
  have fq1 := h.rq.frozen (d * 2 + 1)
  have hrow := h.qs d hd
  rw [hL] at hrow
  obtain ⟨n, hn⟩ : ∃ n, L.length = n := ⟨_, rfl⟩
  obtain ⟨b, off, cap, hv, hnc, hcm, hsb, hbl, hcells, hfz⟩ := hrow.form (by simp)
  rw [List.length_cons, hn] at hv hnc
  rw [hv] at q0
  have i0 := hcells 0 (.bool x.mark) rfl
  have i1 := hcells 1 (.string x.key) rfl
  have i2 := hcells 2 (.int .i64 x.time) rfl
  have i3 := hcells 3 (.int .i64 x.value) rfl
  rw [Nat.add_zero] at i0
  have f0 := hfz off
  have f1 := hfz (off + 1)
  have f2 := hfz (off + 2)
  have f3 := hfz (off + 3)
  obtain ⟨cp, rfl⟩ : ∃ cp, cap = cp + 1 := ⟨cap - 1, by omega⟩
  have hbq : ¬ b = gq := by intro e; have := h.tq; rw [e] at hsb; omega
  have hqb : ¬ gq = b := fun e => hbq e.symm
  have hqlt := h.rq.lt
  have n1 : (0 : Int) < (n : Int) + 1 := by omega
  have hnq := h.good.q d hd
  rw [hL, List.length_cons, hn] at hnq
  have hnx : n ≤ cp := by omega
  unfold maxLen at hcm
  have Hrow := Lib.hid hrow
  have H := Lib.hid (And.intro h (And.intro hd hL))
  have Hn := Lib.hid (And.intro hn (And.intro hv hsb))
  clear h hd hL hn hv hsb hrow hcells hfz hnc
  go_enter Try.func36, Try.ntmps36
  go_upto_region 0 with fail
  go_cut [] (fun w' => Hid (w' = w.setCells b off zit))
  case first =>
    go_wp2_with fail
    go_meet
    case rel => exact Lib.hid (by rw [zit, setCells4])
  case rest =>
    rename World => w1
    have h1 := hcut
    clear hcut
    have k0 : w1.cell? ⟨gq, d * 2, none⟩ = some (.slice (some ⟨b, off, none⟩) (n + 1) (cp + 1)) := by rw [h1.out, World.cell?_setCells_out _ _ _ _ _ (fun e => absurd e hqb)]; exact q0
    have k1 : w1.cell? ⟨gq, d * 2 + 1, none⟩ = some (.int .i64 (F.to d : Nat)) := by rw [h1.out, World.cell?_setCells_out _ _ _ _ _ (fun e => absurd e hqb)]; exact q1
    have k2 : w1.frozen? ⟨gq, d * 2, none⟩ = false := by rw [h1.out, World.frozen?_setCells]; exact fq0
    have k3 : w1.frozen? ⟨gq, d * 2 + 1, none⟩ = false := by rw [h1.out, World.frozen?_setCells]; exact fq1
    obtain ⟨o2, ho2⟩ : ∃ o2, (if cp = 0 then off else off + 4) = o2 := ⟨_, rfl⟩
    have hsl := fun W => slice_one W b off n cp
    simp only [ho2] at hsl
    have Ho2 := Lib.hid ho2
    have Hq := Lib.hid (And.intro fq0 fq1)
    clear q0 q1 i0 i1 i2 i3 f0 f1 f2 f3 fq0 fq1 ho2
    go_upto_region 1 with fail
    go_cut [] (fun w' => Hid (w' = (w1.setCell ⟨gq, d * 2, none⟩ (.slice (some ⟨b, o2, none⟩) n cp)).setCell ⟨gq, d * 2 + 1, none⟩ (.int .i64 0)))
    case first =>
      go_wp2_with fail
      go_meet
      case rel => exact Lib.hid rfl
    case rest =>
      rename World => w2
      have h2 := hcut
      clear hcut hsl
      have rowq : w2.rowIs gq 79 (2 * F.s) (qCells (fun k => if k = d then 0 else F.to k) (fun k => if k = d then .slice (some ⟨b, o2, none⟩) n cp else qv k)) := by
        have r1 := row_far H.out.1.rq (G := b) (o := off) (vs := zit) hqb
        rw [← h1.out] at r1
        have r2 := (r1.set (d * 2) (.slice (some ⟨b, o2, none⟩) n cp)).set (d * 2 + 1) (.int .i64 ((0 : Nat) : Int))
        exact (show w2.rowIs gq 79 (2 * F.s) _ by rw [h2.out]; exact r2).congr (fun i _ => qCells_set)
      have hrow := Hrow.out
      rw [Hn.out.2.1, List.length_cons, Hn.out.1] at hrow
      obtain ⟨s1, c1⟩ := SRow.tail hrow zit rfl
      rw [← h1.out] at s1 c1
      have e1 : (if cp + 1 = 1 then off else off + 4) = o2 := by
        rw [← Ho2.out]
        by_cases h0 : cp = 0
        · rw [if_pos h0, if_pos (by omega)]
        · rw [if_neg h0, if_neg (by omega)]
      rw [e1, Nat.add_sub_cancel, its_cons, show (it x ++ its L).drop 4 = its L from rfl] at s1
      have c2 : Chg (fun x => x = t + 1 ∨ x = t + 11 + d) σ w σ w2 := by
        have c := ((c1.mono (S' := fun x => x = t + 1 ∨ x = t + 11 + d) (fun _ h => .inr h)).setCell (p := ⟨gq, d * 2, none⟩) (.inl (.inl H.out.1.tq)) (.slice (some ⟨b, o2, none⟩) n cp)).setCell (p := ⟨gq, d * 2 + 1, none⟩) (.inl (.inl H.out.1.tq)) (.int .i64 0)
        rw [← h2.out] at c
        exact c
      have s2 : SRow w2 σ (t + 11 + d) 33 4 (.slice (some ⟨b, o2, none⟩) n cp) n (its L) := by
        have c := ((Chg.refl (fun x => x = t + 1) σ w1).setCell (p := ⟨gq, d * 2, none⟩) (.inl H.out.1.tq) (.slice (some ⟨b, o2, none⟩) n cp)).setCell (p := ⟨gq, d * 2 + 1, none⟩) (.inl H.out.1.tq) (.int .i64 0)
        rw [← h2.out] at c
        exact s1.chg c (by omega)
      have p0 : w2.cell? ⟨gq, d * 2, none⟩ = some (.slice (some ⟨b, o2, none⟩) n cp) := by
        rw [rowq.cell (by have := H.out.2.1; omega)]
        have := qCells0 (fun k => if k = d then 0 else F.to k) (fun k => if k = d then (.slice (some ⟨b, o2, none⟩) n cp) else qv k) d
        simp only [if_true] at this
        rw [this]
      have p1 := rowq.frozen (d * 2)
      have H2 := Lib.hid (And.intro rowq (And.intro s2 c2))
      clear rowq s1 c1 e1 s2 c2 hrow k0 k1 k2 k3
      have hdiv : ((cp : Nat) : Int).tdiv 4 = ((cp / 4 : Nat) : Int) := by rw [Int.tdiv_eq_ediv_of_nonneg (by omega)]; omega
      obtain ⟨c4, hc4⟩ : ∃ c4, cp / 4 = c4 := ⟨_, rfl⟩
      rw [hc4] at hdiv
      have hc4b : c4 ≤ 9223372036854775807 := by omega
      have hc4i : (c4 : Int) ≤ 9223372036854775807 := by omega
      have hc4j : (0 : Int) ≤ (c4 : Int) := by omega
      have Hc4 := Lib.hid hc4
      clear hc4
      by_cases hsh : n < c4
      · have hs1 : (n : Int) < (c4 : Int) := by omega
        obtain ⟨i3, hi3, he3⟩ := Option.map_eq_some_iff.1 info33'
        simp only [Prod.mk.injEq] at he3
        have hmk := run_make_rowN (P := Try.prog) 45 33 i3 _ Try.underlying45 hi3 he3.1 .i64 .i64 n n (Nat.le_refl _) (by rw [he3.2.2]; omega) (by omega) w2.drew
        rw [he3.2.1] at hmk
        have hnb := Blk.new w2.drew 33 (madeCells (Value.agg #[.bool false, .string ⟨#[]⟩, .int .i64 0, .int .i64 0]).cells (n * 4))
        obtain ⟨g3, hg3⟩ : ∃ g3, w2.heap.size = g3 := ⟨_, rfl⟩
        rw [show w2.drew.heap.size = g3 from hg3] at hmk hnb
        have hb3 : Below w2.heap.size w2 (w2.drew.alloc (.cells (madeCells (Value.agg #[.bool false, .string ⟨#[]⟩, .int .i64 0, .int .i64 0]).cells (n * 4)) 33)) := (Below.refl _ _).drew.alloc (Nat.le_refl _) _
        obtain ⟨w3, hw3⟩ : ∃ w3, w2.drew.alloc (.cells (madeCells (Value.agg #[.bool false, .string ⟨#[]⟩, .int .i64 0, .int .i64 0]).cells (n * 4)) 33) = w3 := ⟨_, rfl⟩
        rw [hw3] at hmk hnb hb3
        have k0 := (hb3.cell (p := ⟨gq, d * 2, none⟩) (World.block_lt_of_cell? _ _ p0)).trans p0
        have k1 := (hb3.frozen (p := ⟨gq, d * 2, none⟩) (World.block_lt_of_cell? _ _ p0)).trans p1
        have H3 := Lib.hid (And.intro hb3 (And.intro hnb hg3))
        clear hb3 hnb hg3 hw3 he3 hi3
        go_wp2_with fail
        go_region
        have hz4 : (Try.prog.info? 33).map (·.size) = some 4 := by kernel_rfl
        have Hz4 := Lib.hid hz4
        clear hz4
        have hbl := Blk.setCells (its L) 0 w3 _ H3.out.2.1 (by rw [size_madeCells, its_length, Hn.out.1]; omega)
        have hcs : (spliced (madeCells (Value.agg #[.bool false, .string ⟨#[]⟩, .int .i64 0, .int .i64 0]).cells (n * 4)).toList 0 (its L)) = its L := by
          unfold spliced
          rw [List.take_zero, List.nil_append, List.drop_eq_nil_of_le (by rw [Array.length_toList, size_madeCells, its_length, Hn.out.1]; omega), List.append_nil]
        rw [hcs] at hbl
        have hgr := grown_setCells w3 g3 0 (its L)
        have hlt3 : g3 < w3.heap.size := H3.out.2.1.lt
        have hqn : ¬ gq = g3 := by have := H3.out.2.2; have := World.block_lt_of_cell? _ _ p0; simp only at this; omega
        have m0 : (w3.setCells g3 0 (its L)).cell? ⟨gq, d * 2, none⟩ = some (.slice (some ⟨b, o2, none⟩) n cp) := (World.cell?_of_block (a := ⟨gq, d * 2, none⟩) (hgr.block gq (World.block_lt_of_cell? _ _ k0) (by simpa using hqn))).trans k0
        have m1 : (w3.setCells g3 0 (its L)).frozen? ⟨gq, d * 2, none⟩ = false := (World.frozen?_of_block (a := ⟨gq, d * 2, none⟩) (hgr.block gq (World.block_lt_of_cell? _ _ k0) (by simpa using hqn))).trans k1
        have H4 := Lib.hid (And.intro hbl hgr)
        have M0 := Lib.hid (fun (w4 : World) (e : Hid (w4 = w3.setCells g3 0 (its L))) => (show w4.cell? ⟨gq, d * 2, none⟩ = some (.slice (some ⟨b, o2, none⟩) n cp) by rw [e.out]; exact m0))
        have M1 := Lib.hid (fun (w4 : World) (e : Hid (w4 = w3.setCells g3 0 (its L))) => (show w4.frozen? ⟨gq, d * 2, none⟩ = false by rw [e.out]; exact m1))
        clear hbl hgr hcs m0 m1
        have C1 : Hid ((its L).length = n * 4) := Lib.hid (by rw [its_length, Hn.out.1])
        have C2 : Hid (∀ j v, (its L)[j]? = some v → w3.cell? ((⟨b, o2, none⟩ : Addr).add j) = some v) := Lib.hid (by
          intro j v hj
          have h0 := srow_at H2.out.2.1 j v hj
          have hadd : (⟨b, o2, none⟩ : Addr).add j = ⟨b, o2 + j, none⟩ := by unfold Addr.add; split <;> simp_all
          rw [hadd]
          exact (H3.out.1.cell (p := ⟨b, o2 + j, none⟩) (World.block_lt_of_cell? _ _ h0)).trans h0)
        have C3 : Hid (∀ j, j < (its L).length → (w3.cell? ⟨g3, 0 + j, none⟩).isSome = true) := Lib.hid (by
          intro j hj
          rw [Nat.zero_add, H3.out.2.1.cell, Array.getElem?_eq_getElem (by rw [size_madeCells]; rw [its_length, Hn.out.1] at hj; exact hj)]
          rfl)
        have C4 : Hid (∀ j, j < (its L).length → w3.frozen? ⟨g3, 0 + j, none⟩ = false) := Lib.hid (by intro j hj; exact H3.out.2.1.frozen _)
        go_wp2_with (refine wpList_copy_sz (o := ⟨some 43, _, _, _, _, _⟩) (by rfl) _ _ 45 45 (by rfl) 33 4 Try.underlying45 Hz4.out g3 0 n n ⟨b, o2, none⟩ n cp (by rfl) (by rfl) (its L) n (show Nat.min n n = n from Nat.min_self n) C1.out C2.out C3.out C4.out (its_one L) ?_; intro w4 hw4; have m0 := M0.out w4 hw4; have m1 := M1.out w4 hw4)
        rw [← hw4.out] at H4
        go_end0
        have c3 : Chg (fun x => x = t + 1 ∨ x = t + 11 + d) σ w (upd σ g3 (t + 11 + d)) w4 :=
          (((H2.out.2.2.below H3.out.1).upd (by have := H2.out.2.2.size; have := H3.out.2.2; omega) (t + 11 + d)).grown H4.out.2 (fun q hq => by cases hq; right; have := H2.out.2.2.size; have := H3.out.2.2; omega))
        have c4 := c3.setCell (p := ⟨gq, d * 2, none⟩) (.inl (.inl (by show upd σ g3 (t + 11 + d) gq = t + 1; rw [upd_old (by have := H3.out.2.2; have := H2.out.1.lt; omega)]; exact H.out.1.tq))) (.slice (some ⟨g3, 0, none⟩) n n)
        have r3 := row_below H2.out.1 H3.out.1
        have r4 := (r3.of_block (H4.out.2.block gq r3.lt (by simpa using hqn))).set (d * 2) (.slice (some ⟨g3, 0, none⟩) n n)
        have r5 : (w4.setCell ⟨gq, d * 2, none⟩ (.slice (some ⟨g3, 0, none⟩) n n)).rowIs gq 79 (2 * F.s) (qCells (fun k => if k = d then 0 else F.to k) (fun k => if k = d then .slice (some ⟨g3, 0, none⟩) n n else qv k)) := r4.congr (fun i _ => by
          refine (qCells_set0 (tz := fun k => if k = d then 0 else F.to k) (qv := fun k => if k = d then .slice (some ⟨b, o2, none⟩) n cp else qv k) (d := d) (i := i) (v := .slice (some ⟨g3, 0, none⟩) n n)).trans ?_
          congr 1
          · funext k; by_cases hk : k = d <;> simp [hk]
          · funext k; by_cases hk : k = d <;> simp [hk])
        have s4 : SRow (w4.setCell ⟨gq, d * 2, none⟩ (.slice (some ⟨g3, 0, none⟩) n n)) (upd σ g3 (t + 11 + d)) (t + 11 + d) 33 4 (.slice (some ⟨g3, 0, none⟩) n n) n (its L) :=
          ⟨by rw [its_length, Hn.out.1], .inr ⟨g3, 0, n, _, rfl, H4.out.1.far (p := ⟨gq, d * 2, none⟩) (fun e => hqn e.symm) _, upd_new (Nat.le_refl _), Nat.le_refl _, by unfold maxLen; omega, by rw [List.size_toArray, its_length, Hn.out.1]; omega, by
            simp only [List.drop_zero]
            rw [List.take_of_length_le (by rw [its_length, Hn.out.1]; omega)]⟩⟩
        exact ⟨rfl, _, ⟨gq, gb, _, fi, gr, rc, FlowIn.queue H.out.1 H.out.2.1 (.slice (some ⟨g3, 0, none⟩) n n) 0 (by have := H.out.1.good.o1; omega) L (by rw [Hn.out.1]; omega) r5 (by rw [Hn.out.1]; exact s4) c4⟩, c4⟩
      · have hs1 : ¬ (n : Int) < (c4 : Int) := by omega
        go_wp2_with fail
        go_region
        all_goals
          go_wp2
          go_end0
          have hbd : Below w2.heap.size w2 w2.drew := (Below.refl _ _).drew
          refine ⟨rfl, σ, ⟨gq, gb, _, fi, gr, rc, FlowIn.queue H.out.1 H.out.2.1 (.slice (some ⟨b, o2, none⟩) n cp) 0 (by have := H.out.1.good.o1; omega) L (by rw [Hn.out.1]; omega) (row_below H2.out.1 hbd) (by rw [Hn.out.1]; exact H2.out.2.1.below hbd) (H2.out.2.2.below hbd)⟩, H2.out.2.2.below hbd⟩
end Go.Proofs.Ytapninpdjccglaa.C
