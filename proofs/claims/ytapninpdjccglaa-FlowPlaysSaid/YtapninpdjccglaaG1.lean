/-
  Pass.
-/
import Derived.Test.YtapninpdjccglaaF9
import Derived.WalkMore
import Derived.ScopeJumps
set_option linter.unusedVariables false
set_option linter.unusedSimpArgs false
namespace Go.Proofs.Ytapninpdjccglaa.C
open Go.RowKit Go.Proofs.Ytapninpdjccglaa.K

/-- Where a source's first item goes. -/
def FS.goes (F : FS) (d : Nat) (x : It) : Nat := if x.mark then F.to d else rtN F.o x.key
def FS.pass (F : FS) (i : Int) : Int × Int × FS :=
  if 0 ≤ i ∧ i < F.s then
    match F.q i.toNat with
    | [] => (0, 44, F)
    | x :: r =>
      if (F.b (F.goes i.toNat x)).length = F.m then (0, 45, F)
      else if x.mark = true ∧ F.to i.toNat + 1 < F.o then ((F.goes i.toNat x : Nat), 0, (F.putb (F.goes i.toNat x) (F.b (F.goes i.toNat x) ++ [⟨i, x⟩])).putto i.toNat (F.to i.toNat + 1))
      else ((F.goes i.toNat x : Nat), 0, ((F.putb (F.goes i.toNat x) (F.b (F.goes i.toNat x) ++ [⟨i, x⟩])).putq i.toNat r).putto i.toNat 0)
  else (0, 1, F)
def FOk (F : FS) : Prop := ∀ i, i < F.s → ∀ x ∈ F.q i, ItOk x
theorem FlowIn.below {w w' : World} {σ : Nat → Nat} {t g : Nat} {F : FS} {gq gb : Nat} {qv : Nat → Value} {fi gr : Nat → Nat} {rc : Nat → Nat → Value} (h : FlowIn w σ t g F gq gb qv fi gr rc) (hb : Below w.heap.size w w') : FlowIn w' σ t g F gq gb qv fi gr rc :=
  h.chg (Chg.of_below (fun _ => False) σ hb) (fun _ _ h => h)
def FTo (F : FS) : Prop := ∀ i, i < F.s → F.to i < F.o
theorem goes_lt {F : FS} (hg : FGood F) (hz : FTo F) {d : Nat} (hd : d < F.s) (x : It) : F.goes d x < F.o := by
  unfold FS.goes
  split
  · exact hz d hd
  · exact (rtN_eq F.o x.key hg.o1 (by have := hg.o2; omega)).2
theorem toward_goes {F : FS} {d : Nat} (hd : d < F.s) {x : It} {r : List It} (hL : F.q d = x :: r) : F.toward (d : Int) = (((F.goes d x : Nat) : Int), 0) := by
  unfold FS.toward FS.goes
  rw [if_pos (by omega), Int.toNat_natCast, hL]
  by_cases hx : x.mark = true
  · simp [hx]
  · simp [hx]

set_option maxRecDepth 100000 in
set_option maxHeartbeats 1600000 in
theorem pass_no (w : World) (σ : Nat → Nat) (t g : Nat) (F : FS) (hF : FlowAt w σ t g F) (hok : FOk F) (i : Int) (he : (F.toward i).2 ≠ 0) :
    Calls Try.prog 18 #[.pointer (some ⟨g, 0, none⟩), .int .i64 i] w fun e w' => e = .returned (.tuple #[.int .i64 0, .int .i64 (F.toward i).2]) ∧ Below w.heap.size w w' := by
  have hto := toward_c w σ t g F hF hok i
  obtain ⟨a, ha⟩ : ∃ a, (F.toward i).1 = a := ⟨_, rfl⟩
  obtain ⟨e, hee⟩ : ∃ e, (F.toward i).2 = e := ⟨_, rfl⟩
  rw [ha, hee] at hto
  rw [hee] at he ⊢
  have he2 : (e != 0) = true := by simpa using he
  have He := Lib.hid he2
  clear ha hee hF hok he he2
  go_enter Try.func18, Try.ntmps18
  go_wp2_with fail
  go_step3
  go_wp2_with fail
  refine hto.mono ?_
  rintro e' w1 ⟨rfl, hb⟩
  have he2 := He.out
  go_wp2
  try rw [Exit.noGoto_ret]
  go_ret2
  exact ⟨rfl, hb⟩

theorem qCells_set1 {tz : Nat → Nat} {qv : Nat → Value} {d n i : Nat} :
    (fun k => if k = d * 2 + 1 then Value.int .i64 ((n : Nat) : Int) else qCells tz qv k) i = qCells (fun k => if k = d then n else tz k) (fun k => if k = d then qv d else qv k) i := by
  unfold qCells
  by_cases h0 : i % 2 = 0
  · simp only [h0, if_true]
    rw [if_neg (by omega)]
    by_cases hd : i / 2 = d
    · rw [if_pos hd, hd]
    · rw [if_neg hd]
  · simp only [h0, if_false]
    by_cases hd : i / 2 = d
    · rw [if_pos hd, if_pos (by omega)]
    · rw [if_neg hd, if_neg (by omega)]
theorem putq_id (F : FS) (d : Nat) : F.putq d (F.q d) = F := by
  unfold FS.putq
  obtain ⟨a, b, c, q, e, f⟩ := F
  congr 1
  funext k
  by_cases hk : k = d <;> simp [hk]
theorem putto_putto (F : FS) (d n m : Nat) (L : List It) : ((F.putto d n).putq d L).putto d m = (F.putq d L).putto d m := by
  unfold FS.putto FS.putq
  congr 1
  funext k
  by_cases hk : k = d <;> simp [hk]
/-- One box further. -/
theorem FlowIn.next {w : World} {σ : Nat → Nat} {t g : Nat} {F : FS} {gq gb : Nat} {qv : Nat → Value} {fi gr : Nat → Nat} {rc : Nat → Nat → Value} (h : FlowIn w σ t g F gq gb qv fi gr rc) {d : Nat} (hd : d < F.s) (n : Nat) (hn : n ≤ F.o) :
    FlowIn (w.setCell ⟨gq, d * 2 + 1, none⟩ (.int .i64 (n : Nat))) σ t g (F.putto d n) gq gb (fun k => if k = d then qv d else qv k) fi gr rc ∧ Chg (fun x => x = t + 1 ∨ x = t + 11 + d) σ w σ (w.setCell ⟨gq, d * 2 + 1, none⟩ (.int .i64 (n : Nat))) := by
  have c := (Chg.refl (fun x => x = t + 1 ∨ x = t + 11 + d) σ w).setCell (p := ⟨gq, d * 2 + 1, none⟩) (.inl (.inl h.tq)) (.int .i64 ((n : Nat) : Int))
  have c1 := (Chg.refl (fun x => x = t + 1) σ w).setCell (p := ⟨gq, d * 2 + 1, none⟩) (.inl h.tq) (.int .i64 ((n : Nat) : Int))
  have r := (h.rq.set (d * 2 + 1) (.int .i64 ((n : Nat) : Int))).congr (fun i _ => qCells_set1 (tz := F.to) (qv := qv) (d := d) (n := n) (i := i))
  have := FlowIn.queue h hd (qv d) n hn (F.q d) (h.good.q d hd) r ((h.qs d hd).chg c1 (by omega)) c
  rw [putq_id] at this
  exact ⟨this, c⟩

set_option maxRecDepth 100000 in
set_option maxHeartbeats 3200000 in
theorem pass_yes (w : World) (σ : Nat → Nat) (t g : Nat) (F : FS) (hF : FlowAt w σ t g F) (hok : FOk F) (hz : FTo F) (d : Nat) (hd : d < F.s) (x : It) (r : List It) (hL : F.q d = x :: r) :
    Calls Try.prog 18 #[.pointer (some ⟨g, 0, none⟩), .int .i64 d] w fun e w' => e = .returned (.tuple #[.int .i64 (F.pass d).1, .int .i64 (F.pass d).2.1]) ∧ ∃ σ', FlowAt w' σ' t g (F.pass d).2.2 ∧ Chg (Of t) σ w σ' w' := by
  have hto := toward_c w σ t g F hF hok d
  rw [toward_goes hd hL] at hto
  have hp : F.pass (d : Int) = if (F.b (F.goes d x)).length = F.m then (0, 45, F)
      else if x.mark = true ∧ F.to d + 1 < F.o then (((F.goes d x : Nat) : Int), 0, (F.putb (F.goes d x) (F.b (F.goes d x) ++ [⟨d, x⟩])).putto d (F.to d + 1))
      else (((F.goes d x : Nat) : Int), 0, ((F.putb (F.goes d x) (F.b (F.goes d x) ++ [⟨d, x⟩])).putq d r).putto d 0) := by
    unfold FS.pass
    rw [if_pos (by omega), Int.toNat_natCast, hL]
  rw [hp]
  have hj := goes_lt hF.good hz hd x
  obtain ⟨j, hjj⟩ : ∃ j, F.goes d x = j := ⟨_, rfl⟩
  rw [hjj] at hj hto ⊢
  obtain ⟨gq, gb, qv, fi, gr, rc, h⟩ := hF
  have hg := h.good
  obtain ⟨s, hs⟩ : ∃ s, F.s = s := ⟨_, rfl⟩
  obtain ⟨o, ho⟩ : ∃ o, F.o = o := ⟨_, rfl⟩
  obtain ⟨m, hm⟩ : ∃ m, F.m = m := ⟨_, rfl⟩
  obtain ⟨n, hn⟩ : ∃ n, (F.b j).length = n := ⟨_, rfl⟩
  obtain ⟨k, hk⟩ : ∃ k, F.to d = k := ⟨_, rfl⟩
  obtain ⟨lq, hlq⟩ : ∃ lq, r.length = lq := ⟨_, rfl⟩
  have hrow := h.qs d hd
  rw [hL] at hrow
  obtain ⟨b, off, cap, hv, hnc, hcm, hsb, hbl, hcells, hfz⟩ := hrow.form (by simp)
  rw [List.length_cons, hlq] at hv hnc
  have facts : ∀ w1, Below w.heap.size w w1 → w1.cell? ⟨g, 0, none⟩ = some (.slice (some ⟨gq, 0, none⟩) s s) ∧ w1.cell? ⟨g, 1, none⟩ = some (.slice (some ⟨gb, 0, none⟩) o o) ∧ w1.cell? ⟨gb, j * 3, none⟩ = some (.slice (some ⟨gr j, 0, none⟩) m m) ∧ w1.cell? ⟨gb, j * 3 + 2, none⟩ = some (.int .i64 n) ∧
      w1.cell? ⟨gq, d * 2, none⟩ = some (.slice (some ⟨b, off, none⟩) (lq + 1) cap) ∧ w1.cell? ⟨b, off, none⟩ = some (.bool x.mark) ∧ w1.cell? ⟨b, off + 1, none⟩ = some (.string x.key) ∧ w1.cell? ⟨b, off + 2, none⟩ = some (.int .i64 x.time) ∧ w1.cell? ⟨b, off + 3, none⟩ = some (.int .i64 x.value) := by
    intro w1 hb
    have mv : ∀ p v, w.cell? p = some v → w1.cell? p = some v := fun p v hp => (hb.cell (p := p) (World.block_lt_of_cell? _ _ hp)).trans hp
    have h0 := h.c0
    have h1 := h.c1
    have h2 := h.b0 hj
    have h3 := h.b2 hj
    have h4 := h.q0 hd
    rw [hs] at h0
    rw [ho] at h1
    rw [hm] at h2
    rw [hn] at h3
    rw [hv] at h4
    exact ⟨mv _ _ h0, mv _ _ h1, mv _ _ h2, mv _ _ h3, mv _ _ h4, mv _ _ (hcells 0 _ rfl), mv _ _ (hcells 1 _ rfl), mv _ _ (hcells 2 _ rfl), mv _ _ (hcells 3 _ rfl)⟩
  have Facts := Lib.hid facts
  have H := Lib.hid (And.intro h (And.intro hd (And.intro hL (And.intro hj hg))))
  have Heq := Lib.hid (And.intro hs (And.intro ho (And.intro hm (And.intro hn (And.intro hk hlq)))))
  have d0 : (0 : Int) ≤ (d : Int) := by omega
  have d1 : (d : Int) < (s : Int) := by omega
  have j0 : (0 : Int) ≤ (j : Int) := by omega
  have j1 : (j : Int) < (o : Int) := by omega
  have l1 : (0 : Int) < (lq : Int) + 1 := by omega
  have hkb := hz d hd
  have hko := hg.o2
  have hnm := hg.b j hj
  have hmm := hg.m2
  rw [hk, ho] at hkb
  rw [ho] at hko
  rw [hn, hm] at hnm
  rw [hm] at hmm
  have Hv := Lib.hid hv
  clear hz hp hjj h hd hL hj hg hs ho hm hn hk hlq hrow hv hnc hcm hsb hbl hcells hfz facts hok
  by_cases hfull : n = m
  · have hfm : n = F.m := by have := Heq.out.2.2.1; omega
    rw [Heq.out.2.2.2.1, if_pos hfm]
    clear hfm
    subst hfull
    go_enter Try.func18, Try.ntmps18
    go_wp2_with fail
    go_step3
    go_wp2_with fail
    refine hto.mono ?_
    rintro e w1 ⟨rfl, hb1⟩
    obtain ⟨k0, k1, k2, k3, -⟩ := Facts.out w1 hb1
    go_wp2_with fail
    go_region_held3 (fun w' => w'.cell? ⟨g, 0, none⟩ = some (.slice (some ⟨gq, 0, none⟩) s s) ∧ w'.cell? ⟨g, 1, none⟩ = some (.slice (some ⟨gb, 0, none⟩) o o)) (go_keep) (fail)
    go_wp2_with fail
    go_region_held3 (fun w' => w'.cell? ⟨gb, j * 3, none⟩ = some (.slice (some ⟨gr j, 0, none⟩) n n) ∧ w'.cell? ⟨gb, j * 3 + 2, none⟩ = some (.int .i64 n)) (go_keep) (fail)
    go_wp2
    try rw [Exit.noGoto_ret]
    go_ret2
    have hbd : Below w.heap.size w w1.drew.drew := hb1.drew.drew
    exact ⟨rfl, σ, ⟨_, _, _, _, _, _, H.out.1.below hbd⟩, Chg.of_below _ _ hbd⟩
  · have hfm : ¬ n = F.m := by have := Heq.out.2.2.1; omega
    rw [Heq.out.2.2.2.1, if_neg hfm, Heq.out.2.2.2.2.1, Heq.out.2.1]
    clear hfm
    have hfb : ((n : Int) == (m : Int)) = false := by simp; omega
    by_cases hmk : x.mark = true
    · have Hmk := Lib.hid hmk
      by_cases hlast : k + 1 < o
      · rw [if_pos ⟨hmk, hlast⟩]
        clear hmk
        have hl2 : (k : Int) + 1 < (o : Int) := by omega
        go_enter Try.func18, Try.ntmps18
        go_wp2_with fail
        go_step3
        go_wp2_with fail
        refine hto.mono ?_
        rintro e w1 ⟨rfl, hb1⟩
        obtain ⟨k0, k1, k2, k3, k4, i0, i1, i2, i3⟩ := Facts.out w1 hb1
        go_wp2_with fail
        go_region_held3 (fun w' => w'.cell? ⟨g, 0, none⟩ = some (.slice (some ⟨gq, 0, none⟩) s s) ∧ w'.cell? ⟨g, 1, none⟩ = some (.slice (some ⟨gb, 0, none⟩) o o)) (go_keep) (fail)
        go_wp2_with fail
        go_region_held3 (fun w' => w'.cell? ⟨gb, j * 3, none⟩ = some (.slice (some ⟨gr j, 0, none⟩) m m) ∧ w'.cell? ⟨gb, j * 3 + 2, none⟩ = some (.int .i64 n)) (go_keep) (fail)
        go_wp2_with fail
        have hbd : Below w.heap.size w w1.drew.drew := hb1.drew.drew
        have h1 := H.out.1.below hbd
        refine (put_c _ σ t g F gq gb qv fi gr rc h1 j H.out.2.2.2.1 (by have := Heq.out.2.2.2.1; have := Heq.out.2.2.1; omega) ⟨d, x⟩).mono ?_
        rintro e w2 ⟨rfl, ⟨fi', rc', h2⟩, hc2⟩
        have q0 := h2.q0 (i := d) H.out.2.1
        have q1 := h2.q1 (i := d) H.out.2.1
        have hr2 := h2.qs d H.out.2.1
        have hb2 := h2.c1
        rw [show (F.putb j (F.b j ++ [⟨d, x⟩])).to d = k from Heq.out.2.2.2.2.1] at q1
        rw [show (F.putb j (F.b j ++ [⟨d, x⟩])).o = o from Heq.out.2.1] at hb2
        rw [show (F.putb j (F.b j ++ [⟨d, x⟩])).q d = x :: r from H.out.2.2.1, Hv.out] at hr2
        rw [Hv.out] at q0
        rw [List.length_cons, Heq.out.2.2.2.2.2] at hr2
        have m0 := srow_at hr2 0 (.bool x.mark) rfl
        rw [Nat.add_zero] at m0
        have fz := h2.rq.frozen (d * 2 + 1)
        have hc3 : Chg (Of t) σ w σ w2 := (Chg.of_below (Of t) σ hbd).trans (hc2.mono (fun y hy => by unfold Of; have := H.out.2.2.2.1; have := H.out.2.2.2.2.o2; omega))
        have hgqb : gq < w2.heap.size := h2.rq.lt
        have hne : ¬ gq = g := by intro e; have e1 := h2.tq; have e2 := h2.blk.2; rw [e] at e1; omega
        have hne2 : ¬ g = gq := fun e => hne e.symm
        have H2 := Lib.hid (And.intro h2 hc3)
        have hmk := Hmk.out
        rw [hmk] at m0
        clear k0 k1 k2 k3 k4 i0 i1 i2 i3 h1 hbd hb1 hc2 hr2 h2 hc3 hmk hto
        go_wp2_with fail
        have c1 : (w2.setCell ⟨gq, d * 2 + 1, none⟩ (.int .i64 ((k : Int) + 1))).cell? ⟨gq, d * 2 + 1, none⟩ = some (.int .i64 ((k : Int) + 1)) := World.cell?_setCell_same _ _ _ q1
        have c2 : (w2.setCell ⟨gq, d * 2 + 1, none⟩ (.int .i64 ((k : Int) + 1))).cell? ⟨g, 1, none⟩ = some (.slice (some ⟨gb, 0, none⟩) o o) := (World.cell?_of_block (a := ⟨g, 1, none⟩) (Below.heap_setCell w2 ⟨gq, d * 2 + 1, none⟩ _ g hne2)).trans hb2
        go_region_held3 (fun w' => w'.cell? ⟨gq, d * 2 + 1, none⟩ = some (.int .i64 ((k : Int) + 1)) ∧ w'.cell? ⟨g, 1, none⟩ = some (.slice (some ⟨gb, 0, none⟩) o o)) (first | exact ⟨c1, c2⟩ | go_keep) (fail)
        obtain ⟨hn1, hcn⟩ := FlowIn.next H2.out.1 (d := d) H.out.2.1 (k + 1) (by have := Heq.out.2.1; show k + 1 ≤ F.o; omega)
        have hbd3 : Below (w2.setCell ⟨gq, d * 2 + 1, none⟩ (.int .i64 ((k : Int) + 1))).heap.size (w2.setCell ⟨gq, d * 2 + 1, none⟩ (.int .i64 ((k : Int) + 1))) (w2.setCell ⟨gq, d * 2 + 1, none⟩ (.int .i64 ((k : Int) + 1))).drew := (Below.refl _ _).drew
        have hn2 := hn1.below hbd3
        have hc4 : Chg (Of t) σ w σ (w2.setCell ⟨gq, d * 2 + 1, none⟩ (.int .i64 ((k : Int) + 1))).drew := (H2.out.2.trans (hcn.mono (fun y hy => by unfold Of; have := H.out.2.1; have := H.out.2.2.2.2.s2; omega))).below hbd3
        go_wp2
        try rw [Exit.noGoto_ret]
        go_ret2
        exact ⟨rfl, σ, ⟨_, _, _, _, _, _, hn2⟩, hc4⟩
      · rw [if_neg (fun h => hlast h.2)]
        clear hmk
        have hl2 : ¬ (k : Int) + 1 < (o : Int) := by omega
        go_enter Try.func18, Try.ntmps18
        go_wp2_with fail
        go_step3
        go_wp2_with fail
        refine hto.mono ?_
        rintro e w1 ⟨rfl, hb1⟩
        obtain ⟨k0, k1, k2, k3, k4, i0, i1, i2, i3⟩ := Facts.out w1 hb1
        go_wp2_with fail
        go_region_held3 (fun w' => w'.cell? ⟨g, 0, none⟩ = some (.slice (some ⟨gq, 0, none⟩) s s) ∧ w'.cell? ⟨g, 1, none⟩ = some (.slice (some ⟨gb, 0, none⟩) o o)) (go_keep) (fail)
        go_wp2_with fail
        go_region_held3 (fun w' => w'.cell? ⟨gb, j * 3, none⟩ = some (.slice (some ⟨gr j, 0, none⟩) m m) ∧ w'.cell? ⟨gb, j * 3 + 2, none⟩ = some (.int .i64 n)) (go_keep) (fail)
        go_wp2_with fail
        have hbd : Below w.heap.size w w1.drew.drew := hb1.drew.drew
        have h1 := H.out.1.below hbd
        refine (put_c _ σ t g F gq gb qv fi gr rc h1 j H.out.2.2.2.1 (by have := Heq.out.2.2.2.1; have := Heq.out.2.2.1; omega) ⟨d, x⟩).mono ?_
        rintro e w2 ⟨rfl, ⟨fi', rc', h2⟩, hc2⟩
        have q0 := h2.q0 (i := d) H.out.2.1
        have q1 := h2.q1 (i := d) H.out.2.1
        have hr2 := h2.qs d H.out.2.1
        have hb2 := h2.c1
        rw [show (F.putb j (F.b j ++ [⟨d, x⟩])).to d = k from Heq.out.2.2.2.2.1] at q1
        rw [show (F.putb j (F.b j ++ [⟨d, x⟩])).o = o from Heq.out.2.1] at hb2
        rw [show (F.putb j (F.b j ++ [⟨d, x⟩])).q d = x :: r from H.out.2.2.1, Hv.out] at hr2
        rw [Hv.out] at q0
        rw [List.length_cons, Heq.out.2.2.2.2.2] at hr2
        have m0 := srow_at hr2 0 (.bool x.mark) rfl
        rw [Nat.add_zero] at m0
        have fz := h2.rq.frozen (d * 2 + 1)
        have hc3 : Chg (Of t) σ w σ w2 := (Chg.of_below (Of t) σ hbd).trans (hc2.mono (fun y hy => by unfold Of; have := H.out.2.2.2.1; have := H.out.2.2.2.2.o2; omega))
        have hgqb : gq < w2.heap.size := h2.rq.lt
        have hne : ¬ gq = g := by intro e; have e1 := h2.tq; have e2 := h2.blk.2; rw [e] at e1; omega
        have hne2 : ¬ g = gq := fun e => hne e.symm
        have H2 := Lib.hid (And.intro h2 hc3)
        have hmk := Hmk.out
        rw [hmk] at m0
        clear k0 k1 k2 k3 k4 i0 i1 i2 i3 h1 hbd hb1 hc2 hr2 h2 hc3 hmk hto
        go_wp2_with fail
        have c1 : (w2.setCell ⟨gq, d * 2 + 1, none⟩ (.int .i64 ((k : Int) + 1))).cell? ⟨gq, d * 2 + 1, none⟩ = some (.int .i64 ((k : Int) + 1)) := World.cell?_setCell_same _ _ _ q1
        have c2 : (w2.setCell ⟨gq, d * 2 + 1, none⟩ (.int .i64 ((k : Int) + 1))).cell? ⟨g, 1, none⟩ = some (.slice (some ⟨gb, 0, none⟩) o o) := (World.cell?_of_block (a := ⟨g, 1, none⟩) (Below.heap_setCell w2 ⟨gq, d * 2 + 1, none⟩ _ g hne2)).trans hb2
        go_region_held3 (fun w' => w'.cell? ⟨gq, d * 2 + 1, none⟩ = some (.int .i64 ((k : Int) + 1)) ∧ w'.cell? ⟨g, 1, none⟩ = some (.slice (some ⟨gb, 0, none⟩) o o)) (first | exact ⟨c1, c2⟩ | go_keep) (fail)
        obtain ⟨hn1, hcn⟩ := FlowIn.next H2.out.1 (d := d) H.out.2.1 (k + 1) (by have := Heq.out.2.1; show k + 1 ≤ F.o; omega)
        have hbd3 : Below (w2.setCell ⟨gq, d * 2 + 1, none⟩ (.int .i64 ((k : Int) + 1))).heap.size (w2.setCell ⟨gq, d * 2 + 1, none⟩ (.int .i64 ((k : Int) + 1))) (w2.setCell ⟨gq, d * 2 + 1, none⟩ (.int .i64 ((k : Int) + 1))).drew := (Below.refl _ _).drew
        have hn2 := hn1.below hbd3
        have hc4 : Chg (Of t) σ w σ (w2.setCell ⟨gq, d * 2 + 1, none⟩ (.int .i64 ((k : Int) + 1))).drew := (H2.out.2.trans (hcn.mono (fun y hy => by unfold Of; have := H.out.2.1; have := H.out.2.2.2.2.s2; omega))).below hbd3
        go_wp2_with fail
        go_step3
        go_wp2_with fail
        refine (shift_c _ σ t g _ gq gb _ fi' gr rc' hn2 d H.out.2.1 x r H.out.2.2.1).mono ?_
        rintro e w4 ⟨rfl, σ4, h4, hc5⟩
        rw [putto_putto] at h4
        go_wp2
        try rw [Exit.noGoto_ret]
        go_ret2
        exact ⟨rfl, σ4, h4, hc4.trans (hc5.mono (fun y hy => by unfold Of; have := H.out.2.1; have := H.out.2.2.2.2.s2; omega))⟩
    · have Hmk := Lib.hid (show x.mark = false by simpa using hmk)
      rw [if_neg (fun h => hmk h.1)]
      clear hmk
      go_enter Try.func18, Try.ntmps18
      go_wp2_with fail
      refine wp_scope_jumps 0 (fun a' w' => ∃ u2 u3 u4 u5 u7 u8 u10 u11 u12 u13 u14 u15 u16 u17 u18 u19 u20 u21 u22 u23 u24 u25 u26 u27 u28 u29 u30 u31 u32 u33 u34 u35 u36 u37 u38 u39 u40 u41 u42 u43 u44 u45 u46 u47 u48 u49 u50 u51 u52 u53 u54 u55 u56 u57 u58 u59 u60 u61 u62 u63 u64 u65 u66 u67 u68 u69 u70 u71 u72 u73 u74 u75 u76 u77 u78 u79 : Value, a' = ⟨#[.pointer (some ⟨g, 0, none⟩), .int .i64 d, u2, u3, u4, u5, .int .i64 j, u7, u8, .pointer (some ⟨gq, d * 2, none⟩), u10, u11, u12, u13, u14, u15, u16, u17, u18, u19, u20, u21, u22, u23, u24, u25, u26, u27, u28, u29, u30, u31, u32, u33, u34, u35, u36, u37, u38, u39, u40, u41, u42, u43, u44, u45, u46, u47, u48, u49, u50, u51, u52, u53, u54, u55, u56, u57, u58, u59, u60, u61, u62, u63, u64, u65, u66, u67, u68, u69, u70, u71, u72, u73, u74, u75, u76, u77, u78, u79], []⟩ ∧ (∃ fi' rc', FlowIn w' σ t g (F.putb j (F.b j ++ [⟨d, x⟩])) gq gb qv fi' gr rc') ∧ Chg (Of t) σ w σ w') (fun _ _ => 0) rfl ?_ ?_
      rotate_left
      · intro a' w' hJ
        obtain ⟨u2, hJ⟩ := hJ
        obtain ⟨u3, hJ⟩ := hJ
        obtain ⟨u4, hJ⟩ := hJ
        obtain ⟨u5, hJ⟩ := hJ
        obtain ⟨u7, hJ⟩ := hJ
        obtain ⟨u8, hJ⟩ := hJ
        obtain ⟨u10, hJ⟩ := hJ
        obtain ⟨u11, hJ⟩ := hJ
        obtain ⟨u12, hJ⟩ := hJ
        obtain ⟨u13, hJ⟩ := hJ
        obtain ⟨u14, hJ⟩ := hJ
        obtain ⟨u15, hJ⟩ := hJ
        obtain ⟨u16, hJ⟩ := hJ
        obtain ⟨u17, hJ⟩ := hJ
        obtain ⟨u18, hJ⟩ := hJ
        obtain ⟨u19, hJ⟩ := hJ
        obtain ⟨u20, hJ⟩ := hJ
        obtain ⟨u21, hJ⟩ := hJ
        obtain ⟨u22, hJ⟩ := hJ
        obtain ⟨u23, hJ⟩ := hJ
        obtain ⟨u24, hJ⟩ := hJ
        obtain ⟨u25, hJ⟩ := hJ
        obtain ⟨u26, hJ⟩ := hJ
        obtain ⟨u27, hJ⟩ := hJ
        obtain ⟨u28, hJ⟩ := hJ
        obtain ⟨u29, hJ⟩ := hJ
        obtain ⟨u30, hJ⟩ := hJ
        obtain ⟨u31, hJ⟩ := hJ
        obtain ⟨u32, hJ⟩ := hJ
        obtain ⟨u33, hJ⟩ := hJ
        obtain ⟨u34, hJ⟩ := hJ
        obtain ⟨u35, hJ⟩ := hJ
        obtain ⟨u36, hJ⟩ := hJ
        obtain ⟨u37, hJ⟩ := hJ
        obtain ⟨u38, hJ⟩ := hJ
        obtain ⟨u39, hJ⟩ := hJ
        obtain ⟨u40, hJ⟩ := hJ
        obtain ⟨u41, hJ⟩ := hJ
        obtain ⟨u42, hJ⟩ := hJ
        obtain ⟨u43, hJ⟩ := hJ
        obtain ⟨u44, hJ⟩ := hJ
        obtain ⟨u45, hJ⟩ := hJ
        obtain ⟨u46, hJ⟩ := hJ
        obtain ⟨u47, hJ⟩ := hJ
        obtain ⟨u48, hJ⟩ := hJ
        obtain ⟨u49, hJ⟩ := hJ
        obtain ⟨u50, hJ⟩ := hJ
        obtain ⟨u51, hJ⟩ := hJ
        obtain ⟨u52, hJ⟩ := hJ
        obtain ⟨u53, hJ⟩ := hJ
        obtain ⟨u54, hJ⟩ := hJ
        obtain ⟨u55, hJ⟩ := hJ
        obtain ⟨u56, hJ⟩ := hJ
        obtain ⟨u57, hJ⟩ := hJ
        obtain ⟨u58, hJ⟩ := hJ
        obtain ⟨u59, hJ⟩ := hJ
        obtain ⟨u60, hJ⟩ := hJ
        obtain ⟨u61, hJ⟩ := hJ
        obtain ⟨u62, hJ⟩ := hJ
        obtain ⟨u63, hJ⟩ := hJ
        obtain ⟨u64, hJ⟩ := hJ
        obtain ⟨u65, hJ⟩ := hJ
        obtain ⟨u66, hJ⟩ := hJ
        obtain ⟨u67, hJ⟩ := hJ
        obtain ⟨u68, hJ⟩ := hJ
        obtain ⟨u69, hJ⟩ := hJ
        obtain ⟨u70, hJ⟩ := hJ
        obtain ⟨u71, hJ⟩ := hJ
        obtain ⟨u72, hJ⟩ := hJ
        obtain ⟨u73, hJ⟩ := hJ
        obtain ⟨u74, hJ⟩ := hJ
        obtain ⟨u75, hJ⟩ := hJ
        obtain ⟨u76, hJ⟩ := hJ
        obtain ⟨u77, hJ⟩ := hJ
        obtain ⟨u78, hJ⟩ := hJ
        obtain ⟨u79, hJ⟩ := hJ
        obtain ⟨rfl, ⟨fi', rc', h2⟩, hc3⟩ := hJ
        go_wp2_with fail
        try (go_step3; go_wp2_with fail)
        refine (shift_c _ σ t g _ gq gb _ fi' gr rc' h2 d H.out.2.1 x r H.out.2.2.1).mono ?_
        rintro e w4 ⟨rfl, σ4, h4, hc5⟩
        go_wp2
        simp only [Exit.jump]
        go_ret2
        exact ⟨rfl, σ4, h4, hc3.trans (hc5.mono (fun y hy => by unfold Of; have := H.out.2.1; have := H.out.2.2.2.2.s2; omega))⟩
      go_wp2_with fail
      refine hto.mono ?_
      rintro e w1 ⟨rfl, hb1⟩
      obtain ⟨k0, k1, k2, k3, k4, i0, i1, i2, i3⟩ := Facts.out w1 hb1
      go_wp2_with fail
      go_region_held3 (fun w' => w'.cell? ⟨g, 0, none⟩ = some (.slice (some ⟨gq, 0, none⟩) s s) ∧ w'.cell? ⟨g, 1, none⟩ = some (.slice (some ⟨gb, 0, none⟩) o o)) (go_keep) (fail)
      go_wp2_with fail
      go_region_held3 (fun w' => w'.cell? ⟨gb, j * 3, none⟩ = some (.slice (some ⟨gr j, 0, none⟩) m m) ∧ w'.cell? ⟨gb, j * 3 + 2, none⟩ = some (.int .i64 n)) (go_keep) (fail)
      go_wp2_with fail
      have hbd : Below w.heap.size w w1.drew.drew := hb1.drew.drew
      have h1 := H.out.1.below hbd
      refine (put_c _ σ t g F gq gb qv fi gr rc h1 j H.out.2.2.2.1 (by have := Heq.out.2.2.2.1; have := Heq.out.2.2.1; omega) ⟨d, x⟩).mono ?_
      rintro e w2 ⟨rfl, ⟨fi', rc', h2⟩, hc2⟩
      have q0 := h2.q0 (i := d) H.out.2.1
      have q1 := h2.q1 (i := d) H.out.2.1
      have hr2 := h2.qs d H.out.2.1
      have hb2 := h2.c1
      rw [show (F.putb j (F.b j ++ [⟨d, x⟩])).to d = k from Heq.out.2.2.2.2.1] at q1
      rw [show (F.putb j (F.b j ++ [⟨d, x⟩])).o = o from Heq.out.2.1] at hb2
      rw [show (F.putb j (F.b j ++ [⟨d, x⟩])).q d = x :: r from H.out.2.2.1, Hv.out] at hr2
      rw [Hv.out] at q0
      rw [List.length_cons, Heq.out.2.2.2.2.2] at hr2
      have m0 := srow_at hr2 0 (.bool x.mark) rfl
      rw [Nat.add_zero] at m0
      have fz := h2.rq.frozen (d * 2 + 1)
      have hc3 : Chg (Of t) σ w σ w2 := (Chg.of_below (Of t) σ hbd).trans (hc2.mono (fun y hy => by unfold Of; have := H.out.2.2.2.1; have := H.out.2.2.2.2.o2; omega))
      have hgqb : gq < w2.heap.size := h2.rq.lt
      have hne : ¬ gq = g := by intro e; have e1 := h2.tq; have e2 := h2.blk.2; rw [e] at e1; omega
      have hne2 : ¬ g = gq := fun e => hne e.symm
      have H2 := Lib.hid (And.intro h2 hc3)
      have hmk := Hmk.out
      rw [hmk] at m0
      clear k0 k1 k2 k3 k4 i0 i1 i2 i3 h1 hbd hb1 hc2 hr2 h2 hc3 hmk hto
      go_wp2_with fail
      go_step3
      refine ⟨rfl, ?_⟩
      repeat apply Exists.intro
      exact ⟨rfl, ⟨_, _, H2.out.1⟩, H2.out.2⟩
end Go.Proofs.Ytapninpdjccglaa.C
