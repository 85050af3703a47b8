/-
  Locks: Quit; Has of a task that has nothing.
-/
import Derived.Test.YtgcnappgecdldaaE3
set_option linter.unusedVariables false
set_option linter.unusedSimpArgs false
namespace Go.Proofs.Ytgcnappgecdldaa.C
open Go.RowKit Go.Proofs.Ytgcnappgecdldaa.K Go.Maps

/-- What Quit does. -/
def Quits (M : Mgr) (task : Int) (M' : Mgr) (out : List Clm) : Prop :=
  (∃ i, i < M.has.length ∧ place M.has (fun c => c.task == task) = (i : Int) ∧ M' = (M.delHas i).pass ∧ out = (M.delHas i).thr.out) ∨
  (place M.has (fun c => c.task == task) = -1 ∧ ∃ i, i < M.queue.length ∧ place M.queue (fun c => c.task == task) = (i : Int) ∧ M' = (M.delQueue i).pass ∧ out = (M.delQueue i).thr.out) ∨
  (place M.has (fun c => c.task == task) = -1 ∧ place M.queue (fun c => c.task == task) = -1 ∧ M' = M ∧ out = [])
theorem place_hit {l : List Clm} {p : Clm → Bool} (h : l.any p = true) : ∃ i, ∃ hi : i < l.length, place l p = (i : Int) ∧ p l[i] = true := by
  have h0 := place_any l p
  rw [h, decide_eq_true_eq] at h0
  unfold place at h0 ⊢
  rcases hf : l.findIdx? p with _ | i
  · rw [hf] at h0; exact absurd h0 (by decide)
  · obtain ⟨hi, hp, _⟩ := List.findIdx?_eq_some_iff_getElem.1 hf
    exact ⟨i, hi, rfl, hp⟩
theorem place_cases (l : List Clm) (p : Clm → Bool) : place l p = -1 ∨ ∃ i, i < l.length ∧ place l p = (i : Int) := by
  rcases h : l.any p with _ | _
  · left
    exact place_none (fun c hc => by
      rw [List.any_eq_false] at h
      simpa using h c hc)
  · obtain ⟨i, hi, he, _⟩ := place_hit h
    exact .inr ⟨i, hi, he⟩
theorem quits_any (M : Mgr) (task : Int) : ∃ M' out, Quits M task M' out := by
  rcases place_cases M.has (fun c => c.task == task) with h | ⟨i, hi, h⟩
  · rcases place_cases M.queue (fun c => c.task == task) with h2 | ⟨i, hi, h2⟩
    · exact ⟨_, _, .inr (.inr ⟨h, h2, rfl, rfl⟩)⟩
    · exact ⟨_, _, .inr (.inl ⟨h, i, hi, h2, rfl, rfl⟩)⟩
  · exact ⟨_, _, .inl ⟨i, hi, h, rfl, rfl⟩⟩

set_option maxRecDepth 100000 in
set_option maxHeartbeats 3200000 in
theorem quit_c (w : World) (σ : Nat → Nat) (t g u : Nat) (hu : u < t ∨ t + 5 ≤ u) (M : Mgr) (h : MgrAt w σ t g M) (hs : M.has.length + M.queue.length ≤ 100000) (task : Int) (M' : Mgr) (out : List Clm) (hq : Quits M task M' out) :
    Calls Try.prog 29 #[.pointer (some ⟨g, 0, none⟩), .int .i64 task] w fun e w' => ∃ v, e = .returned v ∧ ∃ σ', MgrAt w' σ' t g M' ∧ Row w' σ' u 3 1 v out.length (tasks out) ∧ Chg (Om t) σ w σ' w' := by
  obtain ⟨vh, vq, h⟩ := h
  obtain ⟨Ah, ch, rfl⟩ := h.has.slice
  obtain ⟨Aq, cq, rfl⟩ := h.queue.slice
  obtain ⟨i1, hi1⟩ : ∃ i, place M.has (fun c => c.task == task) = i := ⟨_, rfl⟩
  obtain ⟨i2, hi2⟩ : ∃ i, place M.queue (fun c => c.task == task) = i := ⟨_, rfl⟩
  obtain ⟨nh, hnh⟩ : ∃ x, M.has.length = x := ⟨_, rfl⟩
  obtain ⟨nq, hnq⟩ : ∃ x, M.queue.length = x := ⟨_, rfl⟩
  have HC : Hid (∀ A n c i, ((A = Ah ∧ n = nh ∧ c = ch ∧ i = i1) ∨ (A = Aq ∧ n = nq ∧ c = cq ∧ i = i2)) → ∀ W, Below w.heap.size w W → Calls Try.prog 44 #[.slice A n c, .int .i64 task] W fun e w' => e = .returned (.int .i64 i) ∧ Below w.heap.size w w') := Lib.hid (fun A n c i hsel W hb => by
    rcases hsel with ⟨rfl, rfl, rfl, rfl⟩ | ⟨rfl, rfl, rfl, rfl⟩
    · have hf := find_c W A M.has.length c M.has rfl (by have := h.hl; omega) ((row_claims h.has (fun c hc => (h.sets c (.inl hc)).1)).below hb) task i hi1
      rw [hnh] at hf
      exact hf.mono (fun e w' ⟨he, h'⟩ => ⟨he, Below.then_ hb hb.size h'⟩)
    · have hf := find_c W A M.queue.length c M.queue rfl (by have := h.ql; omega) ((row_claims h.queue (fun c hc => (h.sets c (.inr hc)).1)).below hb) task i hi2
      rw [hnq] at hf
      exact hf.mono (fun e w' ⟨he, h'⟩ => ⟨he, Below.then_ hb hb.size h'⟩))
  have KS : Hid (∀ W, Below w.heap.size w W → W.cell? ⟨g, 1, none⟩ = some (.slice Ah nh ch) ∧ W.cell? ⟨g, 2, none⟩ = some (.slice Aq nq cq)) := Lib.hid (fun W hb => ⟨by rw [← hnh]; exact (h.below hb).c1, by rw [← hnq]; exact (h.below hb).c2⟩)
  have HDR : Hid (Below w.heap.size w w.drew) := Lib.hid (Below.refl _ _).drew
  unfold Quits at hq
  rw [hi1, hi2] at hq
  have H := Lib.hid (And.intro h (And.intro hs (And.intro hnh hnq)))
  have HU := Lib.hid hu
  have HQ := Lib.hid hq
  clear h hs hnh hnq hu hq hi1 hi2
  go_enter Try.func29, Try.ntmps29
  go_upto_region 1 with fail
  go_cut [5, 6] (fun a b w' => a = .int .i64 i1 ∧ b = .int .i64 i2 ∧ Below w.heap.size w w')
  case first =>
    go_region_held3 (fun W => W.cell? ⟨g, 1, none⟩ = some (.slice Ah nh ch) ∧ W.cell? ⟨g, 2, none⟩ = some (.slice Aq nq cq)) (first | exact KS.out _ (by first | assumption | exact HDR.out) | fail)
      ((first | (go_at_call 44; refine (HC.out _ _ _ _ (by first | exact .inl ⟨rfl, rfl, rfl, rfl⟩ | exact .inr ⟨rfl, rfl, rfl, rfl⟩) _ (by first | assumption | exact HDR.out)).mono ?_; rintro e w5 ⟨rfl, hb5⟩) | fail))
    go_wp2_with fail
    go_meet
    case rel => exact ⟨rfl, rfl, by assumption⟩
  case rest =>
    rename World => w2
    obtain ⟨rfl, rfl, hb2⟩ := hcut
    have h2 := H.out.1.below hb2
    have H2 := Lib.hid (And.intro h2 hb2)
    clear HC HDR
    rcases HQ.out with ⟨i, hi, rfl, rfl, rfl⟩ | ⟨rfl, i, hi, rfl, rfl, rfl⟩ | ⟨rfl, rfl, hM, rfl⟩
    · obtain ⟨gh, ch', eA, _, _⟩ := own_form h2.has.1 (by omega)
      obtain ⟨rfl, _, rfl⟩ : Ah = some ⟨gh, 0, none⟩ ∧ M.has.length = M.has.length ∧ ch = ch' := by cases eA; exact ⟨rfl, rfl, rfl⟩
      have hd : Calls Try.prog 48 #[.slice (some ⟨gh, 0, none⟩) nh ch, .int .i64 i, .int .i64 ((i : Int) + 1)] w2 fun e w' => _ := delete_c w2 0 gh nh ch M.has H.out.2.2.1 (by have := H.out.2.1; have := H.out.2.2.1; omega) (by have := h2.has.1; rw [H.out.2.2.1] at this; exact this) i (by have := H.out.2.2; omega)
      obtain ⟨d1, d2⟩ := KS.out w2 hb2
      have Hd := Lib.hid hd
      have z0 : ¬ ((i : Int) < 0) := by omega
      have z1 : i ≤ 100000 := by have := H.out.2.1; omega
      have z2 : (0 : Int) ≤ (i : Int) := by omega
      clear hd h2 hb2 d2 HQ eA
      go_wp2_with fail
      refine Hd.out.mono ?_
      rintro e w3 ⟨rfl, ho3, hg3⟩
      have h3 := H2.out.1.toDelHas (i := i) (v' := .slice (some ⟨gh, 0, none⟩) (nh - 1) ch) (w' := w3) hi (by rw [H.out.2.2.1]; exact ho3) hg3 rfl
      have cg := row_chgd (H2.out.1.has) hg3
      have hb := (H2.out.1.blk.chg cg (by omega)).1
      have f1 := hb.frozen 1
      have d3 : w3.cell? ⟨g, 1, none⟩ = some (.slice (some ⟨gh, 0, none⟩) nh ch) := by rw [hb.cell, H.out.2.2.1]; rfl
      have H3 := Lib.hid (And.intro h3.1 ((Chg.of_below (Om t) σ H2.out.2).trans h3.2))
      clear h3 cg hb ho3 hg3 H2 Hd d1
      go_wp2_with fail
      refine (through_c _ _ t g u HU.out (M.delHas i) H3.out.1 (by
        have := H.out.2.1
        have : (M.delHas i).has.length = M.has.length - 1 := by show (M.has.eraseIdx i).length = _; rw [List.length_eraseIdx, if_pos hi]
        show (M.delHas i).has.length + M.queue.length ≤ _
        omega)).mono ?_
      rintro e w5 ⟨v, rfl, σ', hm, hr, hc⟩
      have H5 := Lib.hid (And.intro hm (And.intro hr (H3.out.2.trans hc)))
      clear hm hr hc H3 H f1 d3
      go_wp2
      go_ret
      exact ⟨v, rfl, σ', H5.out⟩
    · obtain ⟨gq, cq', eA, _, _⟩ := own_form h2.queue.1 (by omega)
      obtain ⟨rfl, _, rfl⟩ : Aq = some ⟨gq, 0, none⟩ ∧ M.queue.length = M.queue.length ∧ cq = cq' := by cases eA; exact ⟨rfl, rfl, rfl⟩
      have hd : Calls Try.prog 48 #[.slice (some ⟨gq, 0, none⟩) nq cq, .int .i64 i, .int .i64 ((i : Int) + 1)] w2 fun e w' => _ := delete_c w2 0 gq nq cq M.queue H.out.2.2.2 (by have := H.out.2.1; have := H.out.2.2.2; omega) (by have := h2.queue.1; rw [H.out.2.2.2] at this; exact this) i (by have := H.out.2.2; omega)
      obtain ⟨d1, d2⟩ := KS.out w2 hb2
      have Hd := Lib.hid hd
      have z0 : ¬ ((i : Int) < 0) := by omega
      have z1 : i ≤ 100000 := by have := H.out.2.1; omega
      have z2 : (0 : Int) ≤ (i : Int) := by omega
      clear hd h2 hb2 d1 HQ eA
      go_wp2_with fail
      refine Hd.out.mono ?_
      rintro e w3 ⟨rfl, ho3, hg3⟩
      have h3 := H2.out.1.toDelQueue (i := i) (v' := .slice (some ⟨gq, 0, none⟩) (nq - 1) cq) (w' := w3) hi (by rw [H.out.2.2.2]; exact ho3) hg3 rfl
      have cg := row_chgd (H2.out.1.queue) hg3
      have hb := (H2.out.1.blk.chg cg (by omega)).1
      have f1 := hb.frozen 2
      have d3 : w3.cell? ⟨g, 2, none⟩ = some (.slice (some ⟨gq, 0, none⟩) nq cq) := by rw [hb.cell, H.out.2.2.2]; rfl
      have H3 := Lib.hid (And.intro h3.1 ((Chg.of_below (Om t) σ H2.out.2).trans h3.2))
      clear h3 cg hb ho3 hg3 H2 Hd d2
      go_wp2_with fail
      refine (through_c _ _ t g u HU.out (M.delQueue i) H3.out.1 (by
        have := H.out.2.1
        have : (M.delQueue i).queue.length = M.queue.length - 1 := by show (M.queue.eraseIdx i).length = _; rw [List.length_eraseIdx, if_pos hi]
        show M.has.length + (M.delQueue i).queue.length ≤ _
        omega)).mono ?_
      rintro e w5 ⟨v, rfl, σ', hm, hr, hc⟩
      have H5 := Lib.hid (And.intro hm (And.intro hr (H3.out.2.trans hc)))
      clear hm hr hc H3 H f1 d3
      go_wp2
      go_ret
      exact ⟨v, rfl, σ', H5.out⟩
    · have HM := Lib.hid hM
      clear hM
      have HF := Lib.hid (show MgrAt w2 σ t g M ∧ Chg (Om t) σ w σ w2 from ⟨⟨_, _, h2⟩, Chg.of_below (Om t) σ hb2⟩)
      clear h2 hb2 H2 H KS HQ
      go_wp2_with fail
      go_ret
      exact ⟨_, rfl, σ, by rw [HM.out]; exact HF.out.1, Row.nil _ _ _ _ _, HF.out.2⟩

set_option maxRecDepth 100000 in
theorem has_no (w : World) (σ : Nat → Nat) (t g : Nat) (M : Mgr) (h : MgrAt w σ t g M) (task : Int) (hj : M.has.any (fun c => c.task == task) = false) :
    Calls Try.prog 17 #[.pointer (some ⟨g, 0, none⟩), .int .i64 task] w fun e w' => e = .returned (.slice none 0 0) ∧ Below w.heap.size w w' := by
  obtain ⟨vh, vq, h⟩ := h
  obtain ⟨Ah, ch, rfl⟩ := h.has.slice
  obtain ⟨i1, hi1⟩ : ∃ i, place M.has (fun c => c.task == task) = i := ⟨_, rfl⟩
  have hd1 := place_any M.has (fun c => c.task == task)
  rw [hi1, hj] at hd1
  have hj1 : i1 < 0 := by simpa using hd1
  have hf1 := find_c w Ah M.has.length ch M.has rfl (by have := h.hl; omega) (row_claims h.has (fun c hc => (h.sets c (.inl hc)).1)) task i1 hi1
  have c1 := h.c1
  have HF := Lib.hid hf1
  clear h hf1 hd1 hi1 hj
  generalize M.has.length = n at c1 HF
  go_enter Try.func17, Try.ntmps17
  go_wp2_with fail
  refine HF.out.mono ?_
  rintro e w2 ⟨rfl, hb2⟩
  go_wp2_with fail
  go_ret
  exact ⟨rfl, hb2⟩
end Go.Proofs.Ytgcnappgecdldaa.C
