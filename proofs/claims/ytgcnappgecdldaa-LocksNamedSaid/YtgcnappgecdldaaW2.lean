/-
  Locks: the plain law of LocksWide: the pass over the queue; what a set holds.
-/
import Derived.Test.YtgcnappgecdldaaW1
set_option linter.unusedVariables false
set_option linter.unusedSimpArgs false
namespace Go.Proofs.Ytgcnappgecdldaa.C
open Go.RowKit Go.Proofs.Ytgcnappgecdldaa.K Go.Maps

theorem TS.go_has (l : List Clm) : ∀ s : TS, (s.go l).has = [] → s.left = [] → l = [] := by
  induction l with
  | nil => intro _ _ _; rfl
  | cons c r ih =>
    intro s h hl
    have e : s.go (c :: r) = (s.step c).go r := rfl
    rw [e] at h
    have hlen := (TS.go_len r (s.step c)).2.1
    rw [h] at hlen
    have h0 : (s.step c).has = [] := List.eq_nil_of_length_eq_zero (by simp at hlen; omega)
    rcases hs : s.stops c with _ | _
    · rw [TS.step_no hs] at h0
      simp at h0
    · rw [TS.step_yes hs] at h0
      have h1 : s.has = [] := h0
      unfold TS.stops at hs
      rw [h1, hl] at hs
      simp at hs

def granted (al : List Ak) (i : Nat) (h : i < al.length) : List Ak := al.set i { al[i] with yes := true }
/-- The law's own loop and the pass over the queue, under way. -/
structure PInv (M : Mgr) (al : List Ak) (i q : Nat) : Prop where
  has : ((M.run q).has.map ckey).Perm ((yesL al).map akey)
  left : (M.run q).left.map ckey = (noL (al.take i)).map akey
  rest : (M.queue.drop q).map ckey = (noL (al.drop i)).map akey
  nd : (al.map (·.task)).Nodup
  rise : ∀ a ∈ al, Rise a.L
theorem WInv.start {M : Mgr} {al : List Ak} (h : WInv M al) : PInv M al 0 0 := ⟨h.has, rfl, h.queue, h.nd, h.rise⟩
theorem take_next {α : Type} (l : List α) (i : Nat) (hi : i < l.length) : l.take (i + 1) = l.take i ++ [l[i]] := List.take_succ_eq_append_getElem hi
theorem noL_yes {a : Ak} (h : a.yes = true) (l : List Ak) : noL (a :: l) = noL l := by
  unfold noL
  rw [List.filter_cons_of_neg (by simp [h])]
theorem noL_no {a : Ak} (h : a.yes = false) (l : List Ak) : noL (a :: l) = a :: noL l := by
  unfold noL
  rw [List.filter_cons_of_pos (by simp [h])]
theorem yesL_yes {a : Ak} (h : a.yes = true) (l : List Ak) : yesL (a :: l) = a :: yesL l := by
  unfold yesL
  rw [List.filter_cons_of_pos (by simp [h])]
theorem yesL_no {a : Ak} (h : a.yes = false) (l : List Ak) : yesL (a :: l) = yesL l := by
  unfold yesL
  rw [List.filter_cons_of_neg (by simp [h])]
theorem PInv.yes {M : Mgr} {al : List Ak} {i q : Nat} (h : PInv M al i q) (hi : i < al.length) (hy : al[i].yes = true) : PInv M al (i + 1) q := by
  refine ⟨h.has, ?_, ?_, h.nd, h.rise⟩
  · rw [take_next al i hi, noL_append, noL_yes hy, h.left]
    simp [noL]
  · have hr := h.rest
    rw [List.drop_eq_getElem_cons hi, noL_yes hy] at hr
    exact hr
theorem PInv.no {M : Mgr} {al : List Ak} {i q : Nat} (h : PInv M al i q) (hi : i < al.length) (hy : al[i].yes = false) : ∃ hq : q < M.queue.length, ckey M.queue[q] = akey al[i] := by
  have hr := h.rest
  rw [List.drop_eq_getElem_cons hi, noL_no hy] at hr
  rcases Nat.lt_or_ge q M.queue.length with hq | hq
  · refine ⟨hq, ?_⟩
    rw [List.drop_eq_getElem_cons hq] at hr
    exact (List.cons.inj hr).1
  · rw [List.drop_eq_nil_of_le hq] at hr
    simp at hr
/-- Somebody stops the ask at a place. -/
def Stopped (al : List Ak) (i : Nat) (hi : i < al.length) (n : Nat) : Prop := ∃ j, ∃ hj : j < al.length, j < n ∧ j ≠ i ∧ (al[j].yes = true ∨ j < i) ∧ CL al[j].L al[i].L
theorem PInv.stops {M : Mgr} {al : List Ak} {i q : Nat} (h : PInv M al i q) (hi : i < al.length) (hy : al[i].yes = false) (hq : q < M.queue.length) (hk : ckey M.queue[q] = akey al[i]) : (M.run q).stops M.queue[q] = true ↔ Stopped al i hi al.length := by
  have hf : how M.queue[q].set = hw al[i].L := congrArg Prod.snd hk
  have hcl : ∀ a ∈ al, (CL a.L al[i].L ↔ confF (how M.queue[q].set) (hw a.L)) := fun a ha => by rw [CL_conf (h.rise a ha) (h.rise _ (List.getElem_mem hi)), confF_comm, hf]
  unfold TS.stops
  rw [Bool.or_eq_true, any_cf, any_cf]
  constructor
  · rintro (⟨k, hk, hc⟩ | ⟨k, hk, hc⟩)
    · obtain ⟨a, ha, rfl⟩ := List.mem_map.1 (h.has.mem_iff.1 hk)
      obtain ⟨ha1, ha2⟩ := mem_yesL.1 ha
      obtain ⟨j, hj, rfl⟩ := List.mem_iff_getElem.1 ha1
      exact ⟨j, hj, hj, (fun e => by subst e; rw [hy] at ha2; cases ha2), .inl ha2, (hcl _ ha1).2 hc⟩
    · rw [h.left] at hk
      obtain ⟨a, ha, rfl⟩ := List.mem_map.1 hk
      obtain ⟨ha1, ha2⟩ := mem_noL.1 ha
      obtain ⟨j, hj, rfl⟩ := List.mem_iff_getElem.1 ha1
      rw [List.length_take] at hj
      rw [List.getElem_take] at hc
      exact ⟨j, by omega, by omega, by omega, .inr (by omega), (hcl _ (List.getElem_mem _)).2 hc⟩
  · rintro ⟨j, hj, _, hne, hor, hc⟩
    have hc' := (hcl _ (List.getElem_mem hj)).1 hc
    rcases hy2 : al[j].yes with _ | _
    · rcases hor with ho | ho
      · rw [hy2] at ho; cases ho
      · refine .inr ⟨akey al[j], ?_, hc'⟩
        rw [h.left]
        refine List.mem_map_of_mem (mem_noL.2 ⟨?_, hy2⟩)
        have hj2 : j < (al.take i).length := by rw [List.length_take]; omega
        have : (al.take i)[j] = al[j] := List.getElem_take
        rw [← this]
        exact List.getElem_mem hj2
    · exact .inl ⟨akey al[j], h.has.mem_iff.2 (List.mem_map_of_mem (mem_yesL.2 ⟨List.getElem_mem hj, hy2⟩)), hc'⟩
theorem PInv.stay {M : Mgr} {al : List Ak} {i q : Nat} (h : PInv M al i q) (hi : i < al.length) (hy : al[i].yes = false) (hq : q < M.queue.length) (hk : ckey M.queue[q] = akey al[i]) (hs : (M.run q).stops M.queue[q] = true) :
    PInv M al (i + 1) (q + 1) ∧ (M.run (q + 1)).out = (M.run q).out := by
  have hr := M.run_succ q _ hq rfl
  rw [TS.step_yes hs] at hr
  refine ⟨⟨by rw [hr]; exact h.has, ?_, ?_, h.nd, h.rise⟩, by rw [hr]⟩
  · rw [hr]
    show ((M.run q).left ++ [M.queue[q]]).map ckey = _
    rw [take_next al i hi, noL_append, List.map_append, List.map_append, h.left, noL_no hy, List.map_cons, hk]
    rfl
  · have hr := h.rest
    rw [List.drop_eq_getElem_cons hi, noL_no hy, List.drop_eq_getElem_cons hq] at hr
    exact (List.cons.inj hr).2
theorem granted_split (al : List Ak) (i : Nat) (hi : i < al.length) : granted al i hi = al.take i ++ { al[i] with yes := true } :: al.drop (i + 1) := by
  unfold granted
  rw [List.set_eq_take_append_cons_drop, if_pos hi]
theorem mid_take {α : Type} (a b : List α) (x : α) (i : Nat) (h : a.length = i) : (a ++ x :: b).take (i + 1) = a ++ [x] := by
  rw [show a ++ x :: b = (a ++ [x]) ++ b by simp]
  exact List.take_left' (by simp [h])
theorem mid_drop {α : Type} (a b : List α) (x : α) (i : Nat) (h : a.length = i) : (a ++ x :: b).drop (i + 1) = b := by
  rw [show a ++ x :: b = (a ++ [x]) ++ b by simp]
  exact List.drop_left' (by simp [h])
theorem PInv.grant {M : Mgr} {al : List Ak} {i q : Nat} (h : PInv M al i q) (hi : i < al.length) (hy : al[i].yes = false) (hq : q < M.queue.length) (hk : ckey M.queue[q] = akey al[i]) (hs : (M.run q).stops M.queue[q] = false) :
    PInv M (granted al i hi) (i + 1) (q + 1) ∧ (M.run (q + 1)).out = (M.run q).out ++ [M.queue[q]] := by
  have hr := M.run_succ q _ hq rfl
  rw [TS.step_no hs] at hr
  have hgl : (granted al i hi).length = al.length := by simp [granted]
  refine ⟨⟨?_, ?_, ?_, ?_, fun a ha => ?_⟩, by rw [hr]⟩
  · rw [hr]
    show (((M.run q).has ++ [M.queue[q]]).map ckey).Perm _
    rw [List.map_append, granted_split]
    have e1 : yesL al = yesL (al.take i) ++ yesL (al.drop (i + 1)) := by
      have e0 : yesL (al.take i ++ al[i] :: al.drop (i + 1)) = yesL (al.take i) ++ yesL (al.drop (i + 1)) := by rw [yesL_append, yesL_no hy]
      rw [← split_at al i hi] at e0
      exact e0
    have h1 := h.has
    rw [e1] at h1
    rw [yesL_append, yesL_yes (a := { al[i] with yes := true }) rfl, List.map_append (l₁ := yesL (al.take i))]
    have h2 : ((yesL (al.take i) ++ yesL (al.drop (i + 1))).map akey ++ [akey al[i]]).Perm ((yesL (al.take i)).map akey ++ akey al[i] :: (yesL (al.drop (i + 1))).map akey) := by
      rw [List.map_append]
      refine (List.perm_append_comm (l₂ := [akey al[i]])).trans ?_
      show (akey al[i] :: ((yesL (al.take i)).map akey ++ (yesL (al.drop (i + 1))).map akey)).Perm _
      exact (List.perm_middle (a := akey al[i])).symm
    refine (h1.append (List.Perm.refl _)).trans ?_
    have e3 : List.map ckey [M.queue[q]] = [akey al[i]] := by rw [← hk]; rfl
    rw [e3, List.map_cons]
    exact h2
  · rw [hr]
    show (M.run q).left.map ckey = _
    rw [h.left, granted_split, mid_take _ _ _ i (by rw [List.length_take]; omega), noL_append]
    rw [noL_yes (a := { al[i] with yes := true }) rfl]
    simp [noL]
  · have hr := h.rest
    rw [List.drop_eq_getElem_cons hi, noL_no hy, List.drop_eq_getElem_cons hq] at hr
    rw [granted_split, mid_drop _ _ _ i (by rw [List.length_take]; omega)]
    exact (List.cons.inj hr).2
  · have e : (granted al i hi).map (·.task) = al.map (·.task) := by
      rw [granted_split, List.map_append, List.map_cons]
      have e2 : (al.take i ++ al[i] :: al.drop (i + 1)).map (·.task) = (al.take i).map (·.task) ++ al[i].task :: (al.drop (i + 1)).map (·.task) := by rw [List.map_append, List.map_cons]
      rw [← split_at al i hi] at e2
      exact e2.symm
    rw [e]
    exact h.nd
  · rw [granted_split] at ha
    rcases List.mem_append.1 ha with ha | ha
    · exact h.rise a (List.mem_of_mem_take ha)
    · rcases List.mem_cons.1 ha with ha | ha
      · subst ha; exact h.rise al[i] (List.getElem_mem hi)
      · exact h.rise a (List.mem_of_mem_drop ha)
theorem PInv.done {M : Mgr} {al : List Ak} {q : Nat} (h : PInv M al al.length q) (hq : q ≤ M.queue.length) : q = M.queue.length ∧ WInv M.pass al ∧ Some_ al := by
  have hr := h.rest
  rw [List.drop_eq_nil_of_le (Nat.le_refl _)] at hr
  have hr1 : (M.queue.drop q).map ckey = [] := hr
  have hr2 : M.queue.drop q = [] := List.map_eq_nil_iff.1 hr1
  have hq2 : q = M.queue.length := by
    have := congrArg List.length hr2
    simp at this
    omega
  subst hq2
  have hW : WInv M.pass al := ⟨h.has, by have := h.left; rw [List.take_of_length_le (Nat.le_refl _)] at this; exact this, h.nd, h.rise⟩
  refine ⟨rfl, hW, fun hne => ?_⟩
  rcases Classical.em (∃ a ∈ al, a.yes = true) with h1 | h1
  · exact h1
  · exfalso
    have h2 : yesL al = [] := List.filter_eq_nil_iff.2 (fun a ha hy => h1 ⟨a, ha, hy⟩)
    have h3 := hW.has
    rw [h2] at h3
    have h4 : M.pass.has = [] := List.map_eq_nil_iff.1 (List.Perm.eq_nil h3)
    have h5 : M.queue.take M.queue.length = [] := TS.go_has _ _ h4 rfl
    rw [List.take_of_length_le (Nat.le_refl _)] at h5
    have h6 := hW.len
    rw [h4] at h6
    have h7 : M.pass.queue = [] := by
      show (M.run M.queue.length).left = []
      unfold Mgr.run
      rw [h5]
      rfl
    rw [h7] at h6
    exact hne (List.eq_nil_of_length_eq_zero (by simpa using h6.symm))

theorem rise_snoc {L : List (Int × Bool)} (h : Rise L) (x : Int) (b : Bool) (hx : ∀ p ∈ L, p.1 < x) : Rise (L ++ [(x, b)]) :=
  List.pairwise_append.2 ⟨h, List.pairwise_singleton _ _, fun p hp q hq => by simp at hq; subst hq; exact hx p hp⟩
theorem rise_once {L : List (Int × Bool)} (h : Rise L) (i j : Nat) (hi : i < L.length) (hj : j < L.length) (e : L[i].1 = L[j].1) : i = j := by
  have hp := List.pairwise_iff_getElem.1 h
  rcases Nat.lt_trichotomy i j with h1 | h1 | h1
  · have := hp i j hi hj h1; omega
  · exact h1
  · have := hp j i hj hi h1; omega
theorem filt_succ (L : List (Int × Bool)) (h : Rise L) (k : Int) : L.filter (fun p => decide (p.1 < k + 1)) = L.filter (fun p => decide (p.1 < k)) ++ L.filter (fun p => decide (p.1 = k)) := by
  induction L with
  | nil => rfl
  | cons p r ih =>
    obtain ⟨h1, h2⟩ := List.pairwise_cons.1 h
    rcases Int.lt_trichotomy p.1 k with h3 | h3 | h3
    · rw [List.filter_cons_of_pos (by simp; omega), List.filter_cons_of_pos (by simp; omega), List.filter_cons_of_neg (by simp; omega), ih h2]
      rfl
    · have e1 : r.filter (fun p => decide (p.1 < k + 1)) = [] := List.filter_eq_nil_iff.2 (fun q hq => by have := h1 q hq; simp; omega)
      have e2 : r.filter (fun p => decide (p.1 < k)) = [] := List.filter_eq_nil_iff.2 (fun q hq => by have := h1 q hq; simp; omega)
      have e3 : r.filter (fun p => decide (p.1 = k)) = [] := List.filter_eq_nil_iff.2 (fun q hq => by have := h1 q hq; simp; omega)
      rw [List.filter_cons_of_pos (by simp; omega), List.filter_cons_of_neg (by simp; omega), List.filter_cons_of_pos (by simp; omega), e1, e2, e3]
      rfl
    · rw [List.filter_cons_of_neg (by simp; omega), List.filter_cons_of_neg (by simp; omega), List.filter_cons_of_neg (by simp; omega), ih h2]
theorem filt_one (L : List (Int × Bool)) (h : Rise L) (k : Int) : L.filter (fun p => decide (p.1 = k)) = if hw L k ≠ 0 then [(k, hw L k == 1)] else [] := by
  induction L with
  | nil => rfl
  | cons p r ih =>
    obtain ⟨h1, h2⟩ := List.pairwise_cons.1 h
    show _ = if (if p.1 = k then (if p.2 then (1 : Int) else 2) else hw r k) ≠ 0 then [(k, (if p.1 = k then (if p.2 then (1 : Int) else 2) else hw r k) == 1)] else []
    by_cases e : p.1 = k
    · have e3 : r.filter (fun p => decide (p.1 = k)) = [] := List.filter_eq_nil_iff.2 (fun q hq => by have := h1 q hq; simp; omega)
      rw [List.filter_cons_of_pos (by simpa using e), e3, if_pos e]
      obtain ⟨pn, ps⟩ := p
      cases e
      rcases ps with _ | _ <;> rfl
    · rw [List.filter_cons_of_neg (by simpa using e), ih h2, if_neg e]
theorem held_filt (D : Dt) (L : List (Int × Bool)) (h : Rise L) (hD : ∀ x, how D x = hw L x) (hlow : ∀ p ∈ L, 0 ≤ p.1) : ∀ k : Nat, held D k = L.filter (fun p => decide (p.1 < (k : Int))) := by
  intro k
  induction k with
  | zero => exact (List.filter_eq_nil_iff.2 (fun q hq => by have := hlow q hq; simp; omega)).symm
  | succ k ih =>
    show (if how D k ≠ 0 then held D k ++ [((k : Int), how D k == 1)] else held D k) = _
    rw [show ((k + 1 : Nat) : Int) = (k : Int) + 1 by omega, filt_succ L h, filt_one L h, ih, hD]
    by_cases e : hw L k = 0
    · simp [e]
    · simp [e]
theorem held_eq (D : Dt) (L : List (Int × Bool)) (h : Rise L) (hD : ∀ x, how D x = hw L x) (hlow : ∀ p ∈ L, 0 ≤ p.1) (m : Int) (hm : ∀ p ∈ L, p.1 < m) : held D m.toNat = L := by
  rw [held_filt D L h hD hlow]
  exact List.filter_eq_self.2 (fun p hp => by have := hm p hp; have := hlow p hp; simp; omega)
end Go.Proofs.Ytgcnappgecdldaa.C
