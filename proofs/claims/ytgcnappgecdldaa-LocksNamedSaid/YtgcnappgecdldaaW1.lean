/-
  Locks: the plain law of LocksWide: the law's list of asks and the manager go together.
-/
import Derived.Test.YtgcnappgecdldaaT6
set_option linter.unusedVariables false
set_option linter.unusedSimpArgs false
namespace Go.Proofs.Ytgcnappgecdldaa.C
open Go.RowKit Go.Proofs.Ytgcnappgecdldaa.K Go.Maps

abbrev Key := Int × (Int → Int)
def ckey (c : Clm) : Key := (c.task, how c.set)
def akey (a : Ak) : Key := (a.task, hw a.L)
def confF (f g : Int → Int) : Prop := ∃ x, f x ≠ 0 ∧ g x ≠ 0 ∧ ¬(f x = 1 ∧ g x = 1)
theorem confF_comm (f g : Int → Int) : confF f g ↔ confF g f := by
  constructor <;> rintro ⟨x, h1, h2, h3⟩ <;> exact ⟨x, h2, h1, fun h => h3 h.symm⟩
theorem hw_mem {L : List (Int × Bool)} {x : Int} (h : hw L x ≠ 0) : ∃ p ∈ L, p.1 = x := by
  rcases Classical.em (∃ p ∈ L, p.1 = x) with h1 | h1
  · exact h1
  · exact absurd (hw_none L x (fun q hq e => h1 ⟨q, hq, e⟩)) h
theorem hw_at {L : List (Int × Bool)} (hr : Rise L) : ∀ p ∈ L, hw L p.1 = if p.2 then 1 else 2 := by
  induction L with
  | nil => intro p hp; simp at hp
  | cons q r ih =>
    intro p hp
    obtain ⟨h1, h2⟩ := List.pairwise_cons.1 hr
    rcases List.mem_cons.1 hp with rfl | hp
    · exact if_pos rfl
    · exact (if_neg (by have := h1 p hp; omega)).trans (ih h2 p hp)
theorem CL_conf {P Q : List (Int × Bool)} (hP : Rise P) (hQ : Rise Q) : CL P Q ↔ confF (hw P) (hw Q) := by
  constructor
  · rintro ⟨p, hp, q, hq, e, hn⟩
    refine ⟨p.1, ?_, ?_, ?_⟩
    · rw [hw_at hP p hp]; split <;> decide
    · rw [e, hw_at hQ q hq]; split <;> decide
    · rw [hw_at hP p hp, e, hw_at hQ q hq]
      intro h
      refine hn ⟨?_, ?_⟩
      · rcases hh : p.2 with _ | _
        · rw [hh] at h; simp at h
        · rfl
      · rcases hh : q.2 with _ | _
        · rw [hh] at h; simp at h
        · rfl
  · rintro ⟨x, h1, h2, h3⟩
    obtain ⟨p, hp, rfl⟩ := hw_mem h1
    obtain ⟨q, hq, e⟩ := hw_mem h2
    refine ⟨p, hp, q, hq, e.symm, fun h => h3 ⟨?_, ?_⟩⟩
    · rw [hw_at hP p hp, if_pos h.1]
    · rw [← e, hw_at hQ q hq, if_pos h.2]
theorem any_cf (D : Dt) (l : List Clm) : l.any (cf D) = true ↔ ∃ k ∈ l.map ckey, confF (how D) k.2 := by
  rw [List.any_eq_true]
  constructor
  · rintro ⟨c, hc, h⟩
    exact ⟨ckey c, List.mem_map_of_mem hc, by
      have h1 : conf D c.set := by simpa [cf] using h
      exact h1⟩
  · rintro ⟨k, hk, h⟩
    obtain ⟨c, hc, rfl⟩ := List.mem_map.1 hk
    exact ⟨c, hc, by simp only [cf, decide_eq_true_eq]; exact h⟩

def yesL (l : List Ak) : List Ak := l.filter (fun a => a.yes)
def noL (l : List Ak) : List Ak := l.filter (fun a => !a.yes)
theorem yesL_append (l r : List Ak) : yesL (l ++ r) = yesL l ++ yesL r := List.filter_append ..
theorem noL_append (l r : List Ak) : noL (l ++ r) = noL l ++ noL r := List.filter_append ..
theorem len_yes_no (l : List Ak) : (yesL l).length + (noL l).length = l.length := by
  induction l with
  | nil => rfl
  | cons a r ih =>
    unfold yesL noL at *
    rcases h : a.yes with _ | _ <;> simp [h] <;> omega
theorem mem_yesL {l : List Ak} {a : Ak} : a ∈ yesL l ↔ a ∈ l ∧ a.yes = true := by simp [yesL]
theorem mem_noL {l : List Ak} {a : Ak} : a ∈ noL l ↔ a ∈ l ∧ a.yes = false := by simp [noL]

/-- The law's asks and the manager, between two calls. -/
structure WInv (M : Mgr) (al : List Ak) : Prop where
  has : (M.has.map ckey).Perm ((yesL al).map akey)
  queue : M.queue.map ckey = (noL al).map akey
  nd : (al.map (·.task)).Nodup
  rise : ∀ a ∈ al, Rise a.L
theorem WInv.len {M : Mgr} {al : List Ak} (h : WInv M al) : M.has.length + M.queue.length = al.length := by
  have h1 := h.has.length_eq
  have h2 := congrArg List.length h.queue
  simp at h1 h2
  have := len_yes_no al
  omega
def Some_ (al : List Ak) : Prop := al ≠ [] → ∃ a ∈ al, a.yes = true
theorem WInv.ask {M : Mgr} {al : List Ak} (h : WInv M al) (hs : Some_ al) (c : Clm) (L : List (Int × Bool)) (v : Value) (n : Nat) (hh : ∀ x, how c.set x = hw L x) (hr : Rise L) (hn : ∀ a ∈ al, a.task ≠ c.task) :
    (M.stops c = true ↔ ∃ a ∈ al, CL a.L L) ∧ WInv (M.put (M.stops c) c) (al ++ [⟨c.task, v, n, L, !(M.stops c)⟩]) ∧ Some_ (al ++ [⟨c.task, v, n, L, !(M.stops c)⟩]) := by
  have hf : how c.set = hw L := funext hh
  have hst : M.stops c = true ↔ ∃ a ∈ al, CL a.L L := by
    unfold Mgr.stops
    rw [Bool.or_eq_true, any_cf, any_cf]
    have hcl : ∀ a ∈ al, (CL a.L L ↔ confF (how c.set) (hw a.L)) := fun a ha => by rw [CL_conf (h.rise a ha) hr, confF_comm, hf]
    constructor
    · rintro (⟨k, hk, hc⟩ | ⟨k, hk, hc⟩)
      · obtain ⟨a, ha, rfl⟩ := List.mem_map.1 (h.has.mem_iff.1 hk)
        exact ⟨a, (mem_yesL.1 ha).1, (hcl a (mem_yesL.1 ha).1).2 hc⟩
      · rw [h.queue] at hk
        obtain ⟨a, ha, rfl⟩ := List.mem_map.1 hk
        exact ⟨a, (mem_noL.1 ha).1, (hcl a (mem_noL.1 ha).1).2 hc⟩
    · rintro ⟨a, ha, hc⟩
      have hc' := (hcl a ha).1 hc
      rcases hy : a.yes with _ | _
      · exact .inr ⟨akey a, by rw [h.queue]; exact List.mem_map_of_mem (mem_noL.2 ⟨ha, hy⟩), hc'⟩
      · exact .inl ⟨akey a, h.has.mem_iff.2 (List.mem_map_of_mem (mem_yesL.2 ⟨ha, hy⟩)), hc'⟩
  have hk : ckey c = (c.task, hw L) := by unfold ckey; rw [hf]
  have hnd : ((al ++ [(⟨c.task, v, n, L, !(M.stops c)⟩ : Ak)]).map (·.task)).Nodup := by
    rw [List.map_append, List.nodup_append]
    refine ⟨h.nd, by simp, ?_⟩
    intro x hx y hy e
    obtain ⟨a, ha, rfl⟩ := List.mem_map.1 hx
    simp at hy
    exact hn a ha (e.trans hy)
  have hri : ∀ a ∈ al ++ [(⟨c.task, v, n, L, !(M.stops c)⟩ : Ak)], Rise a.L := fun a ha => by
    rcases List.mem_append.1 ha with ha | ha
    · exact h.rise a ha
    · simp at ha; subst ha; exact hr
  refine ⟨hst, ⟨?_, ?_, hnd, hri⟩, ?_⟩
  · rcases hq : M.stops c with _ | _
    · rw [yesL_append]
      show ((M.has ++ [c]).map ckey).Perm _
      rw [List.map_append, List.map_append]
      refine h.has.append ?_
      simp [yesL, hk, akey]
    · rw [yesL_append]
      show (M.has.map ckey).Perm _
      simpa [yesL] using h.has
  · rcases hq : M.stops c with _ | _
    · rw [noL_append]
      show M.queue.map ckey = _
      simpa [noL] using h.queue
    · rw [noL_append]
      show (M.queue ++ [c]).map ckey = _
      rw [List.map_append, List.map_append, h.queue]
      simp [noL, hk, akey]
  · intro _
    rcases hq : M.stops c with _ | _
    · exact ⟨_, List.mem_append_right _ (List.mem_singleton.2 rfl), rfl⟩
    · obtain ⟨a, ha, _⟩ := hst.1 hq
      obtain ⟨b, hb, hy⟩ := hs (List.ne_nil_of_mem ha)
      exact ⟨b, List.mem_append_left _ hb, hy⟩
theorem nd_eq {al : List Ak} (h : (al.map (·.task)).Nodup) {a b : Ak} (ha : a ∈ al) (hb : b ∈ al) (e : a.task = b.task) : a = b := by
  induction al with
  | nil => simp at ha
  | cons c r ih =>
    rw [List.map_cons, List.nodup_cons] at h
    rcases List.mem_cons.1 ha with ha1 | ha1
    · rcases List.mem_cons.1 hb with hb1 | hb1
      · rw [ha1, hb1]
      · exact absurd (List.mem_map.2 ⟨b, hb1, by rw [← e, ha1]⟩) h.1
    · rcases List.mem_cons.1 hb with hb1 | hb1
      · exact absurd (List.mem_map.2 ⟨a, ha1, by rw [e, hb1]⟩) h.1
      · exact ih h.2 ha1 hb1
theorem place_some {l : List Clm} {p : Clm → Bool} (h : l.any p = true) : ∃ i, ∃ hi : i < l.length, place l p = (i : Int) ∧ p l[i] = true := by
  have h0 := place_any l p
  rw [h, decide_eq_true_eq] at h0
  unfold place at h0 ⊢
  rcases hf : l.findIdx? p with _ | i
  · rw [hf] at h0; exact absurd h0 (by decide)
  · obtain ⟨hi, hp, _⟩ := List.findIdx?_eq_some_iff_getElem.1 hf
    exact ⟨i, hi, rfl, hp⟩
theorem WInv.at_ {M : Mgr} {al : List Ak} (h : WInv M al) (k : Nat) (hk : k < al.length) (hy : al[k].yes = true) :
    ∃ i, ∃ hi : i < M.has.length, place M.has (fun c => c.task == al[k].task) = (i : Int) ∧ ckey M.has[i] = akey al[k] := by
  have h1 : akey al[k] ∈ M.has.map ckey := h.has.mem_iff.2 (List.mem_map_of_mem (mem_yesL.2 ⟨List.getElem_mem hk, hy⟩))
  obtain ⟨c, hc, hce⟩ := List.mem_map.1 h1
  have h2 : M.has.any (fun c => c.task == al[k].task) = true := List.any_eq_true.2 ⟨c, hc, by
    have : c.task = al[k].task := congrArg Prod.fst hce
    simp [this]⟩
  obtain ⟨i, hi, hp, ht⟩ := place_some h2
  refine ⟨i, hi, hp, ?_⟩
  have h3 : ckey M.has[i] ∈ (yesL al).map akey := h.has.mem_iff.1 (List.mem_map_of_mem (List.getElem_mem hi))
  obtain ⟨a, ha, hae⟩ := List.mem_map.1 h3
  have h4 : a.task = al[k].task := by
    have : a.task = M.has[i].task := congrArg Prod.fst hae
    rw [this]
    simpa using ht
  rw [← hae, nd_eq h.nd (mem_yesL.1 ha).1 (List.getElem_mem hk) h4]
theorem split_at {α : Type} (l : List α) (k : Nat) (hk : k < l.length) : l = l.take k ++ l[k] :: l.drop (k + 1) := by
  rw [← List.drop_eq_getElem_cons hk, List.take_append_drop]
theorem perm_at {α : Type} (l : List α) (k : Nat) (hk : k < l.length) : (l[k] :: l.eraseIdx k).Perm l := by
  rw [List.eraseIdx_eq_take_drop_succ]
  have h1 : (l.take k ++ l[k] :: l.drop (k + 1)).Perm (l[k] :: (l.take k ++ l.drop (k + 1))) := List.perm_middle
  rw [← split_at l k hk] at h1
  exact h1.symm
theorem WInv.del {M : Mgr} {al : List Ak} (h : WInv M al) (k : Nat) (hk : k < al.length) (hy : al[k].yes = true) (i : Nat) (hi : i < M.has.length) (he : ckey M.has[i] = akey al[k]) : WInv (M.delHas i) (al.eraseIdx k) := by
  have hsub : (al.eraseIdx k).Sublist al := List.eraseIdx_sublist ..
  refine ⟨?_, ?_, h.nd.sublist (hsub.map _), fun a ha => h.rise a (hsub.mem ha)⟩
  · have h1 : (M.has.map ckey).Perm (ckey M.has[i] :: (M.has.eraseIdx i).map ckey) := by
      have := (perm_at _ _ hi).symm.map ckey
      simpa using this
    have h2 : ((yesL al).map akey).Perm (akey al[k] :: (yesL (al.eraseIdx k)).map akey) := by
      have h3 : (yesL al).Perm (yesL (al[k] :: al.eraseIdx k)) := (perm_at _ _ hk).symm.filter _
      have h4 : yesL (al[k] :: al.eraseIdx k) = al[k] :: yesL (al.eraseIdx k) := by simp [yesL, hy]
      rw [h4] at h3
      simpa using h3.map akey
    have h5 := (h1.symm.trans h.has).trans h2
    rw [he] at h5
    exact h5.cons_inv
  · show M.queue.map ckey = _
    rw [h.queue, List.eraseIdx_eq_take_drop_succ, noL_append]
    have e : noL al = noL (al.take k) ++ noL (al.drop (k + 1)) := by
      have e0 : noL (al.take k ++ al[k] :: al.drop (k + 1)) = noL (al.take k) ++ noL (al.drop (k + 1)) := by
        rw [noL_append]
        congr 1
        show (al[k] :: al.drop (k + 1)).filter (fun a => !a.yes) = _
        rw [List.filter_cons_of_neg (by simp [hy])]
        rfl
      rw [← split_at al k hk] at e0
      exact e0
    rw [e]
end Go.Proofs.Ytgcnappgecdldaa.C
