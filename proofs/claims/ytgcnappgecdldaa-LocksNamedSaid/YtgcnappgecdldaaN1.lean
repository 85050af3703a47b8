/-
  Locks: the plain law of LocksEnds; Ask, Free of whatever comes.
-/
import Derived.Test.YtgcnappgecdldaaS1
import Derived.Test.YtgcnappgecdldaaW2
set_option linter.unusedVariables false
set_option linter.unusedSimpArgs false
namespace Go.Proofs.Ytgcnappgecdldaa.C
open Go.RowKit Go.Proofs.Ytgcnappgecdldaa.K Go.Maps

/-- All claims of a manager. -/
def Mgr.all (M : Mgr) : List Clm := M.has ++ M.queue
/-- How many. -/
def Mgr.cnt (M : Mgr) : Nat := M.has.length + M.queue.length
theorem Mgr.cnt_all (M : Mgr) : M.all.length = M.cnt := List.length_append
theorem TS.go_perm (l : List Clm) : ∀ s : TS, ((s.go l).has ++ (s.go l).left).Perm (s.has ++ s.left ++ l) := by
  induction l with
  | nil =>
    intro s
    rw [List.append_nil]
    exact List.Perm.refl (s.has ++ s.left)
  | cons c r ih =>
    intro s
    have e : s.go (c :: r) = (s.step c).go r := rfl
    rw [e]
    refine (ih _).trans ?_
    rcases hs : s.stops c with _ | _
    · rw [TS.step_no hs]
      show (s.has ++ [c] ++ s.left ++ r).Perm (s.has ++ s.left ++ c :: r)
      rw [List.append_assoc, List.append_assoc, List.append_assoc]
      refine List.Perm.append_left _ ?_
      show (c :: (s.left ++ r)).Perm (s.left ++ c :: r)
      exact List.perm_middle.symm
    · rw [TS.step_yes hs]
      show (s.has ++ (s.left ++ [c]) ++ r).Perm (s.has ++ s.left ++ c :: r)
      simp
theorem Mgr.pass_perm (M : Mgr) : M.pass.all.Perm M.all := by
  have h := TS.go_perm (M.queue.take M.queue.length) ⟨M.has, [], []⟩
  rw [List.take_of_length_le (Nat.le_refl _)] at h
  have h2 : (M.has ++ [] ++ M.queue) = M.all := by simp [Mgr.all]
  rw [h2] at h
  show (M.thr.has ++ M.thr.left).Perm _
  unfold Mgr.thr Mgr.run
  rw [List.take_of_length_le (Nat.le_refl _)]
  exact h
theorem Mgr.pass_cnt (M : Mgr) : M.pass.cnt = M.cnt := by
  have := M.pass_perm.length_eq
  rw [Mgr.cnt_all, Mgr.cnt_all] at this
  exact this
theorem Mgr.pass_fair (M : Mgr) (h : M.pass.has = []) : M.pass.queue = [] := by
  have h1 : M.queue.take M.queue.length = [] := TS.go_has _ ⟨M.has, [], []⟩ h rfl
  rw [List.take_of_length_le (Nat.le_refl _)] at h1
  show M.thr.left = []
  unfold Mgr.thr Mgr.run
  rw [h1]
  rfl
theorem Mgr.delHas_cnt (M : Mgr) (i : Nat) (hi : i < M.has.length) : (M.delHas i).cnt + 1 = M.cnt := by
  show (M.has.eraseIdx i).length + M.queue.length + 1 = M.has.length + M.queue.length
  rw [List.length_eraseIdx, if_pos hi]
  omega
theorem Mgr.delQueue_cnt (M : Mgr) (i : Nat) (hi : i < M.queue.length) : (M.delQueue i).cnt + 1 = M.cnt := by
  show M.has.length + (M.queue.eraseIdx i).length + 1 = M.has.length + M.queue.length
  rw [List.length_eraseIdx, if_pos hi]
  omega
theorem Mgr.delHas_sub (M : Mgr) (i : Nat) : (M.delHas i).all.Sublist M.all := (List.eraseIdx_sublist ..).append (List.Sublist.refl _)
theorem Mgr.delQueue_sub (M : Mgr) (i : Nat) : (M.delQueue i).all.Sublist M.all := (List.Sublist.refl _).append (List.eraseIdx_sublist ..)

/-- A manager as it stands between two calls. -/
structure GM (M : Mgr) : Prop where
  nd : (M.all.map (·.task)).Nodup
  some_ : ∀ c ∈ M.all, ∃ x, 0 ≤ x ∧ x < M.m ∧ how c.set x ≠ 0
  fair : M.has = [] → M.queue = []
theorem GM.new (m : Int) : GM ⟨m, [], []⟩ := ⟨List.Pairwise.nil, fun c hc => by simp [Mgr.all] at hc, fun _ => rfl⟩
theorem GM.passed {M M' : Mgr} (h : GM M) (hs : M'.all.Sublist M.all) (hm : M'.m = M.m) : GM M'.pass := by
  refine ⟨?_, fun c hc => ?_, M'.pass_fair⟩
  · exact ((M'.pass_perm.map (·.task)).nodup_iff).2 (h.nd.sublist (hs.map _))
  · obtain ⟨x, hx⟩ := h.some_ c (hs.mem (M'.pass_perm.mem_iff.1 hc))
    exact ⟨x, by show 0 ≤ x ∧ x < M'.m ∧ _; rw [hm]; exact hx⟩
theorem put_perm (M : Mgr) (b : Bool) (c : Clm) : (M.put b c).all.Perm (c :: M.all) := by
  rcases b with _ | _
  · show (M.has ++ [c] ++ M.queue).Perm (c :: (M.has ++ M.queue))
    rw [List.append_assoc]
    exact List.perm_middle
  · show (M.has ++ (M.queue ++ [c])).Perm (c :: (M.has ++ M.queue))
    rw [← List.append_assoc]
    exact List.perm_append_comm
theorem put_m (M : Mgr) (b : Bool) (c : Clm) : (M.put b c).m = M.m := by unfold Mgr.put; split <;> rfl
theorem hw_low {L : List (Int × Bool)} (hne : L ≠ []) : ∃ p ∈ L, hw L p.1 ≠ 0 := by
  rcases L with _ | ⟨p, r⟩
  · exact absurd rfl hne
  · refine ⟨p, List.mem_cons_self .., ?_⟩
    show (if p.1 = p.1 then (if p.2 = true then (1 : Int) else 2) else hw r p.1) ≠ 0
    rw [if_pos rfl]
    split <;> decide
theorem GM.put {M : Mgr} (h : GM M) (c : Clm) (L : List (Int × Bool)) (hA : Asks M.m L) (hh : ∀ x, how c.set x = hw L x) (hn : ∀ d ∈ M.all, d.task ≠ c.task) : GM (M.put (M.stops c) c) := by
  have hp := put_perm M (M.stops c) c
  refine ⟨?_, fun d hd => ?_, fun he => ?_⟩
  · rw [(hp.map (·.task)).nodup_iff, List.map_cons, List.nodup_cons]
    refine ⟨fun hm => ?_, h.nd⟩
    obtain ⟨d, hd, e⟩ := List.mem_map.1 hm
    exact hn d hd e
  · rw [put_m]
    rcases List.mem_cons.1 (hp.mem_iff.1 hd) with rfl | hd
    · obtain ⟨p, hp, hz⟩ := hw_low hA.some_
      exact ⟨p.1, hA.low p hp, hA.high p hp, by rw [hh]; exact hz⟩
    · exact h.some_ d hd
  · rcases hs : M.stops c with _ | _
    · rw [hs] at he
      have : M.has ++ [c] = [] := he
      simp at this
    · rw [hs] at he
      have h1 : M.has = [] := he
      have h2 := h.fair h1
      unfold Mgr.stops at hs
      rw [h1, h2] at hs
      simp at hs
theorem held_pos (D : Dt) : ∀ (k : Nat) (x : Int), 0 ≤ x → x < k → how D x ≠ 0 → 0 < (held D k).length
  | 0, x, h0, h1, _ => by omega
  | k + 1, x, h0, h1, h2 => by
    by_cases e : x = k
    · subst e
      show 0 < (if how D k ≠ 0 then held D k ++ [((k : Int), how D k == 1)] else held D k).length
      rw [if_pos h2, List.length_append]
      simp
    · have := held_pos D k x h0 (by omega) h2
      show 0 < (if how D k ≠ 0 then held D k ++ [((k : Int), how D k == 1)] else held D k).length
      split
      · rw [List.length_append]; omega
      · exact this
theorem any_task {l : List Clm} {t : Int} : l.any (fun c => c.task == t) = true ↔ ∃ c ∈ l, c.task = t := by simp
theorem none_task {l : List Clm} {t : Int} : l.any (fun c => c.task == t) = false ↔ ∀ c ∈ l, c.task ≠ t := by simp

/-- What Ask answers. -/
inductive AskR (M : Mgr) (task : Int) (L : List (Int × Bool)) (w' : World) : Bool → Value → Mgr → Prop
  | arg (v : Value) : Ref w' v 1 → (task < 0 ∨ ¬ Asks M.m L) → AskR M task L w' false v M
  | held (v : Value) : Ref w' v 41 → 0 ≤ task → Asks M.m L → (∃ c ∈ M.all, c.task = task) → AskR M task L w' false v M
  | ok (c : Clm) : c.task = task → (∀ x, how c.set x = hw L x) → 0 ≤ task → Asks M.m L → (∀ d ∈ M.all, d.task ≠ task) → AskR M task L w' (!(M.stops c)) .nilIface (M.put (M.stops c) c)
theorem ask_any (w : World) (σ : Nat → Nat) (t g : Nat) (M : Mgr) (h : MgrAt w σ t g M) (hs : M.cnt + 1 ≤ 100000) (task : Int) (A : Option Addr) (n cp : Nat) (L : List (Int × Bool)) (hl : L.length = n) (hn : n ≤ 2000) (hL : LksAt w A L) (hwf : ∀ p ∈ L, (Lit.int .i64 p.1).wf = true) :
    Calls Try.prog 15 #[.pointer (some ⟨g, 0, none⟩), .int .i64 task, .slice A n cp] w fun e w' => ∃ b v M', e = .returned (.tuple #[.bool b, v]) ∧ AskR M task L w' b v M' ∧ ∃ σ', MgrAt w' σ' t g M' ∧ Chg (Om t) σ w σ' w' := by
  by_cases hb : task < 0 ∨ ¬ Asks M.m L
  · refine (ask_no w σ t g M h task A n cp L hl hn hL hwf hb).mono ?_
    rintro e w' ⟨v, rfl, hr, hbl⟩
    exact ⟨_, _, _, rfl, .arg v hr hb, σ, h.below hbl, Chg.of_below _ _ hbl⟩
  · have ht : 0 ≤ task := Int.not_lt.1 (fun h => hb (.inl h))
    have hA : Asks M.m L := Classical.not_not.1 (fun h => hb (.inr h))
    have hs1 : M.has.length + 1 ≤ 100000 := by unfold Mgr.cnt at hs; omega
    have hs2 : M.queue.length + 1 ≤ 100000 := by unfold Mgr.cnt at hs; omega
    rcases h1 : M.has.any (fun c => c.task == task) with _ | _
    · rcases h2 : M.queue.any (fun c => c.task == task) with _ | _
      · refine (ask_c w σ t g M h hs1 hs2 task ht h1 h2 A n cp L hl hn hL hA).mono ?_
        rintro e w' ⟨c, hc, hh, rfl, σ', hm, hcg⟩
        refine ⟨_, _, _, rfl, .ok c hc hh ht hA (fun d hd => ?_), σ', hm, hcg⟩
        rcases List.mem_append.1 hd with hd | hd
        · exact none_task.1 h1 d hd
        · exact none_task.1 h2 d hd
      · refine (ask_held w σ t g M h task ht A n cp L hl hn hL hA (.inr h2)).mono ?_
        rintro e w' ⟨v, rfl, hr, hbl⟩
        obtain ⟨c, hc, he⟩ := any_task.1 h2
        exact ⟨_, _, _, rfl, .held v hr ht hA ⟨c, List.mem_append_right _ hc, he⟩, σ, h.below hbl, Chg.of_below _ _ hbl⟩
    · refine (ask_held w σ t g M h task ht A n cp L hl hn hL hA (.inl h1)).mono ?_
      rintro e w' ⟨v, rfl, hr, hbl⟩
      obtain ⟨c, hc, he⟩ := any_task.1 h1
      exact ⟨_, _, _, rfl, .held v hr ht hA ⟨c, List.mem_append_left _ hc, he⟩, σ, h.below hbl, Chg.of_below _ _ hbl⟩
/-- What Free answers. -/
inductive FreeR (M : Mgr) (task : Int) (w' : World) : Value → List Clm → Mgr → Prop
  | no (v : Value) : Ref w' v 42 → (∀ c ∈ M.has, c.task ≠ task) → FreeR M task w' v [] M
  | ok (i : Nat) (hi : i < M.has.length) : place M.has (fun c => c.task == task) = (i : Int) → M.has[i].task = task → FreeR M task w' .nilIface (M.delHas i).thr.out (M.delHas i).pass
theorem free_any (w : World) (σ : Nat → Nat) (t g u : Nat) (hu : u < t ∨ t + 5 ≤ u) (M : Mgr) (h : MgrAt w σ t g M) (hs : M.cnt ≤ 100000) (task : Int) :
    Calls Try.prog 18 #[.pointer (some ⟨g, 0, none⟩), .int .i64 task] w fun e w' => ∃ x v out M', e = .returned (.tuple #[x, v]) ∧ FreeR M task w' v out M' ∧ ∃ σ', MgrAt w' σ' t g M' ∧ Row w' σ' u 3 1 x out.length (tasks out) ∧ Chg (Om t) σ w σ' w' := by
  rcases h1 : M.has.any (fun c => c.task == task) with _ | _
  · refine (free_no w σ t g M h task h1).mono ?_
    rintro e w' ⟨v, rfl, hr, hbl⟩
    exact ⟨_, _, _, _, rfl, .no v hr (none_task.1 h1), σ, h.below hbl, Row.nil _ _ _ _ _, Chg.of_below _ _ hbl⟩
  · obtain ⟨i, hi, hp, ht⟩ := place_hit h1
    refine (free_yes w σ t g u hu M h hs task i hi hp).mono ?_
    rintro e w' ⟨v, rfl, σ', hm, hr, hc⟩
    exact ⟨_, _, _, _, rfl, .ok i hi hp (by simpa using ht), σ', hm, hr, hc⟩
theorem FreeR.gm {M M' : Mgr} {task : Int} {w' : World} {v : Value} {out : List Clm} (h : FreeR M task w' v out M') (hg : GM M) : GM M' ∧ M'.m = M.m ∧ M'.cnt ≤ M.cnt ∧ (∀ c ∈ M'.all, c ∈ M.all) := by
  cases h with
  | no v _ _ => exact ⟨hg, rfl, Nat.le_refl _, fun c h => h⟩
  | ok i hi _ _ =>
    refine ⟨hg.passed (M.delHas_sub i) rfl, rfl, ?_, fun c hc => (M.delHas_sub i).mem ((M.delHas i).pass_perm.mem_iff.1 hc)⟩
    rw [Mgr.pass_cnt]
    have := M.delHas_cnt i hi
    omega
theorem Quits.gm {M M' : Mgr} {task : Int} {out : List Clm} (h : Quits M task M' out) (hg : GM M) : GM M' ∧ M'.m = M.m ∧ M'.cnt ≤ M.cnt ∧ (∀ c ∈ M'.all, c ∈ M.all) := by
  rcases h with ⟨i, hi, _, rfl, _⟩ | ⟨_, i, hi, _, rfl, _⟩ | ⟨_, _, rfl, _⟩
  · refine ⟨hg.passed (M.delHas_sub i) rfl, rfl, ?_, fun c hc => (M.delHas_sub i).mem ((M.delHas i).pass_perm.mem_iff.1 hc)⟩
    rw [Mgr.pass_cnt]
    have := M.delHas_cnt i hi
    omega
  · refine ⟨hg.passed (M.delQueue_sub i) rfl, rfl, ?_, fun c hc => (M.delQueue_sub i).mem ((M.delQueue i).pass_perm.mem_iff.1 hc)⟩
    rw [Mgr.pass_cnt]
    have := M.delQueue_cnt i hi
    omega
  · exact ⟨hg, rfl, Nat.le_refl _, fun c h => h⟩
end Go.Proofs.Ytgcnappgecdldaa.C
