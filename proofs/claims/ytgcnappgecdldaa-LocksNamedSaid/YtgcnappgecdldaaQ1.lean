/-
  Locks: two managers that go alike: tasks under other names, sets that conflict alike.
-/
import Derived.Test.YtgcnappgecdldaaN1
set_option linter.unusedVariables false
set_option linter.unusedSimpArgs false
namespace Go.Proofs.Ytgcnappgecdldaa.C
open Go.RowKit Go.Proofs.Ytgcnappgecdldaa.K Go.Maps

/-- Claims side by side: the second's tasks are the first's, renamed; their sets belong together. -/
inductive Pl (φ : Int → Int) (R : Dt → Dt → Prop) : List Clm → List Clm → Prop
  | nil : Pl φ R [] []
  | cons {c c' : Clm} {l l' : List Clm} : c'.task = φ c.task → R c.set c'.set → Pl φ R l l' → Pl φ R (c :: l) (c' :: l')
section
variable {φ : Int → Int} {R : Dt → Dt → Prop} {l l' a a' : List Clm}
theorem Pl.len (h : Pl φ R l l') : l'.length = l.length := by
  induction h with
  | nil => rfl
  | cons _ _ _ ih => simp [ih]
theorem Pl.append (h : Pl φ R l l') (k : Pl φ R a a') : Pl φ R (l ++ a) (l' ++ a') := by
  induction h with
  | nil => exact k
  | cons h1 h2 _ ih => exact .cons h1 h2 ih
theorem Pl.one {c c' : Clm} (h1 : c'.task = φ c.task) (h2 : R c.set c'.set) : Pl φ R [c] [c'] := .cons h1 h2 .nil
theorem Pl.erase (h : Pl φ R l l') : ∀ i, Pl φ R (l.eraseIdx i) (l'.eraseIdx i) := by
  induction h with
  | nil => intro i; exact .nil
  | cons h1 h2 h3 ih =>
    intro i
    rcases i with _ | i
    · exact h3
    · exact .cons h1 h2 (ih i)
theorem Pl.any (h : Pl φ R l l') {p p' : Clm → Bool} (hp : ∀ c c' : Clm, c'.task = φ c.task → R c.set c'.set → p c = p' c') : l.any p = l'.any p' := by
  induction h with
  | nil => rfl
  | cons h1 h2 _ ih => rw [List.any_cons, List.any_cons, ih, hp _ _ h1 h2]
theorem Pl.find (h : Pl φ R l l') {p p' : Clm → Bool} (hp : ∀ c c' : Clm, c'.task = φ c.task → R c.set c'.set → p c = p' c') : l.findIdx? p = l'.findIdx? p' := by
  induction h with
  | nil => rfl
  | cons h1 h2 _ ih => rw [List.findIdx?_cons, List.findIdx?_cons, ih, hp _ _ h1 h2]
theorem Pl.place (h : Pl φ R l l') {p p' : Clm → Bool} (hp : ∀ c c' : Clm, c'.task = φ c.task → R c.set c'.set → p c = p' c') : C.place l p = C.place l' p' := by
  unfold C.place
  rw [h.find hp]
theorem Pl.at_ (h : Pl φ R l l') : ∀ i (hi : i < l.length) (hi' : i < l'.length), l'[i].task = φ l[i].task ∧ R l[i].set l'[i].set := by
  induction h with
  | nil => intro i hi; simp at hi
  | cons h1 h2 _ ih =>
    intro i hi hi'
    rcases i with _ | i
    · exact ⟨h1, h2⟩
    · exact ih i (by simpa using hi) (by simpa using hi')
theorem Pl.tasks (h : Pl φ R l l') : l'.map (·.task) = l.map (fun c => φ c.task) := by
  induction h with
  | nil => rfl
  | cons h1 _ _ ih => simp [h1, ih]
/-- The relation of sets keeps conflicts. -/
def Keeps (R : Dt → Dt → Prop) : Prop := ∀ D D' E E', R D D' → R E E' → (conf D E ↔ conf D' E')
theorem cf_eq (hR : Keeps R) {c c' d d' : Clm} (h : R c.set c'.set) (k : R d.set d'.set) : cf c.set d = cf c'.set d' := by
  unfold cf
  have := hR _ _ _ _ h k
  simp [this]
structure PT (φ : Int → Int) (R : Dt → Dt → Prop) (s s' : TS) : Prop where
  has : Pl φ R s.has s'.has
  left : Pl φ R s.left s'.left
  out : Pl φ R s.out s'.out
theorem PT.stops {s s' : TS} (hR : Keeps R) (h : PT φ R s s') {c c' : Clm} (hc : R c.set c'.set) : s.stops c = s'.stops c' := by
  unfold TS.stops
  rw [h.has.any (p' := cf c'.set) (fun d d' _ hd => cf_eq hR hc hd), h.left.any (p' := cf c'.set) (fun d d' _ hd => cf_eq hR hc hd)]
theorem PT.step {s s' : TS} (hR : Keeps R) (h : PT φ R s s') {c c' : Clm} (ht : c'.task = φ c.task) (hc : R c.set c'.set) : PT φ R (s.step c) (s'.step c') := by
  have hs := h.stops hR hc
  rcases hb : s.stops c with _ | _
  · rw [TS.step_no hb, TS.step_no (hs ▸ hb)]
    exact ⟨h.has.append (.one ht hc), h.left, h.out.append (.one ht hc)⟩
  · rw [TS.step_yes hb, TS.step_yes (hs ▸ hb)]
    exact ⟨h.has, h.left.append (.one ht hc), h.out⟩
theorem PT.go (hR : Keeps R) (h : Pl φ R l l') : ∀ s s' : TS, PT φ R s s' → PT φ R (s.go l) (s'.go l') := by
  induction h with
  | nil => intro s s' h; exact h
  | cons h1 h2 _ ih =>
    intro s s' hs
    exact ih _ _ (hs.step hR h1 h2)
/-- Two managers side by side. -/
structure PM (φ : Int → Int) (R : Dt → Dt → Prop) (M M' : Mgr) : Prop where
  m : M'.m = M.m
  has : Pl φ R M.has M'.has
  queue : Pl φ R M.queue M'.queue
variable {M M' N N' : Mgr}
theorem PM.thr (hR : Keeps R) (h : PM φ R M M') : PT φ R M.thr M'.thr := by
  unfold Mgr.thr Mgr.run
  rw [List.take_of_length_le (Nat.le_refl _), List.take_of_length_le (Nat.le_refl _)]
  exact PT.go hR h.queue _ _ ⟨h.has, .nil, .nil⟩
theorem PM.pass (hR : Keeps R) (h : PM φ R M M') : PM φ R M.pass M'.pass := ⟨h.m, (h.thr hR).has, (h.thr hR).left⟩
theorem PM.delHas (h : PM φ R M M') (i : Nat) : PM φ R (M.delHas i) (M'.delHas i) := ⟨h.m, h.has.erase i, h.queue⟩
theorem PM.delQueue (h : PM φ R M M') (i : Nat) : PM φ R (M.delQueue i) (M'.delQueue i) := ⟨h.m, h.has, h.queue.erase i⟩
theorem PM.stops (hR : Keeps R) (h : PM φ R M M') {c c' : Clm} (hc : R c.set c'.set) : M.stops c = M'.stops c' := by
  unfold Mgr.stops
  rw [h.has.any (p' := cf c'.set) (fun d d' _ hd => cf_eq hR hc hd), h.queue.any (p' := cf c'.set) (fun d d' _ hd => cf_eq hR hc hd)]
theorem PM.put (h : PM φ R M M') {c c' : Clm} (ht : c'.task = φ c.task) (hc : R c.set c'.set) (b : Bool) : PM φ R (M.put b c) (M'.put b c') := by
  rcases b with _ | _
  · exact ⟨h.m, h.has.append (.one ht hc), h.queue⟩
  · exact ⟨h.m, h.has, h.queue.append (.one ht hc)⟩
theorem same_task (hφ : ∀ a b, φ a = φ b → a = b) (t : Int) (c c' : Clm) (h : c'.task = φ c.task) : (c.task == t) = (c'.task == φ t) := by
  rw [h, Bool.eq_iff_iff]
  simp
  exact ⟨fun e => by rw [e], fun e => hφ _ _ e⟩
theorem PM.hasAny (h : PM φ R M M') (hφ : ∀ a b, φ a = φ b → a = b) (t : Int) : (∃ c ∈ M.all, c.task = t) ↔ (∃ c ∈ M'.all, c.task = φ t) := by
  have := (h.has.append h.queue).any (p := fun c => c.task == t) (p' := fun c => c.task == φ t) (fun c c' h1 _ => same_task hφ t c c' h1)
  rw [Bool.eq_iff_iff, any_task, any_task] at this
  exact this
theorem PM.placeHas (h : PM φ R M M') (hφ : ∀ a b, φ a = φ b → a = b) (t : Int) : C.place M.has (fun c => c.task == t) = C.place M'.has (fun c => c.task == φ t) := h.has.place (fun c c' h1 _ => same_task hφ t c c' h1)
theorem PM.placeQueue (h : PM φ R M M') (hφ : ∀ a b, φ a = φ b → a = b) (t : Int) : C.place M.queue (fun c => c.task == t) = C.place M'.queue (fun c => c.task == φ t) := h.queue.place (fun c c' h1 _ => same_task hφ t c c' h1)

theorem AskR.par (hR : Keeps R) (hφ : ∀ a b, φ a = φ b → a = b) {t : Int} {L L' : List (Int × Bool)} {w w' : World} {b b' : Bool} {v v' : Value} (h : AskR M t L w b v N) (k : AskR M' (φ t) L' w' b' v' N') (hM : PM φ R M M')
    (ht : t < 0 ↔ φ t < 0) (hA : Asks M.m L ↔ Asks M'.m L') (hL : ∀ D D', (∀ x, how D x = hw L x) → (∀ x, how D' x = hw L' x) → Asks M.m L → R D D') : b = b' ∧ PM φ R N N' ∧ (v = .nilIface ↔ v' = .nilIface) := by
  have nn : ∀ {w : World} {v : Value} {k : Int}, Ref w v k → v ≠ .nilIface := fun ⟨pb, h, _⟩ e => by rw [h] at e; cases e
  cases h with
  | arg v hr hb =>
    cases k with
    | arg v' hr' _ => exact ⟨rfl, hM, iff_of_false (nn hr) (nn hr')⟩
    | held v' hr' _ _ _ => exact ⟨rfl, hM, iff_of_false (nn hr) (nn hr')⟩
    | ok c _ _ h0 h1 _ =>
      exfalso
      rcases hb with hb | hb
      · have := ht.1 hb; omega
      · exact hb (hA.2 h1)
  | held v hr h0 h1 h2 =>
    cases k with
    | arg v' hr' _ => exact ⟨rfl, hM, iff_of_false (nn hr) (nn hr')⟩
    | held v' hr' _ _ _ => exact ⟨rfl, hM, iff_of_false (nn hr) (nn hr')⟩
    | ok c _ _ _ _ hn =>
      exfalso
      obtain ⟨d, hd, e⟩ := (hM.hasAny hφ t).1 h2
      exact hn d hd e
  | ok c hc hh h0 h1 hn =>
    cases k with
    | arg v' hr' hb =>
      exfalso
      rcases hb with hb | hb
      · have := ht.2 hb; omega
      · exact hb (hA.1 h1)
    | held v' hr' _ _ h2 =>
      exfalso
      obtain ⟨d, hd, e⟩ := (hM.hasAny hφ t).2 h2
      exact hn d hd e
    | ok c' hc' hh' _ _ _ =>
      have hRR := hL c.set c'.set hh hh' h1
      have hst := hM.stops hR hRR
      refine ⟨by rw [hst], ?_, Iff.rfl⟩
      rw [hst]
      exact hM.put (by rw [hc', hc]) hRR _
theorem FreeR.par (hR : Keeps R) (hφ : ∀ a b, φ a = φ b → a = b) {t : Int} {w w' : World} {v v' : Value} {out out' : List Clm} (h : FreeR M t w v out N) (k : FreeR M' (φ t) w' v' out' N') (hM : PM φ R M M') : Pl φ R out out' ∧ PM φ R N N' ∧ (v = .nilIface ↔ v' = .nilIface) := by
  have nn : ∀ {w : World} {v : Value} {k : Int}, Ref w v k → v ≠ .nilIface := fun ⟨pb, h, _⟩ e => by rw [h] at e; cases e
  have hp := hM.placeHas hφ t
  cases h with
  | no v hr hn =>
    cases k with
    | no v' hr' _ => exact ⟨.nil, hM, iff_of_false (nn hr) (nn hr')⟩
    | ok i hi hpl _ =>
      exfalso
      rw [place_none (fun c hc => by have := hn c hc; simpa using this), hpl] at hp
      omega
  | ok i hi hpl _ =>
    cases k with
    | no v' hr' hn =>
      exfalso
      rw [hpl, place_none (fun c hc => by have := hn c hc; simpa using this)] at hp
      omega
    | ok i' hi' hpl' _ =>
      rw [hpl, hpl'] at hp
      obtain rfl : i = i' := by omega
      exact ⟨((hM.delHas i).thr hR).out, (hM.delHas i).pass hR, Iff.rfl⟩
theorem Quits.par (hR : Keeps R) (hφ : ∀ a b, φ a = φ b → a = b) {t : Int} {out out' : List Clm} (h : Quits M t N out) (k : Quits M' (φ t) N' out') (hM : PM φ R M M') : Pl φ R out out' ∧ PM φ R N N' := by
  have hp := hM.placeHas hφ t
  have hq := hM.placeQueue hφ t
  rcases h with ⟨i, hi, h1, rfl, rfl⟩ | ⟨h0, i, hi, h1, rfl, rfl⟩ | ⟨h0, h1, rfl, rfl⟩ <;> rcases k with ⟨i', hi', k1, rfl, rfl⟩ | ⟨k0, i', hi', k1, rfl, rfl⟩ | ⟨k0, k1, rfl, rfl⟩
  · obtain rfl : i = i' := by omega
    exact ⟨((hM.delHas i).thr hR).out, (hM.delHas i).pass hR⟩
  · omega
  · omega
  · omega
  · obtain rfl : i = i' := by omega
    exact ⟨((hM.delQueue i).thr hR).out, (hM.delQueue i).pass hR⟩
  · omega
  · omega
  · omega
  · exact ⟨.nil, hM⟩
end

/-- What Has tells of a task. -/
def HasR (M : Mgr) (task : Int) (L : List (Int × Bool)) : Prop := (∃ i, ∃ hi : i < M.has.length, place M.has (fun c => c.task == task) = (i : Int) ∧ L = held (M.has[i]).set M.m.toNat) ∨ (place M.has (fun c => c.task == task) = -1 ∧ L = [])
theorem hasR_any (M : Mgr) (task : Int) : ∃ L, HasR M task L := by
  rcases place_cases M.has (fun c => c.task == task) with h | ⟨i, hi, h⟩
  · exact ⟨_, .inr ⟨h, rfl⟩⟩
  · exact ⟨_, .inl ⟨i, hi, h, rfl⟩⟩
theorem HasR.le {M : Mgr} {task : Int} {L : List (Int × Bool)} (h : HasR M task L) (hm : M.m ≤ 1024) : L.length ≤ 1024 := by
  rcases h with ⟨i, hi, _, rfl⟩ | ⟨_, rfl⟩
  · have := held_le (M.has[i]).set M.m.toNat
    omega
  · simp
theorem has_any (w : World) (σ : Nat → Nat) (t g : Nat) (M : Mgr) (h : MgrAt w σ t g M) (task : Int) (L : List (Int × Bool)) (hL : HasR M task L) :
    Calls Try.prog 17 #[.pointer (some ⟨g, 0, none⟩), .int .i64 task] w fun e w' => ∃ v, e = .returned v ∧ w'.ownsRow w.heap.size 32 2 v L.length (lks L) ∧ Below w.heap.size w w' := by
  rcases hL with ⟨i, hi, hp, rfl⟩ | ⟨hp, rfl⟩
  · exact has_c w σ t g M h task i hi hp
  · refine (has_no w σ t g M h task ?_).mono ?_
    · have := place_any M.has (fun c => c.task == task)
      rw [hp] at this
      exact this.symm
    · rintro e w' ⟨rfl, hb⟩
      exact ⟨_, rfl, World.ownsRow_nil _ _ _ _, hb⟩
theorem HasR.par {φ : Int → Int} {R : Dt → Dt → Prop} {M M' : Mgr} {t : Int} {L L' : List (Int × Bool)} (hφ : ∀ a b, φ a = φ b → a = b) (h : HasR M t L) (k : HasR M' (φ t) L') (hM : PM φ R M M') :
    (L = [] ∧ L' = []) ∨ ∃ D D', R D D' ∧ L = held D M.m.toNat ∧ L' = held D' M.m.toNat := by
  have hp := hM.placeHas hφ t
  rcases h with ⟨i, hi, h1, rfl⟩ | ⟨h1, rfl⟩ <;> rcases k with ⟨i', hi', k1, rfl⟩ | ⟨k1, rfl⟩
  · obtain rfl : i = i' := by omega
    exact .inr ⟨_, _, (hM.has.at_ i hi hi').2, rfl, by rw [hM.m]⟩
  · omega
  · omega
  · exact .inl ⟨rfl, rfl⟩
end Go.Proofs.Ytgcnappgecdldaa.C
