/-
  Locks: the plain law of LocksNamed: locks and tasks under other numbers.
-/
import Derived.Test.YtgcnappgecdldaaQ3
set_option linter.unusedVariables false
set_option linter.unusedSimpArgs false
namespace Go.Proofs.Ytgcnappgecdldaa.C
open Go.RowKit Go.Proofs.Ytgcnappgecdldaa.K Go.Maps

/-- A lock's other number. -/
def pin (n b x : Int) : Int := if 0 ≤ x ∧ x < n then (x + b) % n else x
theorem pin_val {n b x : Int} (hn : 0 < n) (h0 : 0 ≤ x) (h1 : x < n) : (x + b) % n = if x + b % n < n then x + b % n else x + b % n - n := by
  have hb0 := Int.emod_nonneg b (show n ≠ 0 by omega)
  have hb1 := Int.emod_lt_of_pos b hn
  have e : (x + b) % n = (x + b % n) % n := by rw [Int.add_emod_emod]
  rw [e]
  split
  · exact Int.emod_eq_of_lt (by omega) (by omega)
  · have e2 : x + b % n = (x + b % n - n) + n := by omega
    rw [e2, Int.add_emod_right]
    rw [Int.emod_eq_of_lt (by omega) (by omega)]
    omega
theorem pin_in {n b x : Int} (hn : 0 < n) : (0 ≤ pin n b x ∧ pin n b x < n) ↔ (0 ≤ x ∧ x < n) := by
  unfold pin
  split
  · have h1 := Int.emod_nonneg (x + b) (show n ≠ 0 by omega)
    have h2 := Int.emod_lt_of_pos (x + b) hn
    omega
  · omega
theorem pin_inj {n b x y : Int} (hn : 0 < n) (h : pin n b x = pin n b y) : x = y := by
  have hb0 := Int.emod_nonneg b (show n ≠ 0 by omega)
  have hb1 := Int.emod_lt_of_pos b hn
  by_cases hx : 0 ≤ x ∧ x < n
  · by_cases hy : 0 ≤ y ∧ y < n
    · unfold pin at h
      rw [if_pos hx, if_pos hy, pin_val hn hx.1 hx.2, pin_val hn hy.1 hy.2] at h
      split at h <;> split at h <;> omega
    · have h1 := (pin_in (b := b) hn).2 hx
      rw [h] at h1
      exact absurd ((pin_in hn).1 h1) hy
  · by_cases hy : 0 ≤ y ∧ y < n
    · have h1 := (pin_in (b := b) hn).2 hy
      rw [← h] at h1
      exact absurd ((pin_in hn).1 h1) hx
    · unfold pin at h
      rw [if_neg hx, if_neg hy] at h
      exact h
def pinp (n b : Int) (p : Int × Bool) : Int × Bool := (pin n b p.1, p.2)
/-- A list of locks, under other numbers, turned round. -/
def mapL (n b : Int) (L : List (Int × Bool)) : List (Int × Bool) := L.reverse.map (pinp n b)
theorem mem_mapL {n b : Int} {L : List (Int × Bool)} {q : Int × Bool} : q ∈ mapL n b L ↔ ∃ p ∈ L, pinp n b p = q := by simp [mapL]
def Keys (L : List (Int × Bool)) : Prop := (L.map (·.1)).Nodup
theorem keys_once {L : List (Int × Bool)} : Keys L ↔ ∀ i j (hi : i < L.length) (hj : j < L.length), L[i].1 = L[j].1 → i = j := by
  unfold Keys List.Nodup
  rw [List.pairwise_iff_getElem]
  simp only [List.length_map, List.getElem_map]
  constructor
  · intro h i j hi hj e
    rcases Nat.lt_trichotomy i j with h1 | h1 | h1
    · exact absurd e (h i j hi hj h1)
    · exact h1
    · exact absurd e.symm (h j i hj hi h1)
  · intro h i j hi hj hij e
    have := h i j hi hj e
    omega
theorem asks_iff {n : Int} {L : List (Int × Bool)} : Asks n L ↔ L ≠ [] ∧ (∀ p ∈ L, 0 ≤ p.1 ∧ p.1 < n) ∧ Keys L :=
  ⟨fun h => ⟨h.some_, fun p hp => ⟨h.low p hp, h.high p hp⟩, keys_once.2 h.once⟩, fun ⟨h1, h2, h3⟩ => ⟨h1, fun p hp => (h2 p hp).1, fun p hp => (h2 p hp).2, keys_once.1 h3⟩⟩
theorem keys_mapL {n b : Int} (hn : 0 < n) (L : List (Int × Bool)) : Keys (mapL n b L) ↔ Keys L := by
  unfold Keys mapL
  rw [List.map_map]
  have e : (L.reverse.map ((fun p : Int × Bool => p.1) ∘ pinp n b)) = ((L.map (·.1)).map (pin n b)).reverse := by
    rw [List.map_reverse, List.map_map]
    rfl
  rw [e]
  unfold List.Nodup
  rw [List.pairwise_reverse, List.pairwise_map]
  constructor
  · intro h
    exact h.imp (fun h1 e => h1 (by rw [e]))
  · intro h
    exact h.imp (fun h1 e => h1 (pin_inj hn e.symm))
theorem asks_mapL {n b : Int} (hn : 0 < n) (L : List (Int × Bool)) : Asks n L ↔ Asks n (mapL n b L) := by
  rw [asks_iff, asks_iff, keys_mapL hn]
  have h1 : mapL n b L ≠ [] ↔ L ≠ [] := by simp [mapL]
  have h2 : (∀ q ∈ mapL n b L, 0 ≤ q.1 ∧ q.1 < n) ↔ (∀ p ∈ L, 0 ≤ p.1 ∧ p.1 < n) := by
    constructor
    · intro h p hp
      exact (pin_in hn).1 (h _ (mem_mapL.2 ⟨p, hp, rfl⟩))
    · intro h q hq
      obtain ⟨p, hp, rfl⟩ := mem_mapL.1 hq
      exact (pin_in hn).2 (h p hp)
  rw [h1, h2]
theorem hw_key {L : List (Int × Bool)} (hk : Keys L) : ∀ p ∈ L, hw L p.1 = if p.2 then 1 else 2 := by
  induction L with
  | nil => intro p hp; simp at hp
  | cons q r ih =>
    intro p hp
    unfold Keys at hk ih
    rw [List.map_cons, List.nodup_cons] at hk
    rcases List.mem_cons.1 hp with rfl | hp
    · exact if_pos rfl
    · exact (if_neg (fun e => hk.1 (List.mem_map.2 ⟨p, hp, e.symm⟩))).trans (ih hk.2 p hp)
theorem CL_key {P Q : List (Int × Bool)} (hP : Keys P) (hQ : Keys Q) : CL P Q ↔ confF (hw P) (hw Q) := by
  constructor
  · rintro ⟨p, hp, q, hq, e, hn⟩
    refine ⟨p.1, ?_, ?_, ?_⟩
    · rw [hw_key hP p hp]; split <;> decide
    · rw [e, hw_key hQ q hq]; split <;> decide
    · rw [hw_key hP p hp, e, hw_key hQ q hq]
      intro h
      refine hn ⟨?_, ?_⟩
      · rcases hh : p.2 with _ | _
        · rw [hh] at h; simp at h
        · rfl
      · rcases hh : q.2 with _ | _
        · rw [hh] at h; simp at h
        · rfl
  · rintro ⟨x, h1, h2, h3⟩
    obtain ⟨p, hp, rfl⟩ := hw_mem h1
    obtain ⟨q, hq, e⟩ := hw_mem h2
    refine ⟨p, hp, q, hq, e.symm, fun h => h3 ⟨?_, ?_⟩⟩
    · rw [hw_key hP p hp, if_pos h.1]
    · rw [← e, hw_key hQ q hq, if_pos h.2]
theorem CL_map {n b : Int} (hn : 0 < n) (P Q : List (Int × Bool)) : CL P Q ↔ CL (mapL n b P) (mapL n b Q) := by
  constructor
  · rintro ⟨p, hp, q, hq, e, h⟩
    exact ⟨_, mem_mapL.2 ⟨p, hp, rfl⟩, _, mem_mapL.2 ⟨q, hq, rfl⟩, congrArg (pin n b) e, h⟩
  · rintro ⟨p', hp, q', hq, e, h⟩
    obtain ⟨p, hp2, rfl⟩ := mem_mapL.1 hp
    obtain ⟨q, hq2, rfl⟩ := mem_mapL.1 hq
    exact ⟨p, hp2, q, hq2, pin_inj hn e, h⟩
/-- Sets that belong together: of one list, and of that list under other numbers. -/
def Rn (n b : Int) (D D' : Dt) : Prop := ∃ L, Asks n L ∧ (∀ x, how D x = hw L x) ∧ (∀ x, how D' x = hw (mapL n b L) x)
theorem rn_keeps {n b : Int} (hn : 0 < n) : Keeps (Rn n b) := by
  rintro D D' E E' ⟨P, hP, h1, h2⟩ ⟨Q, hQ, k1, k2⟩
  have e1 : conf D E ↔ confF (hw P) (hw Q) := by
    show confF (how D) (how E) ↔ _
    rw [funext h1, funext k1]
  have e2 : conf D' E' ↔ confF (hw (mapL n b P)) (hw (mapL n b Q)) := by
    show confF (how D') (how E') ↔ _
    rw [funext h2, funext k2]
  have kP := (asks_iff.1 hP).2.2
  have kQ := (asks_iff.1 hQ).2.2
  rw [e1, e2, ← CL_key kP kQ, ← CL_key ((keys_mapL hn P).2 kP) ((keys_mapL hn Q).2 kQ)]
  exact CL_map hn P Q
theorem filt_key (k : Int) : ∀ L : List (Int × Bool), Keys L → (L.filter (fun p => decide (p.1 = k))).length = if hw L k ≠ 0 then 1 else 0
  | [], _ => rfl
  | p :: r, h => by
    unfold Keys at h
    rw [List.map_cons, List.nodup_cons] at h
    have ih := filt_key k r h.2
    show _ = if (if p.1 = k then (if p.2 then (1 : Int) else 2) else hw r k) ≠ 0 then 1 else 0
    by_cases e : p.1 = k
    · have e3 : r.filter (fun p => decide (p.1 = k)) = [] := List.filter_eq_nil_iff.2 (fun q hq hh => h.1 (by
        have : q.1 = k := by simpa using hh
        exact List.mem_map.2 ⟨q, hq, this.trans e.symm⟩))
      rw [List.filter_cons_of_pos (by simpa using e), e3, if_pos e]
      rw [if_pos (by split <;> decide)]
      rfl
    · rw [List.filter_cons_of_neg (by simpa using e), ih, if_neg e]
theorem filt_add (k : Int) : ∀ L : List (Int × Bool), (L.filter (fun p => decide (p.1 < k + 1))).length = (L.filter (fun p => decide (p.1 < k))).length + (L.filter (fun p => decide (p.1 = k))).length
  | [] => rfl
  | p :: r => by
    have ih := filt_add k r
    rcases Int.lt_trichotomy p.1 k with h | h | h
    · rw [List.filter_cons_of_pos (by simp; omega), List.filter_cons_of_pos (by simp; omega), List.filter_cons_of_neg (by simp; omega), List.length_cons, List.length_cons, ih]
      omega
    · rw [List.filter_cons_of_pos (by simp; omega), List.filter_cons_of_neg (by simp; omega), List.filter_cons_of_pos (by simp; omega), List.length_cons, List.length_cons, ih]
      omega
    · rw [List.filter_cons_of_neg (by simp; omega), List.filter_cons_of_neg (by simp; omega), List.filter_cons_of_neg (by simp; omega), ih]
theorem held_cnt {n : Int} {D : Dt} {L : List (Int × Bool)} (hA : Asks n L) (hD : ∀ x, how D x = hw L x) : (held D n.toNat).length = L.length := by
  have key : ∀ k : Nat, (held D k).length = (L.filter (fun p => decide (p.1 < (k : Int)))).length := by
    intro k
    induction k with
    | zero =>
      have : L.filter (fun p => decide (p.1 < ((0 : Nat) : Int))) = [] := List.filter_eq_nil_iff.2 (fun q hq => by have := hA.low q hq; simp; omega)
      rw [this]
      rfl
    | succ k ih =>
      rw [show ((k + 1 : Nat) : Int) = (k : Int) + 1 by omega, filt_add, filt_key _ _ (asks_iff.1 hA).2.2, ← ih, ← hD]
      show (if how D k ≠ 0 then held D k ++ [((k : Int), how D k == 1)] else held D k).length = _
      split
      · rw [List.length_append]; rfl
      · rfl
  rw [key]
  rw [List.filter_eq_self.2 (fun p hp => by have := hA.high p hp; have := hA.low p hp; simp; omega)]
theorem mapL_len (n b : Int) (L : List (Int × Bool)) : (mapL n b L).length = L.length := by simp [mapL]
theorem rn_len {n b : Int} (hn : 0 < n) {D D' : Dt} (h : Rn n b D D') : (held D n.toNat).length = (held D' n.toNat).length := by
  obtain ⟨L, hA, h1, h2⟩ := h
  rw [held_cnt hA h1, held_cnt ((asks_mapL hn L).1 hA) h2, mapL_len]
def ren (b t : Int) : Int := 3 * t + b
theorem ren_inj (b : Int) : ∀ x y, ren b x = ren b y → x = y := fun x y h => by unfold ren at h; omega
end Go.Proofs.Ytgcnappgecdldaa.C
