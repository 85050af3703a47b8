/-
  FlowOrder, plain: what an operator took of a source is what the source passed to it.
-/
import Derived.Test.YtapninpdjccglaaRoomL
set_option linter.unusedVariables false
set_option linter.unusedSimpArgs false
namespace Go.Proofs.Ytapninpdjccglaa.C
open Go.RowKit Go.Proofs.Ytapninpdjccglaa.K

/-- Is the item one for operator j? -/
def mine (o j : Nat) (x : It) : Bool := x.mark || rtN o x.key == j
/-- The head of a queue, if it is a mark that operator j has had already. -/
def owed (F : FS) (i j : Nat) : List It := if j < F.to i then (F.q i).take 1 else []
/-- What came of source i. -/
def of_ (i : Nat) (L : List Ms) : List It := (L.filter (fun m => decide (m.src = (i : Int)))).map Ms.item
def updL {α : Type} (f : Nat → List α) (i : Nat) (L : List α) : Nat → List α := fun k => if k = i then L else f k
structure OInv (F : FS) (P : Nat → List It) (T : Nat → List Ms) : Prop where
  src : ∀ i, i < F.s → ∃ D, P i = D ++ F.q i ∧ ∀ j, j < F.o → of_ i (T j ++ F.b j) = D.filter (mine F.o j) ++ owed F i j
  head : ∀ i, i < F.s → 0 < F.to i → ∃ x r, F.q i = x :: r ∧ x.mark = true

theorem of_append (i : Nat) (L M : List Ms) : of_ i (L ++ M) = of_ i L ++ of_ i M := by simp [of_]
theorem of_self (i : Nat) (x : It) : of_ i [⟨(i : Int), x⟩] = [x] := by simp [of_]
theorem of_other {i k : Nat} (h : i ≠ k) (x : It) : of_ i [⟨(k : Int), x⟩] = [] := by
  have : ¬ ((k : Int) = (i : Int)) := by omega
  simp [of_, this]

theorem OInv.put {F : FS} {P : Nat → List It} {T : Nat → List Ms} (h : OInv F P T) {d : Nat} {x : It} (hp : (F.put (d : Int) x).1 = 0) : OInv (F.put (d : Int) x).2 (updL P d (P d ++ [x])) T := by
  unfold FS.put at hp ⊢
  split
  · rename_i hd
    rw [if_pos hd] at hp
    split
    · rename_i hm
      rw [if_pos hm] at hp
      split
      · rename_i hf
        rw [if_pos hf] at hp
        exact absurd hp (show ¬ (2 : Int) = 0 by decide)
      · rw [Int.toNat_natCast]
        constructor
        · intro i hi
          obtain ⟨D, hD, hT⟩ := h.src i hi
          by_cases hid : i = d
          · subst hid
            refine ⟨D, ?_, fun j hj => ?_⟩
            · show (if i = i then P i ++ [x] else P i) = D ++ (if i = i then F.q i ++ [x] else F.q i)
              rw [if_pos rfl, if_pos rfl, hD, List.append_assoc]
            · refine (hT j hj).trans (congrArg _ ?_)
              show (if j < F.to i then (F.q i).take 1 else []) = (if j < F.to i then (if i = i then F.q i ++ [x] else F.q i).take 1 else [])
              split
              · rename_i hj2
                obtain ⟨y, r, hq, _⟩ := h.head i hi (by omega)
                rw [if_pos rfl, hq]
                rfl
              · rfl
          · refine ⟨D, ?_, fun j hj => ?_⟩
            · show (if i = d then P d ++ [x] else P i) = D ++ (if i = d then F.q d ++ [x] else F.q i)
              rw [if_neg hid, if_neg hid]
              exact hD
            · refine (hT j hj).trans (congrArg _ ?_)
              show (if j < F.to i then (F.q i).take 1 else []) = (if j < F.to i then (if i = d then F.q d ++ [x] else F.q i).take 1 else [])
              rw [if_neg hid]
        · intro i hi ht
          obtain ⟨y, r, hq, hy⟩ := h.head i hi ht
          by_cases hid : i = d
          · subst hid
            exact ⟨y, r ++ [x], by show (if i = i then F.q i ++ [x] else F.q i) = _; rw [if_pos rfl, hq]; rfl, hy⟩
          · exact ⟨y, r, by show (if i = d then F.q d ++ [x] else F.q i) = _; rw [if_neg hid]; exact hq, hy⟩
    · rename_i hm
      rw [if_neg hm] at hp
      exact absurd hp hm
  · rename_i hd
    rw [if_neg hd] at hp
    exact absurd hp (show ¬ (1 : Int) = 0 by decide)

theorem OInv.take {F : FS} {P : Nat → List It} {T : Nat → List Ms} (h : OInv F P T) {j : Nat} (hp : (F.take (j : Int)).2.2.1 = 0) :
    OInv (F.take (j : Int)).2.2.2 P (updL T j (T j ++ [⟨(F.take (j : Int)).1, (F.take (j : Int)).2.1⟩])) := by
  unfold FS.take at hp ⊢
  split
  · rename_i hj
    rw [if_pos hj] at hp
    rw [Int.toNat_natCast] at hp ⊢
    split
    · rename_i hb
      rw [hb] at hp
      exact absurd hp (show ¬ (44 : Int) = 0 by decide)
    · rename_i m L hb
      constructor
      · intro i hi
        obtain ⟨D, hD, hT⟩ := h.src i hi
        refine ⟨D, hD, fun k hk => Eq.trans ?_ (hT k hk)⟩
        show of_ i ((if k = j then T j ++ [⟨m.src, m.item⟩] else T k) ++ (if k = j then L else F.b k)) = _
        by_cases hkj : k = j
        · subst hkj
          rw [if_pos rfl, if_pos rfl, hb, List.append_assoc]
          rfl
        · rw [if_neg hkj, if_neg hkj]
      · exact h.head
  · rename_i hj
    rw [if_neg hj] at hp
    exact absurd hp (show ¬ (1 : Int) = 0 by decide)

theorem OInv.new (s o m : Nat) : OInv (FS.new s o m) (fun _ => []) (fun _ => []) :=
  ⟨fun i hi => ⟨[], rfl, fun j hj => rfl⟩, fun i hi h => absurd h (show ¬ (0 < (FS.new s o m).to i) by show ¬ 0 < 0; omega)⟩

/-- A message is brought: source d's head x goes to operator z; its queue and its count become L and n. -/
theorem OInv.bring {F : FS} {P : Nat → List It} {T : Nat → List Ms} (h : OInv F P T) {d : Nat} (hd : d < F.s) {x : It} {r : List It} (hq : F.q d = x :: r) {z : Nat} {L : List It} {n : Nat}
    (hh : 0 < n → ∃ y r, L = y :: r ∧ y.mark = true)
    (hL : ∃ E, F.q d = E ++ L ∧ ∀ j, j < F.o → (if j < F.to d then [x] else []) ++ (if j = z then [x] else []) = E.filter (mine F.o j) ++ (if j < n then L.take 1 else [])) :
    OInv (((F.putb z (F.b z ++ [⟨(d : Int), x⟩])).putq d L).putto d n) P T := by
  obtain ⟨E, hE, hj⟩ := hL
  constructor
  · intro i hi
    obtain ⟨D, hD, hT⟩ := h.src i hi
    by_cases hid : i = d
    · subst hid
      refine ⟨D ++ E, ?_, fun j hjo => ?_⟩
      · show P i = D ++ E ++ (if i = i then L else F.q i)
        rw [if_pos rfl, List.append_assoc, ← hE]
        exact hD
      · show of_ i (T j ++ (if j = z then F.b z ++ [⟨(i : Int), x⟩] else F.b j)) = (D ++ E).filter (mine F.o j) ++ (if j < (if i = i then n else F.to i) then (if i = i then L else F.q i).take 1 else [])
        rw [if_pos rfl, if_pos rfl, List.filter_append, List.append_assoc, ← hj j hjo, ← List.append_assoc]
        have h1 := hT j hjo
        have h2 : owed F i j = if j < F.to i then [x] else [] := by unfold owed; rw [hq]; rfl
        rw [h2] at h1
        rw [← h1]
        by_cases hjz : j = z
        · subst hjz
          rw [if_pos rfl, if_pos rfl, ← List.append_assoc, of_append, of_self]
        · rw [if_neg hjz, if_neg hjz, List.append_nil]
    · refine ⟨D, ?_, fun j hjo => ?_⟩
      · show P i = D ++ (if i = d then L else F.q i)
        rw [if_neg hid]
        exact hD
      · show of_ i (T j ++ (if j = z then F.b z ++ [⟨(d : Int), x⟩] else F.b j)) = D.filter (mine F.o j) ++ (if j < (if i = d then n else F.to i) then (if i = d then L else F.q i).take 1 else [])
        rw [if_neg hid, if_neg hid]
        refine Eq.trans ?_ (hT j hjo)
        by_cases hjz : j = z
        · subst hjz
          rw [if_pos rfl, ← List.append_assoc, of_append, of_other hid, List.append_nil]
        · rw [if_neg hjz]
  · intro i hi ht
    by_cases hid : i = d
    · subst hid
      have ht' : 0 < n := by
        have : 0 < (if i = i then n else F.to i) := ht
        rwa [if_pos rfl] at this
      obtain ⟨y, r', hy, hm⟩ := hh ht'
      exact ⟨y, r', by show (if i = i then L else F.q i) = _; rw [if_pos rfl]; exact hy, hm⟩
    · have ht' : 0 < F.to i := by
        have : 0 < (if i = d then n else F.to i) := ht
        rwa [if_neg hid] at this
      obtain ⟨y, r', hy, hm⟩ := h.head i hi ht'
      exact ⟨y, r', by show (if i = d then L else F.q i) = _; rw [if_neg hid]; exact hy, hm⟩

theorem OInv.pass {F : FS} {P : Nat → List It} {T : Nat → List Ms} (h : OInv F P T) (hz : FTo F) (i : Int) : OInv (F.pass i).2.2 P T := by
  unfold FS.pass
  split
  · rename_i hi
    obtain ⟨d, rfl⟩ := Int.eq_ofNat_of_zero_le hi.1
    have hd : d < F.s := by omega
    rw [Int.toNat_natCast]
    have ht := hz d hd
    split
    · exact h
    · rename_i x r hq
      split
      · exact h
      · split
        · rename_i hm
          obtain ⟨hm, hto⟩ := hm
          have hg : F.goes d x = F.to d := by unfold FS.goes; rw [if_pos hm]
          rw [hg]
          have hs : (F.putb (F.to d) (F.b (F.to d) ++ [⟨(d : Int), x⟩])).putto d (F.to d + 1) = ((F.putb (F.to d) (F.b (F.to d) ++ [⟨(d : Int), x⟩])).putq d (x :: r)).putto d (F.to d + 1) := by
            unfold FS.putto FS.putq FS.putb
            congr 1
            funext k
            by_cases hk : k = d
            · subst hk; simp [hq]
            · simp [hk]
          show OInv ((F.putb (F.to d) (F.b (F.to d) ++ [⟨(d : Int), x⟩])).putto d (F.to d + 1)) P T
          rw [hs]
          refine h.bring hd hq (fun _ => ⟨x, r, rfl, hm⟩) ⟨[], by rw [hq]; rfl, fun j hj => ?_⟩
          by_cases h1 : j < F.to d
          · rw [if_pos h1, if_neg (by omega), if_pos (by omega)]; rfl
          · by_cases h2 : j = F.to d
            · rw [if_neg h1, if_pos h2, if_pos (by omega)]; rfl
            · rw [if_neg h1, if_neg h2, if_neg (by omega)]; rfl
        · rename_i hm
          refine h.bring hd hq (fun h0 => absurd h0 (by omega)) ⟨[x], by rw [hq]; rfl, fun j hj => ?_⟩
          rw [if_neg (show ¬ j < 0 by omega), List.append_nil]
          by_cases hx : x.mark = true
          · have hto : F.to d + 1 = F.o := by
              have : ¬ F.to d + 1 < F.o := fun h1 => hm ⟨hx, h1⟩
              omega
            have hg : F.goes d x = F.to d := by unfold FS.goes; rw [if_pos hx]
            have hmi : mine F.o j x = true := by unfold mine; rw [hx]; rfl
            rw [hg, List.filter_cons, if_pos hmi]
            by_cases h1 : j < F.to d
            · rw [if_pos h1, if_neg (by omega)]; rfl
            · rw [if_neg h1, if_pos (by omega)]; rfl
          · have ht0 : F.to d = 0 := by
              rcases Nat.eq_zero_or_pos (F.to d) with h0 | h0
              · exact h0
              · obtain ⟨y, r', hy, hmy⟩ := h.head d hd h0
                rw [hq] at hy
                cases hy
                exact absurd hmy hx
            have hx' : x.mark = false := by simpa using hx
            have hg : F.goes d x = rtN F.o x.key := by unfold FS.goes; rw [if_neg hx]
            rw [hg, ht0, if_neg (by omega), List.filter_cons]
            by_cases h1 : j = rtN F.o x.key
            · have hmi : mine F.o j x = true := by unfold mine; rw [hx', h1]; simp
              rw [if_pos h1, if_pos hmi]; rfl
            · have hmi : ¬ mine F.o j x = true := by unfold mine; rw [hx']; simp; omega
              rw [if_neg h1, if_neg hmi]; rfl
  · exact h

/-- When all is brought and taken: each operator took of each source what was its own, in order. -/
theorem OInv.done {F : FS} {P : Nat → List It} {T : Nat → List Ms} (h : OInv F P T) (hq : ∀ i, i < F.s → F.q i = []) (hb : ∀ j, j < F.o → F.b j = []) {i j : Nat} (hi : i < F.s) (hj : j < F.o) :
    of_ i (T j) = (P i).filter (mine F.o j) := by
  obtain ⟨D, hD, hT⟩ := h.src i hi
  have h1 := hT j hj
  have h2 : owed F i j = [] := by unfold owed; rw [hq i hi]; simp
  rw [hb j hj, List.append_nil, h2, List.append_nil] at h1
  rw [hD, hq i hi, List.append_nil]
  exact h1
end Go.Proofs.Ytapninpdjccglaa.C
