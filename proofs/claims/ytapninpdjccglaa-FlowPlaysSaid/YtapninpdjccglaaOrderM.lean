/-
  FlowOrder, plain: how many deliveries are left.
-/
import Derived.Test.YtapninpdjccglaaOrderL
set_option linter.unusedVariables false
set_option linter.unusedSimpArgs false
namespace Go.Proofs.Ytapninpdjccglaa.C
open Go.RowKit Go.Proofs.Ytapninpdjccglaa.K

def cost (o : Nat) (x : It) : Nat := if x.mark then o else 1
def costs (o : Nat) (L : List It) : Nat := (L.map (cost o)).sum
/-- Passes left for a source. -/
def qleft (F : FS) (i : Nat) : Nat := costs F.o (F.q i) - F.to i
/-- Passes and takes left. -/
def pot (F : FS) : Nat := sumTo (qleft F) F.s + sumTo (fun j => (F.b j).length) F.o

theorem sumTo_same {f g : Nat → Nat} : ∀ {n : Nat}, (∀ k, k < n → g k = f k) → sumTo g n = sumTo f n
  | 0, _ => rfl
  | n + 1, h => by
    rw [sumTo, sumTo, sumTo_same (fun k hk => h k (by omega)), h n (by omega)]
theorem sumTo_upd {f g : Nat → Nat} {i : Nat} : ∀ {n : Nat}, i < n → (∀ k, k ≠ i → g k = f k) → sumTo g n + f i = sumTo f n + g i
  | 0, h, _ => absurd h (by omega)
  | n + 1, h, hk => by
    rw [sumTo, sumTo]
    by_cases hi : i = n
    · subst hi
      rw [sumTo_same (fun k h1 => hk k (by omega))]
      omega
    · have := sumTo_upd (n := n) (by omega) hk
      have := hk n (by omega)
      omega
theorem sumTo_zero {f : Nat → Nat} : ∀ {n : Nat}, (∀ k, k < n → f k = 0) → sumTo f n = 0
  | 0, _ => rfl
  | n + 1, h => by rw [sumTo, sumTo_zero (fun k hk => h k (by omega)), h n (by omega)]
theorem sumTo_pos {f : Nat → Nat} {i : Nat} : ∀ {n : Nat}, i < n → f i ≤ sumTo f n
  | 0, h => absurd h (by omega)
  | n + 1, h => by
    rw [sumTo]
    by_cases hi : i = n
    · subst hi; omega
    · have := sumTo_pos (f := f) (n := n) (i := i) (by omega)
      omega

theorem take_pot {F : FS} {j : Int} (h : (F.take j).2.2.1 = 0) : pot (F.take j).2.2.2 + 1 = pot F := by
  unfold FS.take at h ⊢
  split
  · rename_i hj
    rw [if_pos hj] at h
    split
    · rename_i hb
      rw [hb] at h
      exact absurd h (show ¬ (44 : Int) = 0 by decide)
    · rename_i m L hb
      have h1 := sumTo_upd (f := fun k => (F.b k).length) (g := fun k => ((F.putb j.toNat L).b k).length) (i := j.toNat) (n := F.o) (by omega) (fun k hk => by
        show (if k = j.toNat then L else F.b k).length = _
        rw [if_neg hk])
      have h2 : ((F.putb j.toNat L).b j.toNat).length = L.length := by
        show (if j.toNat = j.toNat then L else F.b j.toNat).length = _
        rw [if_pos rfl]
      have h3 : (F.b j.toNat).length = L.length + 1 := by rw [hb]; rfl
      simp only [h2, h3] at h1
      show sumTo (qleft F) F.s + sumTo (fun k => ((F.putb j.toNat L).b k).length) F.o + 1 = sumTo (qleft F) F.s + sumTo (fun k => (F.b k).length) F.o
      omega
  · rename_i hj
    rw [if_neg hj] at h
    exact absurd h (show ¬ (1 : Int) = 0 by decide)
theorem take_kept {F : FS} {j : Int} (h : (F.take j).2.2.1 ≠ 0) : (F.take j).2.2.2 = F := by
  unfold FS.take at h ⊢
  split
  · rename_i hj
    rw [if_pos hj] at h
    split
    · rfl
    · rename_i m L hb
      rw [hb] at h
      exact absurd rfl h
  · rfl

theorem bring_pot {F : FS} {d : Nat} (hd : d < F.s) {x : It} {z : Nat} (hz : z < F.o) {L : List It} {n : Nat} (h : costs F.o L - n + 1 = qleft F d) :
    pot (((F.putb z (F.b z ++ [⟨(d : Int), x⟩])).putq d L).putto d n) = pot F := by
  have h1 := sumTo_upd (f := fun k => (F.b k).length) (g := fun k => (if k = z then F.b z ++ [⟨(d : Int), x⟩] else F.b k).length) (i := z) (n := F.o) hz (fun k hk => by
    show (if k = z then _ else F.b k).length = _
    rw [if_neg hk])
  have h2 := sumTo_upd (f := qleft F) (g := qleft (((F.putb z (F.b z ++ [⟨(d : Int), x⟩])).putq d L).putto d n)) (i := d) (n := F.s) hd (fun k hk => by
    show costs F.o (if k = d then L else F.q k) - (if k = d then n else F.to k) = costs F.o (F.q k) - F.to k
    rw [if_neg hk, if_neg hk])
  have h3 : qleft (((F.putb z (F.b z ++ [⟨(d : Int), x⟩])).putq d L).putto d n) d = costs F.o L - n := by
    show costs F.o (if d = d then L else F.q d) - (if d = d then n else F.to d) = _
    rw [if_pos rfl, if_pos rfl]
  simp only [if_true, List.length_append, List.length_singleton] at h1
  rw [h3] at h2
  show sumTo (qleft (((F.putb z (F.b z ++ [⟨(d : Int), x⟩])).putq d L).putto d n)) F.s + sumTo (fun k => (if k = z then F.b z ++ [⟨(d : Int), x⟩] else F.b k).length) F.o = sumTo (qleft F) F.s + sumTo (fun k => (F.b k).length) F.o
  omega

theorem left_pot {F : FS} {P : Nat → List It} {T : Nat → List Ms} (h : OInv F P T) (hz : FTo F) (h0 : pot F = 0) : (∀ i, i < F.s → F.q i = []) ∧ ∀ j, j < F.o → F.b j = [] := by
  unfold pot at h0
  constructor
  · intro i hi
    have h1 := sumTo_pos (f := qleft F) hi
    rcases hq : F.q i with _ | ⟨x, r⟩
    · rfl
    · exfalso
      have h2 : qleft F i = 0 := by omega
      unfold qleft costs at h2
      rw [hq] at h2
      simp only [List.map_cons, List.sum_cons] at h2
      have ht := hz i hi
      unfold cost at h2
      by_cases hx : x.mark = true
      · rw [if_pos hx] at h2
        omega
      · rw [if_neg hx] at h2
        rcases Nat.eq_zero_or_pos (F.to i) with e | e
        · omega
        · obtain ⟨y, r', hy, hm⟩ := h.head i hi e
          rw [hq] at hy
          cases hy
          exact hx hm
  · intro j hj
    have h1 := sumTo_pos (f := fun j => (F.b j).length) hj
    have h2 : (F.b j).length = 0 := by
      have h1' : (F.b j).length ≤ sumTo (fun j => (F.b j).length) F.o := h1
      omega
    exact List.eq_nil_of_length_eq_zero h2

theorem pass_kept {F : FS} {P : Nat → List It} {T : Nat → List Ms} (h : OInv F P T) (hz : FTo F) (hg : FGood F) (i : Int) : pot (F.pass i).2.2 = pot F := by
  unfold FS.pass
  split
  · rename_i hi
    obtain ⟨d, rfl⟩ := Int.eq_ofNat_of_zero_le hi.1
    have hd : d < F.s := by omega
    rw [Int.toNat_natCast]
    have ht := hz d hd
    split
    · rfl
    · rename_i x r hq
      have hgo := goes_lt hg hz hd x
      have hql : qleft F d = cost F.o x + costs F.o r - F.to d := by unfold qleft costs; rw [hq]; rfl
      split
      · rfl
      · split
        · rename_i hm
          obtain ⟨hm, hto⟩ := hm
          have hc : cost F.o x = F.o := by unfold cost; rw [if_pos hm]
          have hs : (F.putb (F.goes d x) (F.b (F.goes d x) ++ [⟨(d : Int), x⟩])).putto d (F.to d + 1) = ((F.putb (F.goes d x) (F.b (F.goes d x) ++ [⟨(d : Int), x⟩])).putq d (x :: r)).putto d (F.to d + 1) := by
            unfold FS.putto FS.putq FS.putb
            congr 1
            funext k
            by_cases hk : k = d
            · subst hk; simp [hq]
            · simp [hk]
          show pot ((F.putb (F.goes d x) (F.b (F.goes d x) ++ [⟨(d : Int), x⟩])).putto d (F.to d + 1)) = _
          rw [hs]
          refine bring_pot hd hgo ?_
          have hxr : costs F.o (x :: r) = cost F.o x + costs F.o r := by unfold costs; simp
          rw [hql, hxr, hc]
          omega
        · rename_i hm
          refine bring_pot hd hgo ?_
          rw [hql]
          by_cases hx : x.mark = true
          · have hto : F.to d + 1 = F.o := by
              have : ¬ F.to d + 1 < F.o := fun h1 => hm ⟨hx, h1⟩
              omega
            have hc : cost F.o x = F.o := by unfold cost; rw [if_pos hx]
            rw [hc]
            omega
          · have ht0 : F.to d = 0 := by
              rcases Nat.eq_zero_or_pos (F.to d) with h0 | h0
              · exact h0
              · obtain ⟨y, r', hy, hmy⟩ := h.head d hd h0
                rw [hq] at hy
                cases hy
                exact absurd hmy hx
            have hc : cost F.o x = 1 := by unfold cost; rw [if_neg hx]
            rw [hc, ht0]
            omega
  · rfl
/-- Either some box holds something, or the queues below i are empty. -/
def Prog (F : FS) (i : Nat) : Prop := (∃ j, j < F.o ∧ F.b j ≠ []) ∨ ∀ k, k < i → F.q k = []
theorem pass_prog {F : FS} (hg : FGood F) (hz : FTo F) {d : Nat} (hd : d < F.s) (h : Prog F d) : Prog (F.pass (d : Int)).2.2 (d + 1) := by
  unfold FS.pass
  rw [if_pos (by omega), Int.toNat_natCast]
  rcases hq : F.q d with _ | ⟨x, r⟩
  · show Prog F (d + 1)
    rcases h with h | h
    · exact .inl h
    · refine .inr fun k hk => ?_
      by_cases e : k = d
      · subst e; exact hq
      · exact h k (by omega)
  · have hgo := goes_lt hg hz hd x
    dsimp only
    split
    · rename_i hf
      refine .inl ⟨_, hgo, fun e => ?_⟩
      rw [e] at hf
      have := hg.m1
      simp at hf
      omega
    · split
      · refine .inl ⟨F.goes d x, hgo, ?_⟩
        show (if F.goes d x = F.goes d x then F.b (F.goes d x) ++ [⟨(d : Int), x⟩] else F.b (F.goes d x)) ≠ []
        rw [if_pos rfl]
        simp
      · refine .inl ⟨F.goes d x, hgo, ?_⟩
        show (if F.goes d x = F.goes d x then F.b (F.goes d x) ++ [⟨(d : Int), x⟩] else F.b (F.goes d x)) ≠ []
        rw [if_pos rfl]
        simp
theorem prog_end {F : FS} (h : Prog F F.s) (hp : 0 < pot F) : ∃ j, j < F.o ∧ F.b j ≠ [] := by
  rcases h with h | h
  · exact h
  · refine Classical.byContradiction fun hn => ?_
    have hb : ∀ j, j < F.o → (F.b j).length = 0 := fun j hj => by
      rcases e : F.b j with _ | ⟨m, L⟩
      · rfl
      · exact absurd ⟨j, hj, by rw [e]; simp⟩ hn
    unfold pot at hp
    rw [sumTo_zero hb, sumTo_zero (fun k hk => by unfold qleft costs; rw [h k hk]; simp)] at hp
    omega
/-- In the round of takes: less is left than p, or a box from j on holds something. -/
def Tprog (F : FS) (p j : Nat) : Prop := pot F < p ∨ (pot F = p ∧ ∃ k, j ≤ k ∧ k < F.o ∧ F.b k ≠ [])
theorem take_prog {F : FS} {p j : Nat} (hj : j < F.o) (h : Tprog F p j) : Tprog (F.take (j : Int)).2.2.2 p (j + 1) := by
  by_cases ht : (F.take (j : Int)).2.2.1 = 0
  · have h1 := take_pot ht
    left
    rcases h with h | ⟨h, _⟩ <;> omega
  · rw [take_kept ht]
    rcases h with h | ⟨h, k, hk, hko, hb⟩
    · exact .inl h
    · refine .inr ⟨h, k, ?_, hko, hb⟩
      by_cases e : k = j
      · subst e
        have hn : ¬ 0 < nB F (k : Int) := fun h0 => ht (take_yes h0).1
        unfold nB at hn
        rw [if_pos (by omega), Int.toNat_natCast] at hn
        exact absurd (List.eq_nil_of_length_eq_zero (by omega)) hb
      · omega
theorem tprog_end {F : FS} {p : Nat} (h : Tprog F p F.o) : pot F < p := by
  rcases h with h | ⟨_, k, h1, h2, _⟩
  · exact h
  · omega
theorem put_pot {F : FS} (hg : FGood F) (i : Int) (x : It) : pot (F.put i x).2 ≤ pot F + 8 := by
  unfold FS.put
  split
  · rename_i hi
    split
    · split
      · show pot F ≤ pot F + 8; omega
      · have h2 := sumTo_upd (f := qleft F) (g := qleft (F.putq i.toNat (F.q i.toNat ++ [x]))) (i := i.toNat) (n := F.s) (by omega) (fun k hk => by
          show costs F.o (if k = i.toNat then F.q i.toNat ++ [x] else F.q k) - F.to k = costs F.o (F.q k) - F.to k
          rw [if_neg hk])
        have h3 : qleft (F.putq i.toNat (F.q i.toNat ++ [x])) i.toNat = costs F.o (F.q i.toNat) + cost F.o x - F.to i.toNat := by
          show costs F.o (if i.toNat = i.toNat then F.q i.toNat ++ [x] else F.q i.toNat) - F.to i.toNat = _
          rw [if_pos rfl]
          unfold costs
          simp
        have h4 : cost F.o x ≤ 8 := by
          unfold cost
          have := hg.o2
          split <;> omega
        have h5 : qleft F i.toNat = costs F.o (F.q i.toNat) - F.to i.toNat := rfl
        show sumTo (qleft (F.putq i.toNat (F.q i.toNat ++ [x]))) F.s + sumTo (fun j => (F.b j).length) F.o ≤ sumTo (qleft F) F.s + sumTo (fun j => (F.b j).length) F.o + 8
        omega
    · show pot F ≤ pot F + 8; omega
  · show pot F ≤ pot F + 8; omega
end Go.Proofs.Ytapninpdjccglaa.C
