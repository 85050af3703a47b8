/-
  A slice that need not begin at the head of its block (a row that was cut at the front); copy of elements of several cells.
-/
import Derived.Test.YtgcnappgecdldaaTag
import Derived.ArgAppend
set_option linter.unusedVariables false
namespace Go.Proofs.Ytgcnappgecdldaa.K
open Go.RowKit

def spliced (cur : List Value) (o : Nat) (vs : List Value) : List Value := cur.take o ++ vs ++ cur.drop (o + vs.length)
theorem spliced_cons (l : List Value) (o : Nat) (v : Value) (r : List Value) (h : o < l.length) : spliced (l.set o v) (o + 1) r = spliced l o (v :: r) := by
  unfold spliced
  have e : l.set o v = l.take o ++ v :: l.drop (o + 1) := by rw [List.set_eq_take_append_cons_drop, if_pos h]
  have hl : (l.take o).length = o := by rw [List.length_take]; omega
  rw [e, List.take_append, List.drop_append, hl]
  simp only [List.take_take, List.length_cons]
  rw [show o + 1 - o = 1 by omega, show min (o + 1) o = o by omega, show o + 1 + r.length - o = r.length + 1 by omega]
  rw [List.drop_eq_nil_of_le (as := l.take o) (by omega)]
  simp only [List.take_succ_cons, List.take_zero, List.drop_succ_cons, List.drop_drop, List.nil_append, List.append_assoc, List.cons_append]
  rw [show o + 1 + r.length = o + (r.length + 1) by omega]
theorem spliced_length (l : List Value) (o : Nat) (vs : List Value) (h : o + vs.length ≤ l.length) : (spliced l o vs).length = l.length := by
  simp [spliced]; omega
theorem Blk.setCells {g : Nat} {t : TypeId} : ∀ (vs : List Value) (o : Nat) (w : World) (cs : Array Value), Blk w g t cs → o + vs.length ≤ cs.size → Blk (w.setCells g o vs) g t (spliced cs.toList o vs).toArray
  | [], o, w, cs, h, _ => by
    have : spliced cs.toList o [] = cs.toList := by simp [spliced]
    rw [this]
    simpa [World.setCells] using h
  | v :: r, o, w, cs, h, hl => by
    simp only [List.length_cons] at hl
    have h2 := Blk.setCells r (o + 1) _ _ (h.set_ o v) (by simp; omega)
    rw [World.setCells]
    rw [Array.toList_setIfInBounds, spliced_cons _ _ _ _ (by simp; omega)] at h2
    exact h2
theorem grown_setCells (w : World) (g o : Nat) (vs : List Value) : w.grownBy (w.setCells g o vs) (some g) := by
  induction vs generalizing o w with
  | nil => exact ⟨rfl, rfl, rfl, Nat.le_refl _, fun _ _ _ => rfl⟩
  | cons v r ih =>
    have h1 : w.grownBy (w.setCell ⟨g, o, none⟩ v) (some g) := ⟨rfl, rfl, rfl, by simp [World.setCell], fun q hq hne => Below.heap_setCell _ _ _ _ (fun e => hne (by rw [e]))⟩
    have h2 := ih (w.setCell ⟨g, o, none⟩ v) (o + 1)
    exact ⟨h2.os.trans h1.os, h2.tape.trans h1.tape, h2.output.trans h1.output, Nat.le_trans h1.size h2.size, fun k hk hn => (h2.block k (Nat.lt_of_lt_of_le hk h1.size) hn).trans (h1.block k hk hn)⟩

/-- A row of the call's own that may begin anywhere in its block. -/
def SRow (w : World) (σ : Nat → Nat) (t : Nat) (e : TypeId) (sz : Nat) (v : Value) (n : Nat) (xs : List Value) : Prop :=
  xs.length = n * sz ∧ ((v = .slice none 0 0 ∧ n = 0) ∨ ∃ b off cap cur, v = .slice (some ⟨b, off, none⟩) n cap ∧ Blk w b e cur ∧ σ b = t ∧ n ≤ cap ∧ cap ≤ maxLen ∧ off + cap * sz ≤ cur.size ∧ (cur.toList.drop off).take (n * sz) = xs)

section
variable {S : Nat → Prop} {σ σ' : Nat → Nat} {w w' : World} {t n sz m : Nat} {e : TypeId} {v : Value} {xs : List Value}
theorem SRow.nil (w : World) (σ : Nat → Nat) (t : Nat) (e : TypeId) (sz : Nat) : SRow w σ t e sz (.slice none 0 0) 0 [] := ⟨by simp, .inl ⟨rfl, rfl⟩⟩
theorem SRow.of_own {B : Nat} (h : w.ownsRow B e sz v n xs) (ht : ∀ b, v.ownBlock = some b → σ b = t) : SRow w σ t e sz v n xs := by
  refine ⟨h.1, ?_⟩
  rcases h.2 with ⟨h1, h2⟩ | ⟨g, cap, cur, rfl, _, hg, hn, hc, hs, hx⟩
  · exact .inl ⟨h1, h2⟩
  · exact .inr ⟨g, 0, cap, cur, rfl, hg, ht g rfl, hn, hc, by omega, by simpa using hx⟩
theorem SRow.chg (h : SRow w σ t e sz v n xs) (c : Chg S σ w σ' w') (ht : ¬ S t) : SRow w' σ' t e sz v n xs := by
  refine ⟨h.1, ?_⟩
  rcases h.2 with h2 | ⟨b, off, cap, cur, hv, hb, hs, r⟩
  · exact .inl h2
  · have hlt := hb.lt
    exact .inr ⟨b, off, cap, cur, hv, (c.block b hlt (by rw [hs]; exact ht)).trans hb, (c.marks b hlt).trans hs, r⟩
theorem SRow.below (h : SRow w σ t e sz v n xs) (hb : Below w.heap.size w w') : SRow w' σ t e sz v n xs := h.chg (Chg.of_below (fun _ => False) σ hb) (fun h => h)
theorem SRow.upd (h : SRow w σ t e sz v n xs) (hn : w.heap.size ≤ m) (t' : Nat) : SRow w (upd σ m t') t e sz v n xs := h.chg ((Chg.refl (fun _ => False) σ w).upd hn t') (fun h => h)
theorem SRow.slice (h : SRow w σ t e sz v n xs) : ∃ A c, v = .slice A n c ∧ n ≤ c := by
  rcases h.2 with ⟨rfl, rfl⟩ | ⟨b, off, cap, cur, rfl, _, _, hn, _⟩
  · exact ⟨none, 0, rfl, Nat.le_refl _⟩
  · exact ⟨_, cap, rfl, hn⟩
theorem SRow.form (h : SRow w σ t e sz v n xs) (hn : 0 < n) : ∃ b off cap, v = .slice (some ⟨b, off, none⟩) n cap ∧ n ≤ cap ∧ cap ≤ maxLen ∧ σ b = t ∧ b < w.heap.size ∧ (∀ j u, xs[j]? = some u → w.cell? ⟨b, off + j, none⟩ = some u) ∧ (∀ j, w.frozen? ⟨b, j, none⟩ = false) := by
  rcases h.2 with ⟨_, h0⟩ | ⟨b, off, cap, cur, rfl, hb, hs, hc, hm, hsz, hx⟩
  · omega
  · refine ⟨b, off, cap, rfl, hc, hm, hs, hb.lt, fun j u hj => ?_, fun j => hb.frozen j⟩
    rw [hb.cell]
    rw [← hx, List.getElem?_take] at hj
    split at hj
    · rw [List.getElem?_drop] at hj
      simpa using hj
    · cases hj
theorem SRow.block {b off cap : Nat} (h : SRow w σ t e sz (.slice (some ⟨b, off, none⟩) n cap) n xs) : ∃ cur, Blk w b e cur ∧ σ b = t ∧ n ≤ cap ∧ cap ≤ maxLen ∧ off + cap * sz ≤ cur.size ∧ (cur.toList.drop off).take (n * sz) = xs := by
  rcases h.2 with ⟨h0, _⟩ | ⟨b', off', cap', cur, hv, r⟩
  · cases h0
  · cases hv
    exact ⟨cur, r⟩

theorem mul_le_of {n m cap sz : Nat} (h : n + m ≤ cap) : n * sz + m * sz ≤ cap * sz := by rw [← Nat.add_mul]; exact Nat.mul_le_mul_right _ h

/-- An append onto such a row. -/
theorem run_append_srow {P : Program} (tt ty : TypeId) (i : TypeInfo) (z : Value) (size bytes : Nat) (ht : P.underlying tt = some (.slice e)) (hi : P.info? e = some i) (hz : i.zero = some z)
    (hsize : i.size = size) (hby : i.bytes = bytes) (hzs : z.cells.size = size) (hsz : 0 < size) (h : SRow w σ t e size v n xs)
    (ad : Addr) (c : Nat) (news : List Value) (hl : news.length = m * size) (hnews : ∀ j u, news[j]? = some u → w.cell? (ad.add j) = some u) (h1 : ∀ u ∈ news, u.oneCell' = true)
    (h63 : n + m ≤ maxLen) (hbytes : (n + m) * bytes ≤ 140737488355328) :
    ∃ v' w', (Builtin.append_ #[tt, tt] ty #[v, .slice (some ad) m c]).run P w = .ok v' w' ∧ SRow w' (K.upd σ w.heap.size t) t e size v' (n + m) (xs ++ news) ∧ Chg (fun x => x = t) σ w (K.upd σ w.heap.size t) w' := by
  have fresh : ∀ v' w', w'.ownsRow w.heap.size e size v' (n + m) (xs ++ news) → w.grownBy w' none → SRow w' (K.upd σ w.heap.size t) t e size v' (n + m) (xs ++ news) ∧ Chg (fun x => x = t) σ w (K.upd σ w.heap.size t) w' := fun v' w' ho hg =>
    ⟨SRow.of_own ho (fun b hb => upd_new (ho.lt b hb).1), ((Chg.refl _ σ w).upd (Nat.le_refl _) t).grown hg (fun g hg => by cases hg)⟩
  rcases h.2 with ⟨rfl, rfl⟩ | ⟨b, off, cap, cur, rfl, hb, hs, hnc, hcm, hfit, hx⟩
  · have hx0 : xs = [] := List.eq_nil_of_length_eq_zero (by simpa using h.1)
    subst hx0
    obtain ⟨v', w', hr, h2, h3, _⟩ := run_append_own_at (P := P) w w.heap.size tt ty e i z size bytes ht hi hz hsize hby hzs hsz _ 0 [] (World.ownsRow_nil _ _ _ _) ad m c news hl hnews h1 h63 hbytes (Nat.le_refl _)
    exact ⟨v', w', hr, fresh v' w' h2 h3⟩
  · by_cases hroom : n + m ≤ cap
    · have hle := mul_le_of (sz := size) hroom
      have hin : ∀ j, j < news.length → (w.cell? ⟨b, off + n * i.size + j, none⟩).isSome = true := fun j hj => by
        rw [hb.cell, hsize, Array.getElem?_eq_getElem (by omega)]
        rfl
      have hr := run_append_room_cells (P := P) w tt ty e i ht hi b off n cap ad m c news (by rw [hsize]; exact hl) hnews h1 hroom hin (fun j _ => hb.frozen _)
      rw [hsize] at hr
      have hb2 := Blk.setCells news (off + n * size) w cur hb (by omega)
      have hg := grown_setCells w b (off + n * size) news
      refine ⟨_, _, hr, ⟨?_, .inr ⟨b, off, cap, _, rfl, hb2, (upd_old hb.lt).trans hs, hroom, hcm, ?_, ?_⟩⟩, ((Chg.refl _ σ w).upd (Nat.le_refl _) t).grown hg (fun g hg => ?_)⟩
      · rw [List.length_append, h.1, hl, Nat.add_mul]
      · rw [List.size_toArray, spliced_length _ _ _ (by simp; omega)]
        simpa using hfit
      · simp only [spliced]
        have hl1 : (cur.toList.take (off + n * size)).length = off + n * size := by rw [List.length_take]; simp; omega
        have hx1 : (cur.toList.take (off + n * size)).drop off = xs := by
          rw [List.drop_take, show off + n * size - off = n * size by omega]
          exact hx
        rw [List.append_assoc, List.drop_append_of_le_length (by rw [hl1]; omega), hx1, ← List.append_assoc]
        rw [List.take_append_of_le_length (by rw [List.length_append, h.1, hl, Nat.add_mul]; exact Nat.le_refl _)]
        rw [List.take_of_length_le (by rw [List.length_append, h.1, hl, Nat.add_mul]; exact Nat.le_refl _)]
      · cases hg
        left
        show K.upd σ w.heap.size t b = t
        rw [upd_old hb.lt]
        exact hs
    · have holds : ∀ j u, xs[j]? = some u → w.cell? ((⟨b, off, none⟩ : Addr).add j) = some u := fun j u hj => by
        have hadd : (⟨b, off, none⟩ : Addr).add j = ⟨b, off + j, none⟩ := by unfold Addr.add; split <;> simp_all
        rw [hadd, hb.cell]
        rw [← hx, List.getElem?_take] at hj
        split at hj
        · rw [List.getElem?_drop] at hj
          simpa using hj
        · cases hj
      obtain ⟨v', w', hr, h2, h3⟩ := run_append_arg_grows (P := P) w tt ty e i z size bytes ht hi hz hsize hby hzs hsz ⟨b, off, none⟩ n cap xs h.1 holds ad m c news hl hnews (by omega) h63 hbytes
      exact ⟨v', w', hr, fresh v' w' h2 h3⟩

/-- Behind the first element's being written over, cut off. -/
theorem SRow.tail {b off cap : Nat} (h : SRow w σ t e sz (.slice (some ⟨b, off, none⟩) (n + 1) cap) (n + 1) xs) (zs : List Value) (hz : zs.length = sz) :
    SRow (w.setCells b off zs) σ t e sz (.slice (some ⟨b, if cap = 1 then off else off + sz, none⟩) n (cap - 1)) n (xs.drop sz) ∧ Chg (fun x => x = t) σ w σ (w.setCells b off zs) := by
  obtain ⟨cur, hb, hs, hnc, hcm, hfit, hx⟩ := h.block
  have hcs : sz ≤ cap * sz := Nat.le_mul_of_pos_left _ (by omega)
  have hb2 := Blk.setCells zs off w cur hb (by omega)
  have hg := grown_setCells w b off zs
  refine ⟨⟨?_, .inr ⟨b, _, cap - 1, _, rfl, hb2, hs, by omega, by omega, ?_, ?_⟩⟩, (Chg.refl _ σ w).grown hg (fun g hg => by cases hg; exact .inl hs)⟩
  · rw [List.length_drop, h.1, Nat.add_mul]; omega
  · rw [List.size_toArray, spliced_length _ _ _ (by simp; omega), Array.length_toList]
    by_cases h1 : cap = 1
    · subst h1; simp; omega
    · rw [if_neg h1, Nat.sub_mul]; omega
  · by_cases h1 : cap = 1
    · subst h1
      obtain rfl : n = 0 := by omega
      have : xs.drop sz = [] := List.drop_eq_nil_of_le (by rw [h.1]; omega)
      rw [this]
      simp
    · rw [if_neg h1]
      have e : (spliced cur.toList off zs).drop (off + sz) = cur.toList.drop (off + sz) := by
        have hl : (cur.toList.take off ++ zs).length = off + sz := by rw [List.length_append, List.length_take, hz]; simp; omega
        unfold spliced
        rw [hz, ← hl, List.drop_left]
      show List.take (n * sz) ((spliced cur.toList off zs).drop (off + sz)) = _
      rw [e, ← hx, List.drop_take, List.drop_drop]
      rw [show (n + 1) * sz - sz = n * sz by rw [Nat.add_mul]; omega]
end

/-- copy of elements of several cells. -/
theorem run_copy_sz {P : Program} (w : World) (dT sT ty elem : TypeId) (sz : Nat) (b o dLen dCap : Nat) (a : Addr) (sLen sCap : Nat) (cs : List Value)
    (hu : P.underlying dT = some (.slice elem)) (hs : (P.info? elem).map (·.size) = some sz) (k : Nat) (hk : Nat.min sLen dLen = k) (hn : cs.length = k * sz)
    (hsrc : ∀ j v, cs[j]? = some v → w.cell? (a.add j) = some v) (hc : ∀ j, j < cs.length → (w.cell? ⟨b, o + j, none⟩).isSome = true) (hf : ∀ j, j < cs.length → w.frozen? ⟨b, o + j, none⟩ = false) (h1 : ∀ v ∈ cs, v.oneCell' = true) :
    (Builtin.copy_ #[dT, sT] ty #[.slice (some ⟨b, o, none⟩) dLen dCap, .slice (some a) sLen sCap]).run P w = .ok (goInt k) (w.setCells b o cs) := by
  have hl := run_loadCells_list (P := P) w a cs hsrc
  have hst := run_storeCells_cells (P := P) b o cs 0 w (by simpa using hc) (by simpa using hf) h1
  rw [hn] at hl
  cases hq : P.info? elem with
  | none => simp [hq] at hs
  | some i =>
    have hi : i.size = sz := by simpa [hq] using hs
    simp [Builtin.copy_, run_underlying hu, Builtin.lenOf, Builtin.firstCells, sizeOf, typeInfo, hq, hi, hk, hl, hst]
end Go.Proofs.Ytgcnappgecdldaa.K
