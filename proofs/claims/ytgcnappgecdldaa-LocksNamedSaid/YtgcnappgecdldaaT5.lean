/-
  Locks: a law's own list of asks; without.
-/
import Derived.Test.YtgcnappgecdldaaT4
set_option linter.unusedVariables false
set_option linter.unusedSimpArgs false
namespace Go.Proofs.Ytgcnappgecdldaa.C
open Go.RowKit Go.Proofs.Ytgcnappgecdldaa.K Go.Maps

/-- An ask of the law's list: whose, the slice of its set, its set, whether it is granted. -/
structure Ak where
  task : Int
  v : Value
  n : Nat
  L : List (Int × Bool)
  yes : Bool
def avs (l : List Ak) : List Value := l.flatMap fun c => [.int .i64 c.task, c.v, .bool c.yes]
theorem avs_length (l : List Ak) : (avs l).length = l.length * 3 := by
  induction l with
  | nil => rfl
  | cons c r ih =>
    show (([.int .i64 c.task, c.v, .bool c.yes] : List Value) ++ avs r).length = _
    rw [List.length_append, ih]
    show 3 + r.length * 3 = (r.length + 1) * 3
    omega
theorem avs_append (l r : List Ak) : avs (l ++ r) = avs l ++ avs r := List.flatMap_append
theorem avs_cons (c : Ak) (r : List Ak) : avs (c :: r) = .int .i64 c.task :: c.v :: .bool c.yes :: avs r := rfl
theorem avs_one (l : List Ak) (h : ∀ c ∈ l, c.v.oneCell' = true) : ∀ u ∈ avs l, u.oneCell' = true := by
  intro u hu
  unfold avs at hu
  rw [List.mem_flatMap] at hu
  obtain ⟨c, hc, hu⟩ := hu
  simp at hu
  rcases hu with rfl | rfl | rfl
  · rfl
  · exact h c hc
  · rfl
theorem avs_at (l : List Ak) : ∀ i (h : i < l.length), (avs l)[i * 3]? = some (.int .i64 l[i].task) ∧ (avs l)[i * 3 + 1]? = some l[i].v ∧ (avs l)[i * 3 + 2]? = some (.bool l[i].yes) := by
  induction l with
  | nil => intro i h; simp at h
  | cons c l ih =>
    intro i h
    rcases i with _ | i
    · rw [avs_cons]; exact ⟨rfl, rfl, rfl⟩
    · have hl : i < l.length := by simpa using h
      obtain ⟨h0, h1, h2⟩ := ih i hl
      rw [avs_cons, show (i + 1) * 3 = i * 3 + 1 + 1 + 1 by omega, show i * 3 + 1 + 1 + 1 + 1 = (i * 3 + 1) + 1 + 1 + 1 by omega, show i * 3 + 1 + 1 + 1 + 2 = (i * 3 + 2) + 1 + 1 + 1 by omega]
      simp only [List.getElem?_cons_succ, List.getElem_cons_succ]
      exact ⟨h0, h1, h2⟩
theorem avs_take (l : List Ak) : ∀ i, (avs l).take (i * 3) = avs (l.take i) := by
  induction l with
  | nil => intro i; simp [avs]
  | cons c r ih =>
    intro i
    rcases i with _ | i
    · simp [avs]
    · rw [avs_cons, show (i + 1) * 3 = i * 3 + 1 + 1 + 1 by omega, List.take_succ_cons, List.take_succ_cons, List.take_succ_cons, ih]
      rfl
theorem avs_drop (l : List Ak) : ∀ i, (avs l).drop (i * 3) = avs (l.drop i) := by
  induction l with
  | nil => intro i; simp [avs]
  | cons c r ih =>
    intro i
    rcases i with _ | i
    · rfl
    · rw [avs_cons, show (i + 1) * 3 = i * 3 + 1 + 1 + 1 by omega, List.drop_succ_cons, List.drop_succ_cons, List.drop_succ_cons, ih]
      rfl
theorem info35 : (Try.prog.info? 35).map (fun i => (i.zero, i.size, i.bytes)) = some (some (.agg #[.int .i64 0, .slice none 0 0, .bool false]), 3, 40) := by kernel_rfl

set_option maxRecDepth 100000 in
set_option maxHeartbeats 1600000 in
theorem without_c (w : World) (B g n cap : Nat) (l : List Ak) (hl : l.length = n) (hn : n ≤ 100000) (ho : w.ownsRow B 35 3 (.slice (some ⟨g, 0, none⟩) n cap) n (avs l)) (h1 : ∀ c ∈ l, c.v.oneCell' = true) (i : Nat) (hi : i < n) :
    Calls Try.prog 19 #[.slice (some ⟨g, 0, none⟩) n cap, .int .i64 i] w fun e w' => ∃ v, e = .returned v ∧ w'.ownsRow w.heap.size 35 3 v (n - 1) (avs (l.eraseIdx i)) ∧ Below w.heap.size w w' := by
  have hcap : n ≤ cap := by
    rcases ho.2 with ⟨h', _⟩ | ⟨g', cap', cur, h', _, _, hnc, _⟩
    · cases h'
    · cases h'; exact hnc
  obtain ⟨E, hE⟩ : ∃ E, avs (l.eraseIdx i) = E := ⟨_, rfl⟩
  obtain ⟨m, hm⟩ : ∃ m, n - 1 = m := ⟨_, rfl⟩
  rw [hE, hm]
  have HE : Hid (E = avs (l.take i) ++ avs (l.drop (i + 1)) ∧ m = n - 1) := Lib.hid ⟨by rw [← avs_append, ← hE, List.eraseIdx_eq_take_drop_succ], hm.symm⟩
  clear hE hm
  obtain ⟨i0, hi0, hz0, hz1, hz2⟩ := info_parts info35
  have hR := Reads.of_row ho
  have hR1 := hR.take (i * 3)
  have hR2 := hR.drop ((i + 1) * 3)
  rw [avs_take] at hR1
  rw [avs_drop] at hR2
  rw [show (some (⟨g, 0, none⟩ : Addr)).map (·.add ((i + 1) * 3)) = some ⟨g, (i + 1) * 3, none⟩ by simp [add_plain]] at hR2
  have HR := Lib.hid (And.intro hR1 hR2)
  have hg : g < w.heap.size := (ho.lt g rfl).2
  have HI := Lib.hid (And.intro hl h1)
  have z1 : (i : Int) < (n : Int) := by omega
  have z2 : (n : Int) ≤ (cap : Int) := by omega
  have z5 : ((i : Int) + 1).toNat = i + 1 := by omega
  have z6 : (0 : Int) ≤ (i : Int) := by omega
  have z7 : i ≤ 100000 := by omega
  have z8 : (i : Int) ≤ (n : Int) := by omega
  have z9 : (i : Int) ≤ (cap : Int) := by omega
  have y2 : (0 : Int) ≤ (i : Int) + 1 := by omega
  have y3 : (i : Int) + 1 ≤ (n : Int) := by omega
  have y4 : (i : Int) + 1 ≤ (cap : Int) := by omega
  have y5 : i ≤ cap := by omega
  clear hR hR1 hR2 hl h1 ho
  go_enter Try.func19, Try.ntmps19
  go_wp2_with (first | (at_builtin; refine wpList_append_reads (by rfl) _ _ 29 (by rfl) w.heap.size 35 i0 _ 3 40 Try.underlying29 hi0 hz0 hz1 hz2 rfl (by omega) (.slice none 0 0) 0 [] (by rfl) (World.ownsRow_nil _ _ _ _) (some ⟨g, 0, none⟩) i cap (avs (l.take i)) (by rfl) ?c1 HR.out.1 ?c3 ?c4 ?c5 (Nat.le_refl _) ?_) | fail)
  case c1 => rw [avs_length, List.length_take, HI.out.1, Nat.min_eq_left (by omega)]
  case c3 => exact avs_one _ (fun c hc => HI.out.2 c (List.mem_of_mem_take hc))
  case c4 => unfold maxLen; omega
  case c5 => omega
  intro v1 w1 ho1 hg1 hat1
  skip
  have hb1 : Below w.heap.size w w1 := (Below.refl _ _).grown hg1 (Nat.le_refl _) (fun q e => by cases e)
  obtain ⟨A1, k1, rfl⟩ := own_slice ho1
  have H1 := Lib.hid (And.intro ho1 (And.intro hb1 (HR.out.2.below hb1)))
  clear ho1 hg1 hat1 hb1 HR
  rcases Decidable.em (cap = i + 1) with e | e
  · obtain rfl : n = i + 1 := by omega
    subst e
    have hnil : List.drop (i + 1) l = [] := List.drop_eq_nil_of_le (by rw [HI.out.1]; exact Nat.le_refl _)
    go_wp2_with (first | (at_builtin; refine wpList_append_reads (by rfl) _ _ 29 (by rfl) w.heap.size 35 i0 _ 3 40 Try.underlying29 hi0 hz0 hz1 hz2 rfl (by omega) (.slice A1 i k1) i (avs (l.take i)) (by rfl) H1.out.1 (some ⟨g, 0, none⟩) 0 0 [] (by rfl) rfl (Reads.nil _ _) (by intro u hu; simp at hu) ?c4 ?c5 H1.out.2.1.size ?_) | fail)
    case c4 => unfold maxLen; omega
    case c5 => omega
    intro v2 w2 ho2 hg2 hat2
    have hb2 : Below w.heap.size w w2 := H1.out.2.1.grown hg2 H1.out.2.1.size (fun q e => (H1.out.1.lt q e).1)
    have H2 := Lib.hid (And.intro (show w2.ownsRow w.heap.size 35 3 v2 m E from by
      have h2 : w2.ownsRow w.heap.size 35 3 v2 i (avs (l.take i)) := by simpa using ho2
      rw [HE.out.1, HE.out.2, hnil, show avs [] = [] from rfl, List.append_nil]; exact h2) hb2)
    clear ho2 hg2 hat2 hb2 hnil
    go_wp2_with fail
    go_ret
    exact ⟨_, rfl, H2.out⟩
  · have y6 : ¬ i + 1 = cap := fun h => e h.symm
    go_wp2_with (first | (at_builtin; refine wpList_append_reads (by rfl) _ _ 29 (by rfl) w.heap.size 35 i0 _ 3 40 Try.underlying29 hi0 hz0 hz1 hz2 rfl (by omega) (.slice A1 i k1) i (avs (l.take i)) (by rfl) H1.out.1 (some ⟨g, (i + 1) * 3, none⟩) (n - (i + 1)) (cap - (i + 1)) (avs (l.drop (i + 1))) (by rfl) ?c1 H1.out.2.2 ?c3 ?c4 ?c5 H1.out.2.1.size ?_) | fail)
    case c1 => rw [avs_length, List.length_drop, HI.out.1]
    case c3 => exact avs_one _ (fun c hc => HI.out.2 c (List.mem_of_mem_drop hc))
    case c4 => unfold maxLen; omega
    case c5 => omega
    intro v2 w2 ho2 hg2 hat2
    have hb2 : Below w.heap.size w w2 := H1.out.2.1.grown hg2 H1.out.2.1.size (fun q e => (H1.out.1.lt q e).1)
    rw [show i + (n - (i + 1)) = m by have := HE.out.2; omega, ← HE.out.1] at ho2
    have H2 := Lib.hid (And.intro ho2 hb2)
    clear ho2 hg2 hat2 hb2
    go_wp2_with fail
    go_ret
    exact ⟨_, rfl, H2.out⟩
end Go.Proofs.Ytgcnappgecdldaa.C
