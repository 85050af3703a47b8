/-
  The laws' lend and kept: views in a row of the call's own, with a mark behind them.
-/
import Derived.Test.YtdnamidhbloaoaaClone
import Derived.Test.YtdnamidhbloaoaaOpen
set_option linter.unusedVariables false
namespace Go.Proofs.Ytdnamidhbloaoaa.K
open Go.RowKit Go.ChangeShapes Go.WideShapes Go.Deep
theorem nil_slice {H : Type} {enc : TypeId × Value → H} {P : Program} {W : World} {base : Nat} {spare : Nat → Bool} {held : Bool} {t e : TypeId} {A : Option Addr} {n c : Nat} {d : DataW H} {ps : List MemPlace}
    (ht : P.underlying t = some (.slice e)) (h : DataW.Trod enc P W base spare held t (.slice A n c) d ps) : A = none → n = 0 ∧ c = 0 := by
  obtain ⟨fuel, hf⟩ := h
  intro hA
  rcases open_slice ht hf with ⟨hcs, _⟩ | ⟨a, len, cap, m, k, D, Pl, hcs, _⟩
  · simp [Value.cells] at hcs
    exact ⟨hcs.2.1, hcs.2.2⟩
  · subst hA
    simp [Value.cells] at hcs
end Go.Proofs.Ytdnamidhbloaoaa.K
namespace Go.Proofs.Ytdnamidhbloaoaa.Mark
open Go.RowKit Go.Proofs.Ytdnamidhbloaoaa.K

theorem info58 : (Try.prog.info? 58).map (fun i => (i.zero, i.size, i.bytes)) = some (some (.agg #[(.int .i64 0), (.int .i64 0), (.int .i64 0)]), 3, 24) := by kernel_rfl

/-- The cells of views; behind them the mark. -/
def viewVs (f : Nat → Nat → Int) : Nat → List Value
  | 0 => []
  | n + 1 => viewVs f n ++ [.int .i64 (f n 0), .int .i64 (f n 1), .int .i64 (f n 2)]
theorem viewVs_length (f : Nat → Nat → Int) (n : Nat) : (viewVs f n).length = n * 3 := by
  induction n with
  | zero => rfl
  | succ n ih => simp [viewVs, ih]; omega
theorem viewVs_one (f : Nat → Nat → Int) (n : Nat) : ∀ u ∈ viewVs f n, u.oneCell' = true := by
  induction n with
  | zero => simp [viewVs]
  | succ n ih =>
    intro u hu
    simp only [viewVs, List.mem_append] at hu
    rcases hu with hu | hu
    · exact ih u hu
    · simp at hu
      rcases hu with rfl | rfl | rfl <;> rfl
theorem viewVs_at (f : Nat → Nat → Int) (n i : Nat) (h : i < n) (tl : List Value) :
    (viewVs f n ++ tl)[i * 3]? = some (.int .i64 (f i 0)) ∧ (viewVs f n ++ tl)[i * 3 + 1]? = some (.int .i64 (f i 1)) ∧ (viewVs f n ++ tl)[i * 3 + 2]? = some (.int .i64 (f i 2)) := by
  induction n generalizing tl with
  | zero => omega
  | succ n ih =>
    simp only [viewVs, List.append_assoc]
    by_cases h1 : i < n
    · exact ih h1 _
    · obtain rfl : i = n := by omega
      have hl := viewVs_length f i
      refine ⟨?_, ?_, ?_⟩
      · rw [List.getElem?_append_right (by omega), hl]; simp
      · rw [List.getElem?_append_right (by omega), hl, show i * 3 + 1 - i * 3 = 1 by omega]; simp
      · rw [List.getElem?_append_right (by omega), hl, show i * 3 + 2 - i * 3 = 2 by omega]; simp

theorem viewVs_cells {w : World} {A : Option Addr} {nv : Nat} {f : Nat → Nat → Int} (h : Views w A nv f) (ad : Addr) (hA : A = some ad) : ∀ j u, (viewVs f nv)[j]? = some u → w.cell? (ad.add j) = some u := by
  intro j u hu
  have hj : j < nv * 3 := by
    have := (List.getElem?_eq_some_iff.1 hu).1
    rw [viewVs_length] at this; exact this
  obtain ⟨b, off, e, hlt, hc⟩ := h.at_ (by omega)
  rw [hA] at e
  obtain rfl := Option.some.inj e
  rw [add_plain]
  obtain ⟨q, r, rfl, hr⟩ : ∃ q r, j = q * 3 + r ∧ r < 3 := ⟨j / 3, j % 3, by omega, by omega⟩
  obtain ⟨h0, h1, h2⟩ := hc q (by omega)
  obtain ⟨v0, v1, v2⟩ := viewVs_at f nv q (by omega) []
  rw [List.append_nil] at v0 v1 v2
  match r, hr with
  | 0, _ =>
    rw [Nat.add_zero] at hu ⊢
    rw [v0] at hu
    obtain rfl := Option.some.inj hu
    exact h0
  | 1, _ =>
    rw [v1] at hu
    obtain rfl := Option.some.inj hu
    exact h1
  | 2, _ =>
    rw [v2] at hu
    obtain rfl := Option.some.inj hu
    exact h2

/-- The row that was lent. -/
def lent (f : Nat → Nat → Int) (nv : Nat) : List Value := viewVs f nv ++ [.int .i64 (-77), .int .i64 0, .int .i64 0]

set_option maxHeartbeats 800000 in
theorem lend_any (w : World) (A : Option Addr) (nv cv : Nat) (f : Nat → Nat → Int) (hV : Views w A nv f) (hnil : A = none → nv = 0 ∧ cv = 0) (hn : nv ≤ 1000000) :
    Calls Try.prog 22 #[.slice A nv cv] w fun e w' => ∃ g, e = .returned (.slice (some ⟨g, 0, none⟩) nv (nv + 3)) ∧
      w'.ownsRow w.heap.size 58 3 (.slice (some ⟨g, 0, none⟩) (nv + 1) (nv + 3)) (nv + 1) (lent f nv) ∧ Below w.heap.size w w' := by
  obtain ⟨i0, hi, hz0, hz1, hz2⟩ := info_parts info58
  have hmk := fun W => run_make_rowN (P := Try.prog) 45 58 i0 _ Try.underlying45 hi hz0 .i64 .i64 0 (nv + 3) (by omega) (by rw [hz2]; omega) (by omega) W
  rw [show (((nv + 3 : Nat)) : Int) = (nv : Int) + 3 by omega, show ((0 : Nat) : Int) = 0 from rfl, hz1] at hmk
  have hmade : (madeCells (Value.agg #[(.int .i64 0), (.int .i64 0), (.int .i64 0)]).cells ((nv + 3) * 3)).size = (nv + 3) * 3 := by rw [size_madeCells]
  generalize madeCells (Value.agg #[(.int .i64 0), (.int .i64 0), (.int .i64 0)]).cells ((nv + 3) * 3) = mc at hmk hmade
  go_enter Try.func22, Try.ntmps22
  go_wp2_with (at_builtin; refine wpList_append_fits_any _ rfl _ _ 45 rfl w.heap.size 58 i0 3 Try.underlying45 hi hz1 w.heap.size 0 (nv + 3) [] (by rfl) ?c0 A nv cv (viewVs f nv) (by rfl) ?c1 hnil ?c3 ?c4 ?c5 ?_)
  case c0 => exact World.ownsRow_made w mc (nv + 3) (Nat.le_refl _) (by unfold maxLen; omega) hmade
  case c1 => exact viewVs_length f nv
  case c3 =>
    intro ad hA j u hu
    have := viewVs_cells hV ad hA j u hu
    exact (World.cell?_alloc_old _ _ _ (Nat.ne_of_lt (World.block_lt_of_cell? w _ this))).trans this
  case c4 => exact viewVs_one f nv
  case c5 => omega
  intro w2 hown hgrow
  have hs2 : w.heap.size < w2.heap.size := by have := hgrow.size; simp at this; omega
  go_wp2_with (at_builtin; refine wpList_append_fits_any _ rfl _ _ 45 rfl w.heap.size 58 i0 3 Try.underlying45 hi hz1 w.heap.size nv (nv + 3) (viewVs f nv) (by rfl) ?c0 (some ⟨w2.heap.size, 0, none⟩) 1 1 [.int .i64 (-77), .int .i64 0, .int .i64 0] (by rfl) rfl (by simp) ?c3 ?c4 ?c5 ?_)
  case c0 => exact own_below hown ((Below.refl _ _).alloc (Nat.le_refl _) _)
  case c3 =>
    intro ad hA j u hu
    obtain rfl := Option.some.inj hA
    rw [add_plain, Nat.zero_add, World.cell?_alloc_new]
    simpa using hu
  case c4 =>
    intro u hu
    simp at hu
    rcases hu with rfl | rfl <;> rfl
  case c5 => omega
  intro w3 hown3 hgrow3
  have hbel : Below w.heap.size w w3 := by
    have b1 : Below w.heap.size w w2 := ((Below.refl w.heap.size w).alloc (Nat.le_refl _) _).grown hgrow (by simp) (fun k e => by simp at e; omega)
    exact (b1.alloc b1.size _).grown hgrow3 (by simp; omega) (fun k e => by simp at e; omega)
  go_wp2
  go_ret
  exact ⟨_, rfl, hown3, hbel⟩

theorem kept_any (w : World) (B g : Nat) (A : Option Addr) (nv cv : Nat) (f : Nat → Nat → Int) (hV : Views w A nv f) (hn : nv ≤ 1000000)
    (hown : w.ownsRow B 58 3 (.slice (some ⟨g, 0, none⟩) (nv + 1) (nv + 3)) (nv + 1) (lent f nv)) :
    Calls Try.prog 26 #[.slice (some ⟨g, 0, none⟩) nv (nv + 3), .slice A nv cv] w fun e w' => e = .returned (.bool true) ∧ Below w.heap.size w w' := by
  have hcs := hown.cells (g := g) rfl
  have hm : w.cell? ⟨g, nv * 3, none⟩ = some (.int .i64 (-77)) := by
    have := hcs (nv * 3) (.int .i64 (-77)) (by unfold lent; rw [List.getElem?_append_right (by rw [viewVs_length]; omega), viewVs_length, Nat.sub_self]; rfl)
    rw [add_plain, Nat.zero_add] at this
    exact this
  have hc : ∀ i, i < nv → w.cell? ⟨g, i * 3, none⟩ = some (.int .i64 (f i 0)) ∧ w.cell? ⟨g, i * 3 + 1, none⟩ = some (.int .i64 (f i 1)) ∧ w.cell? ⟨g, i * 3 + 2, none⟩ = some (.int .i64 (f i 2)) := by
    intro i hi
    obtain ⟨v0, v1, v2⟩ := viewVs_at f nv i hi [.int .i64 (-77), .int .i64 0, .int .i64 0]
    have a0 := hcs _ _ v0
    have a1 := hcs _ _ v1
    have a2 := hcs _ _ v2
    rw [add_plain, Nat.zero_add] at a0 a1 a2
    exact ⟨a0, a1, a2⟩
  have HC := Lib.hid hc
  clear hc hcs hown
  have l0 : (0 : Int) ≤ (nv : Int) + 1 := by omega
  have l1 : (nv : Int) + 1 ≤ ((nv + 3 : Nat) : Int) := by omega
  have l2 : (nv : Int) < (nv : Int) + 1 := by omega
  have l3 : ((nv : Int) + 1).toNat = nv + 1 := by omega
  go_enter Try.func26, Try.ntmps26
  go_wp2_with fail
  go_loopw [5, 6] (fun o i wr => ∃ k : Nat, k ≤ nv ∧ o = .bool true ∧ i = .int .i64 k ∧ Below w.heap.size w wr) (fun _ i _ => nv - (intOf i).toNat)
  case atStart => exact ⟨0, Nat.zero_le _, rfl, rfl, Below.refl _ _⟩
  case round =>
    obtain ⟨k, hk, rfl, rfl, hbel⟩ := hrel
    by_cases hkn : k < nv
    · obtain ⟨bv, ov, rfl, hbv, hcv⟩ := hV.at_ (by omega)
      obtain ⟨e0, e1, e2⟩ := hcv k hkn
      clear hcv
      obtain ⟨g0, g1, g2⟩ := HC.out k hkn
      have hgl := World.block_lt_of_cell? w _ hm
      have d0 := (hbel.cell (p := ⟨bv, ov + k * 3, none⟩) hbv).trans e0
      have d1 := (hbel.cell (p := ⟨bv, ov + k * 3 + 1, none⟩) hbv).trans e1
      have d2 := (hbel.cell (p := ⟨bv, ov + k * 3 + 2, none⟩) hbv).trans e2
      have c0 := (hbel.cell (p := ⟨g, k * 3, none⟩) hgl).trans g0
      have c1 := (hbel.cell (p := ⟨g, k * 3 + 1, none⟩) hgl).trans g1
      have c2 := (hbel.cell (p := ⟨g, k * 3 + 2, none⟩) hgl).trans g2
      clear e0 e1 e2 g0 g1 g2
      have i0 : (0 : Int) ≤ (k : Int) := by omega
      have i1 : (k : Int) < (nv : Int) := by omega
      go_wp2_with fail
      go_quiet (fail)
      go_wp2
      go_roundw
      case rel => exact ⟨k + 1, by omega, by simp, by go_num, below_drewN hbel _⟩
      case measure => simp [intOf]; omega
    · go_wp2
      go_ret
      exact ⟨rfl, hbel⟩
end Go.Proofs.Ytdnamidhbloaoaa.Mark
