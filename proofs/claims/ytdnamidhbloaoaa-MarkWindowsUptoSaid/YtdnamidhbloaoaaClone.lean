/-
  slices.Clone of cells: a new row with the same cells.
-/
import Derived.Test.YtdnamidhbloaoaaMOpen
import Derived.WalkSpells
import Derived.Lib.LazyBuf
set_option linter.unusedVariables false
namespace Go.Proofs.Ytdnamidhbloaoaa.Mark
open Go.RowKit Go.Proofs.Ytdnamidhbloaoaa.K Go.Proofs.Ytdnamidhbloaoaa.Math2

theorem info63 : (Try.prog.info? 63).map (fun i => (i.zero, i.size, i.bytes)) = some (some (.agg #[(.int .i64 0), (.string ⟨#[]⟩), (.int .i64 0)]), 3, 32) := by kernel_rfl

theorem cellVs_one (l : List (Nat × Int)) : ∀ u ∈ cellVs l, u.oneCell' = true := by
  intro u hu
  simp only [cellVs, List.mem_flatMap] at hu
  obtain ⟨c, _, hc⟩ := hu
  simp [cellV] at hc
  rcases hc with rfl | rfl | rfl <;> rfl

theorem clone_any (w : World) (b : Nat) (l : List (Nat × Int)) (n : Nat) (hn : l.length = n) (h1000 : n ≤ 1000) (hc : ∀ j u, (cellVs l)[j]? = some u → w.cell? ⟨b, j, none⟩ = some u) (hb : b < w.heap.size) :
    Calls Try.prog 38 #[.slice (some ⟨b, 0, none⟩) n n] w fun e w' => ∃ v, e = .returned v ∧ w'.ownsRow w.heap.size 63 3 v n (cellVs l) ∧ Below w.heap.size w w' := by
  obtain ⟨i0, hi, hz0, hz1, hz2⟩ := info_parts info63
  have hne := fun W => Lib.run_eql_slice_nil (P := Try.prog) W 47 63 (some ⟨b, 0, none⟩) n n 0 0 Try.underlying47
  go_enter Try.func38, Try.ntmps38
  go_wp2_with (at_builtin; refine wpList_append_own_at _ rfl _ _ _ rfl w.heap.size 63 i0 _ 3 32 Try.underlying47 hi hz0 hz1 hz2 rfl (by omega) (.slice (some ⟨w.heap.size, 0, none⟩) 0 0) 0 [] (by rfl) ?c0 ⟨b, 0, none⟩ n n (cellVs l) (by rfl) ?c1 ?c2 ?c3 ?c4 ?c5 ?c6 ?_)
  case c0 => exact World.ownsRow_made w #[] 0 (Nat.le_refl _) (by omega) rfl
  case c1 => rw [cellVs_length, hn]; omega
  case c2 =>
    intro j u hu
    rw [add_plain, Nat.zero_add, World.cell?_alloc_past _ _ _ hb]
    exact hc j u hu
  case c3 => exact cellVs_one l
  case c4 => unfold maxLen; omega
  case c5 => omega
  case c6 => simp
  intro v w1 hown hgrow _ hat
  go_wp2
  go_ret
  refine ⟨v, rfl, by simpa using hown, ((Below.refl _ _).alloc (Nat.le_refl _) _).grown hgrow (by simp) (fun k e => by simp [Value.ownBlock] at e; omega)⟩
end Go.Proofs.Ytdnamidhbloaoaa.Mark
