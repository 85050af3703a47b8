/-
  Contracts of net's small functions: Clone, a buffer's lay and take, the counter.
-/
import Derived.Test.YtalabfbnbiagiaaProg
import Derived.Test.YtalabfbnbiagiaaTag
import Derived.Lib.MinMax
import Derived.Lib.Hide
import Derived.Lib.LazyBuf
import Derived.Outline
import Derived.Deep.RegionHeld3
import Derived.Deep.DrawnRows
import Derived.Deep.QuietTactic
import Derived.BigQuiet
import Derived.BigRegion
import Derived.WalkLawsBesides
import Derived.WalkSpells
import Derived.StillTailTactics
import Derived.KernelRfl
import Derived.Laws.LoneSync
import Derived.Laws.BytesString
set_option linter.unusedVariables false
set_option linter.unusedSimpArgs false
namespace Go.Proofs.Ytalabfbnbiagiaa.C
open Go.RowKit Go.Proofs.Ytalabfbnbiagiaa.K
attribute [local go_sem ↓] Go.wp_at_zero Go.wp_at_succ

theorem info5' : (Try.prog.info? 5).map (fun i => (i.zero, i.size, i.bytes)) = some (some (.int .u8 0), 1, 1) := by kernel_rfl
theorem info29' : (Try.prog.info? 29).map (fun i => (i.zero, i.size, i.bytes)) = some (some (.slice none 0 0), 1, 24) := by kernel_rfl

def bs (L : List Int) : List Value := nums .u8 L
theorem bs_length (L : List Int) : (bs L).length = L.length := nums_length _ _
theorem bs_one (L : List Int) : ∀ u ∈ bs L, u.oneCell' = true := by
  intro u hu
  simp only [bs, nums, List.mem_map] at hu
  obtain ⟨x, _, rfl⟩ := hu
  rfl
theorem bs_take (L : List Int) (n : Nat) : bs (L.take n) = (bs L).take n := by simp [bs, nums]
theorem bs_drop (L : List Int) (n : Nat) : bs (L.drop n) = (bs L).drop n := by simp [bs, nums]
theorem bs_append (L M : List Int) : bs (L ++ M) = bs L ++ bs M := by simp [bs, nums]

theorem info_parts {t : TypeId} {z : Value} {s b : Nat} (h : (Try.prog.info? t).map (fun i => (i.zero, i.size, i.bytes)) = some (some z, s, b)) : ∃ i, Try.prog.info? t = some i ∧ i.zero = some z ∧ i.size = s ∧ i.bytes = b := by
  obtain ⟨i, hi, he⟩ := Option.map_eq_some_iff.1 h
  simp only [Prod.mk.injEq] at he
  exact ⟨i, hi, he.1, he.2.1, he.2.2⟩

/-- slices.Clone. -/
theorem clone_c (w : World) (A : Option Addr) (n c : Nat) (L : List Int) (hL : L.length = n) (hn : n ≤ 1099511627776) (hr : Reads w A (bs L)) :
    Calls Try.prog 44 #[.slice A n c] w fun e w' => ∃ v, e = .returned v ∧ w'.ownsRow w.heap.size 5 1 v n (bs L) ∧ Below w.heap.size w w' := by
  obtain ⟨i0, hi, hz0, hz1, hz2⟩ := info_parts info5'
  rcases A with _ | a
  · have h0 : L = [] := by
      rcases L with _ | ⟨x, L⟩
      · rfl
      · obtain ⟨ad, h, _⟩ := hr 0 _ rfl
        cases h
    subst h0
    subst hL
    have hq := run_eql_slice_nil (P := Try.prog) w 29 5 none 0 c Try.underlying29
    clear hr
    go_enter Try.func44, Try.ntmps44
    go_wp2
    go_ret
    exact ⟨_, rfl, World.ownsRow_nil _ _ _ _, Below.refl _ _⟩
  · have hq := run_eql_slice_nil (P := Try.prog) w 29 5 (some a) n c Try.underlying29
    go_enter Try.func44, Try.ntmps44
    go_wp2_with (at_builtin; refine wpList_append_reads rfl _ _ 29 rfl w.heap.size 5 i0 _ 1 1 Try.underlying29 hi hz0 hz1 hz2 rfl (by omega) (.slice (some ⟨w.heap.size, 0, none⟩) 0 0) 0 [] (by rfl) ?c0 (some a) n c (bs L) (by rfl) ?c1 ?c2 (bs_one L) ?c4 ?c5 ?c6 ?_)
    case c0 => exact ⟨by simp, .inr ⟨w.heap.size, 0, #[], rfl, Nat.le_refl _, heap_alloc_new w _, Nat.le_refl _, by unfold maxLen; omega, rfl, by simp⟩⟩
    case c1 => rw [bs_length, hL]; omega
    case c2 => exact hr.below ((Below.refl _ _).alloc (Nat.le_refl _) _)
    case c4 => unfold maxLen; omega
    case c5 => omega
    case c6 => simp
    intro v' w1 hown hgrow hat
    go_wp2
    go_ret
    refine ⟨v', rfl, ?_, ?_⟩
    · simpa using hown
    · exact (((Below.refl _ _).alloc (Nat.le_refl _) _).grown hgrow (by simp) (by intro x e; simp [Value.ownBlock] at e; omega))

/-- How many bytes are laid. -/
def fit (room : Int) (m n : Nat) : Nat := if room < 0 then n else min n (room.toNat - m)
theorem fit_le (room : Int) (m n : Nat) : fit room m n ≤ n := by unfold fit; split <;> omega

set_option maxRecDepth 100000 in
/-- (*buffer).lay. -/
theorem lay_w (w : World) (B k off : Nat) (vr : Value) (R : List Int) (m : Nat) (hm : R.length = m) (room : Int) (hc0 : w.cell? ⟨k, off, none⟩ = some vr) (hf0 : w.frozen? ⟨k, off, none⟩ = false) (hc1 : w.cell? ⟨k, off + 1, none⟩ = some (.int .i64 room))
    (hown : w.ownsRow B 5 1 vr m (bs R)) (hB : B ≤ w.heap.size) (hk : vr.ownBlock ≠ some k) (A : Option Addr) (n c : Nat) (L : List Int) (hL : L.length = n) (hnc : n ≤ c) (hr : Reads w A (bs L)) (hn : n ≤ 140737488351232) (hR : m ≤ 1099511627776) (hroom : room < 0 ∨ (m : Int) ≤ room) (hrm : room ≤ 1099511627776) (j : Nat) (hj : fit room m n = j) (hmj : m + j ≤ 2199023255552) :
    Calls Try.prog 39 #[.pointer (some ⟨k, off, none⟩), .slice A n c] w fun e w' => e = .returned (.int .i64 j) ∧
      ∃ v' w1, w1.ownsRow B 5 1 v' (m + j) (bs (R ++ L.take j)) ∧ w.grownBy w1 vr.ownBlock ∧ (v'.ownBlock = vr.ownBlock ∨ v'.ownBlock = some w.heap.size) ∧ w' = w1.setCell ⟨k, off, none⟩ v' := by
  obtain ⟨i0, hi, hz0, hz1, hz2⟩ := info_parts info5'
  obtain ⟨A0, c0, rfl⟩ := own_slice hown
  have hcp : m ≤ c0 := by
    rcases hown.2 with ⟨h0, h1⟩ | ⟨g, cap, cur, h0, _, _, h1, _⟩
    · cases h0; omega
    · cases h0; exact h1
  have hjn : j ≤ n := by rw [← hj]; exact fit_le _ _ _
  have hls : (bs (L.take j)).length = j * 1 := by rw [bs_length, List.length_take]; omega
  have hrd : Reads w A (bs (L.take j)) := by rw [bs_take]; exact hr.take j
  have h63 : m + j ≤ maxLen := by unfold maxLen; omega
  have hby : (m + j) * 1 ≤ 140737488355328 := by omega
  have hj2 : (0 : Int) ≤ (j : Int) := by omega
  have hj3 : (j : Int) ≤ (c : Int) := by omega
  have H1 := Lib.hid hrd
  have H2 := Lib.hid hown
  have H3 := Lib.hid hk
  have ht : (j : Int).toNat = j := by omega
  have hlt := World.block_lt_of_cell? w _ hc0
  by_cases hneg : room < 0
  · have e0 : j = n := by rw [← hj]; simp [fit, hneg]
    subst e0
    clear hr hL hrd hown hk hj
    go_enter Try.func39, Try.ntmps39
    go_wp2_with fail
    go_region_law (refine step_append_reads (by rfl) _ _ 29 (by rfl) B 5 i0 _ 1 1 Try.underlying29 hi hz0 hz1 hz2 rfl (by omega) (.slice A0 m c0) m (bs R) (by rfl) H2.out A j c (bs (L.take j)) (by rfl) hls H1.out (bs_one _) h63 hby hB ?_; intro v' w1 hown' hgrow hat; obtain ⟨A1, c1, rfl⟩ := own_slice hown'; have hc3 := (World.cell?_of_block (a := ⟨k, off, none⟩) (hgrow.block k hlt (Ne.symm H3.out))).trans hc0; have hf3 := (World.frozen?_of_block (a := ⟨k, off, none⟩) (hgrow.block k hlt (Ne.symm H3.out))).trans hf0)
    go_wp2
    go_ret
    exact ⟨rfl, .slice A1 (m + j) c1, w1, by rw [bs_append]; exact hown', ⟨hgrow.os, hgrow.tape, hgrow.output, hgrow.size, hgrow.block⟩, hat, rfl⟩
  · have hj1 : j = min n (room.toNat - m) := by rw [← hj]; simp [fit, hneg]
    have hge : (0 : Int) ≤ room := by omega
    have hw0 : IntKind.i64.wrap (room - (m : Int)) = room - (m : Int) := by rw [IntKind.wrap_i64]; omega
    have hmin : min (n : Int) (room - (m : Int)) = (j : Int) := by omega
    clear hr hL hrd hown hk hj hj1
    go_enter Try.func39, Try.ntmps39
    go_wp2_with fail
    go_region_held3 (fun w' => w'.cell? ⟨k, off, none⟩ = some (.slice A0 m c0) ∧ w'.cell? ⟨k, off + 1, none⟩ = some (.int .i64 room)) (go_keep) (fail)
    go_wp2_with fail
    go_region_law (refine step_append_reads (by rfl) _ _ 29 (by rfl) B 5 i0 _ 1 1 Try.underlying29 hi hz0 hz1 hz2 rfl (by omega) (.slice A0 m c0) m (bs R) (by rfl) (H2.out) A j c (bs (L.take j)) (by rfl) hls H1.out (bs_one _) h63 hby hB ?_; intro v' w1 hown' hgrow hat; obtain ⟨A1, c1, rfl⟩ := own_slice hown'; have hc3 := (World.cell?_of_block (a := ⟨k, off, none⟩) (hgrow.block k hlt (Ne.symm H3.out))).trans hc0; have hf3 := (World.frozen?_of_block (a := ⟨k, off, none⟩) (hgrow.block k hlt (Ne.symm H3.out))).trans hf0)
    go_wp2
    go_ret
    exact ⟨rfl, .slice A1 (m + j) c1, w1, by rw [bs_append]; exact hown', ⟨hgrow.os, hgrow.tape, hgrow.output, hgrow.size, hgrow.block⟩, hat, rfl⟩
theorem lay_c (w : World) (B k off : Nat) (vr : Value) (R : List Int) (m : Nat) (hm : R.length = m) (room : Int) (hc0 : w.cell? ⟨k, off, none⟩ = some vr) (hf0 : w.frozen? ⟨k, off, none⟩ = false) (hc1 : w.cell? ⟨k, off + 1, none⟩ = some (.int .i64 room))
    (hown : w.ownsRow B 5 1 vr m (bs R)) (hB : B ≤ w.heap.size) (hk : vr.ownBlock ≠ some k) (A : Option Addr) (n c : Nat) (L : List Int) (hL : L.length = n) (hnc : n ≤ c) (hr : Reads w A (bs L)) (hn : n ≤ 1099511627776) (hR : m ≤ 1099511627776) (hroom : room < 0 ∨ (m : Int) ≤ room) (hrm : room ≤ 1099511627776) (j : Nat) (hj : fit room m n = j) :
    Calls Try.prog 39 #[.pointer (some ⟨k, off, none⟩), .slice A n c] w fun e w' => e = .returned (.int .i64 j) ∧
      ∃ v' w1, w1.ownsRow B 5 1 v' (m + j) (bs (R ++ L.take j)) ∧ w.grownBy w1 vr.ownBlock ∧ (v'.ownBlock = vr.ownBlock ∨ v'.ownBlock = some w.heap.size) ∧ w' = w1.setCell ⟨k, off, none⟩ v' :=
  lay_w w B k off vr R m hm room hc0 hf0 hc1 hown hB hk A n c L hL hnc hr (by omega) hR hroom hrm j hj (by have := fit_le room m n; omega)

set_option maxRecDepth 100000 in
/-- (*buffer).take: the first bytes, told in a row of their own; the others are laid in a new row. -/
theorem take_c (w : World) (B k off : Nat) (vr : Value) (R : List Int) (m : Nat) (hm : R.length = m) (hc0 : w.cell? ⟨k, off, none⟩ = some vr) (hf0 : w.frozen? ⟨k, off, none⟩ = false)
    (hown : w.ownsRow B 5 1 vr m (bs R)) (hR : m ≤ 1099511627776) (j : Nat) (hj : j ≤ m) :
    Calls Try.prog 40 #[.pointer (some ⟨k, off, none⟩), .int .i64 j] w fun e w' => ∃ v v' w1, e = .returned v ∧ Below w.heap.size w w1 ∧ w1.ownsRow w.heap.size 5 1 v j (bs (R.take j)) ∧ w1.ownsRow w.heap.size 5 1 v' (m - j) (bs (R.drop j)) ∧
      (v.ownBlock = none ∨ v.ownBlock ≠ v'.ownBlock) ∧ w' = w1.setCell ⟨k, off, none⟩ v' := by
  obtain ⟨A0, c0, rfl⟩ := own_slice hown
  have hcp : m ≤ c0 := by
    rcases hown.2 with ⟨h0, h1⟩ | ⟨g, cap, cur, h0, _, _, h1, _⟩
    · cases h0; omega
    · cases h0; exact h1
  have hlt := World.block_lt_of_cell? w _ hc0
  have hrd := Reads.of_row hown
  have H1 := Lib.hid hrd
  have hj2 : (0 : Int) ≤ (j : Int) := by omega
  have hj3 : (j : Int) ≤ (c0 : Int) := by omega
  have hj4 : (j : Int) ≤ (m : Int) := by omega
  have hj5 : (m : Int) ≤ (c0 : Int) := by omega
  have ht : (j : Int).toNat = j := by omega
  clear hrd hown
  go_enter Try.func40, Try.ntmps40
  go_wp2_with fail
  refine (clone_c _ A0 j c0 (R.take j) (by rw [List.length_take]; omega) (by omega) (by rw [bs_take]; exact H1.out.take j)).mono ?_
  rintro e w1 ⟨v, rfl, hv, hb1⟩
  have d0 := (hb1.cell (p := ⟨k, off, none⟩) hlt).trans hc0
  have f0 : w1.frozen? ⟨k, off, none⟩ = false := (World.frozen?_of_block (a := ⟨k, off, none⟩) (hb1.block k hlt)).trans hf0
  obtain ⟨V, cv, rfl⟩ := own_slice hv
  have H2 := Lib.hid (H1.out.below hb1)
  clear hc0 hf0
  go_wp2_with fail
  all_goals
    refine (clone_c _ _ _ _ (R.drop j) (by rw [List.length_drop]; omega) (by omega) (by first | (rw [bs_drop]; exact H2.out.drop j) | (rw [show R.drop j = [] from List.drop_eq_nil_of_le (by omega)]; exact Reads.nil _ _))).mono ?_
    rintro e w2 ⟨v', rfl, hv', hb2⟩
    have d1 := (hb2.cell (p := ⟨k, off, none⟩) (World.block_lt_of_cell? w1 _ d0)).trans d0
    have f1 : w2.frozen? ⟨k, off, none⟩ = false := (World.frozen?_of_block (a := ⟨k, off, none⟩) (hb2.block k (World.block_lt_of_cell? w1 _ d0))).trans f0
    obtain ⟨V', cv', rfl⟩ := own_slice hv'
    clear d0 f0 H1 H2
    go_wp2
    go_ret
    refine ⟨.slice V j cv, .slice V' (m - j) cv', w2, rfl, Below.then_ hb1 hb1.size hb2, own_below hv hb2, ?_, ?_, rfl⟩
    · have := own_mono hv' hb1.size
      simpa using this
    · rcases hb : Value.ownBlock (.slice V j cv) with _ | g
      · exact .inl rfl
      · right
        intro he
        have h1 := (hv.lt g hb).2
        have h2 := (hv'.lt g he.symm).1
        omega

/-- (*atomic.Int64).Add and Load. -/
theorem add_c (w : World) (a : Addr) (x y : Int) (hc : w.cell? a = some (.int .i64 x)) (hf : w.frozen? a = false) (hs : IntKind.i64.wrap (x + y) = x + y) :
    Calls Try.prog 41 #[.pointer (some a), .int .i64 y] w fun e w' => e = .returned (.int .i64 (x + y)) ∧ w' = w.setCell a (.int .i64 (x + y)) := by
  have hd := run_call_add (P := Try.prog) (f := 59) (fn := Try.f59) (by kernel_rfl) (by kernel_rfl) (by kernel_rfl) (by kernel_rfl) .i64 (by kernel_rfl) (a := a) (x := x) (y := y) (s := x + y) hc hf (by simp [go_sem, hs])
  go_enter Try.func41, Try.ntmps41
  go_wp2
  go_outline
  trace_state
  go_ret
  exact ⟨rfl, rfl⟩
theorem load_c (w : World) (a : Addr) (x : Int) (hc : w.cell? a = some (.int .i64 x)) :
    Calls Try.prog 43 #[.pointer (some a)] w fun e w' => e = .returned (.int .i64 x) ∧ w = w' := by
  have hd := run_call_load (P := Try.prog) (f := 60) (fn := Try.f60) (by kernel_rfl) (by kernel_rfl) (by kernel_rfl) (by kernel_rfl) .i64 (by kernel_rfl) (a := a) (x := x) hc
  go_enter Try.func43, Try.ntmps43
  go_wp2
  go_ret
  exact ⟨rfl, rfl⟩
end Go.Proofs.Ytalabfbnbiagiaa.C
