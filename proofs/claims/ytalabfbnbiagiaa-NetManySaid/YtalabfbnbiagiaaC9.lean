/-
  The chapter's first example; bytes lent and looked at behind that; numbers brought into a range.
-/
import Derived.Test.YtalabfbnbiagiaaC7
import Derived.Test.YtalabfbnbiagiaaOpen
set_option linter.unusedVariables false
set_option linter.unusedSimpArgs false
namespace Go.Proofs.Ytalabfbnbiagiaa.C
open Go.RowKit Go.Proofs.Ytalabfbnbiagiaa.K

/-- The string of bytes. -/
def str (L : List Int) : ByteArray := L.foldl (fun r n => r.push (UInt8.ofNat n.toNat)) ByteArray.empty

theorem conv_reads {w : World} {n cp : Nat} {A : Option Addr} {L : List Int} (hL : L.length = n) (h : Reads w A (bs L)) : (convert 29 9 (.slice A n cp)).run Try.prog w = .ok (.string (str L)) w := by
  rw [run_convert_bytes_string w 29 9 5 A n cp Try.underlying29 Try.underlying5 Try.underlying9]
  rcases A with _ | a
  · have h0 : L = [] := by
      rcases L with _ | ⟨x, L⟩
      · rfl
      · obtain ⟨ad, h, _⟩ := h 0 _ rfl
        cases h
    subst h0
    subst hL
    rfl
  · refine run_bytesToString w a n cp L ?_
    have hc : ∀ j v, (bs L)[j]? = some v → w.cell? (a.add j) = some v := by
      intro j v hv
      obtain ⟨ad, he, hc⟩ := h j v hv
      cases he
      exact hc
    have := run_loadCells_list (P := Try.prog) (w := w) a (bs L) hc
    rw [bs_length, hL] at this
    exact this
theorem reads_new (w : World) (cs : Array Value) (t : TypeId) : Reads (w.alloc (.cells cs t)) (some ⟨w.heap.size, 0, none⟩) cs.toList := by
  intro j u hu
  refine ⟨_, rfl, ?_⟩
  rw [add_plain, Nat.zero_add, World.cell?_alloc_new]
  simpa using hu

def hN1 : NS := ((NS.new 4 3).open_ 1).2
def hN2 : NS := (hN1.send 1 [1, 2, 3, 4, 5, 6]).2
def hN3 : NS := (hN2.bring 1 3).2.2
def hN4 : NS := (hN3.bring 1 9).2.2
def hN5 : NS := (hN4.take 1).2.2

set_option maxRecDepth 100000 in
set_option maxHeartbeats 1600000 in
theorem head_c (w : World) : Calls Try.prog 19 #[] w fun e w' => e = .returned (.bool true) ∧ Below w.heap.size w w' := by
  go_enter Try.func19, Try.ntmps19
  go_wp2_with fail
  refine (new_c w 4 3 (by decide) (fun _ => 0) 1000).mono ?_
  rintro e w1 ⟨g, rfl, hg1, hg2, hb1, H1⟩
  have S1 := (((St.first w).below hb1).upd (Nat.le_refl _) (1000 + 4))
  have hS1 := Lib.hid (And.intro S1 H1)
  clear S1 H1 hb1 hg1 hg2
  go_wp2_with fail
  refine (open_c w1 _ 1000 g _ hS1.out.2 1 (by decide)).mono ?_
  rintro e w2 ⟨he, σ2, H2, hc2⟩
  obtain rfl : e = .returned (.int .i64 0) := he
  have hS2 := Lib.hid (And.intro (hS1.out.1.chg hc2 (by unfold Of; omega)) (show NetAt w2 σ2 1000 g hN1 from H2))
  clear H2 hc2 hS1
  go_wp2_with fail
  have H3 := hS2.out.2.below ((Below.refl _ _).alloc (Nat.le_refl _) (.cells #[.int .u8 1, .int .u8 2, .int .u8 3, .int .u8 4, .int .u8 5, .int .u8 6] 5))
  have S3 := hS2.out.1.below ((Below.refl _ _).alloc (Nat.le_refl _) (.cells #[.int .u8 1, .int .u8 2, .int .u8 3, .int .u8 4, .int .u8 5, .int .u8 6] 5))
  refine (send_c _ σ2 1000 g _ H3 1 (by decide) (some ⟨w2.heap.size, 0, none⟩) 6 6 [1, 2, 3, 4, 5, 6] rfl (by omega) (by omega) (reads_new w2 _ 5)).mono ?_
  rintro e w3 ⟨he, σ3, H4, hc3⟩
  obtain rfl : e = .returned (.int .i64 0) := he
  have hS3 := Lib.hid (And.intro (S3.chg hc3 (by unfold Of; omega)) (show NetAt w3 σ3 1000 g hN2 from H4))
  clear H3 S3 H4 hc3 hS2
  go_wp2_with fail
  refine (bring_c _ σ3 1000 g _ hS3.out.2 (by decide) 1 3 (by decide)).mono ?_
  rintro e w4 ⟨he, σ4, H4, hc4⟩
  obtain rfl : e = .returned (.tuple #[.int .i64 3, .int .i64 0]) := he
  have hS4 := Lib.hid (And.intro (hS3.out.1.chg hc4 (by unfold Of; omega)) (show NetAt w4 σ4 1000 g hN3 from H4))
  clear H4 hc4 hS3
  go_wp2_with fail
  refine (bring_c _ σ4 1000 g _ hS4.out.2 (by decide) 1 9 (by decide)).mono ?_
  rintro e w5 ⟨he, σ5, H5, hc5⟩
  obtain rfl : e = .returned (.tuple #[.int .i64 1, .int .i64 0]) := he
  have hS5 := Lib.hid (And.intro (hS4.out.1.chg hc5 (by unfold Of; omega)) (show NetAt w5 σ5 1000 g hN4 from H5))
  clear H5 hc5 hS4
  go_wp2_with fail
  refine (take_n _ σ5 1000 g _ hS5.out.2 1 (by decide)).mono ?_
  rintro e w6 ⟨v, he, σ6, H6, hc6, hr, -⟩
  obtain rfl : e = .returned (.tuple #[v, .int .i64 0]) := he
  have hr' : w6.ownsRow 0 5 1 v 4 (bs [1, 2, 3, 4]) := hr.1
  obtain ⟨V, cv, rfl⟩ := own_slice hr'
  have hS6 := Lib.hid (And.intro (hS5.out.1.chg hc6 (by unfold Of; omega)) (show NetAt w6 σ6 1000 g hN5 from H6))
  have hq := conv_reads (cp := cv) (n := 4) rfl (Reads.of_row hr')
  have hq2 := conv_reads (cp := 4) (n := 4) (L := [1, 2, 3, 4]) rfl (reads_new w6 #[.int .u8 1, .int .u8 2, .int .u8 3, .int .u8 4] 5)
  clear H6 hc6 hS5 hr hr'
  go_wp2_with fail
  have H7 := hS6.out.2.below ((Below.refl _ _).alloc (Nat.le_refl _) (.cells #[.int .u8 1, .int .u8 2, .int .u8 3, .int .u8 4] 5))
  have S7 := hS6.out.1.below ((Below.refl _ _).alloc (Nat.le_refl _) (.cells #[.int .u8 1, .int .u8 2, .int .u8 3, .int .u8 4] 5))
  refine (moved_c _ σ6 1000 g _ H7).mono ?_
  rintro e w8 ⟨he, rfl⟩
  obtain rfl : e = .returned (.int .i64 4) := he
  go_wp2
  go_ret
  exact ⟨rfl, S7.bel⟩
end Go.Proofs.Ytalabfbnbiagiaa.C
