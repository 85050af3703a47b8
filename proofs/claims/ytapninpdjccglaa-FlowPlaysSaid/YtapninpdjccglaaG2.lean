/-
  Empty.
-/
import Derived.Test.YtapninpdjccglaaG1
set_option linter.unusedVariables false
set_option linter.unusedSimpArgs false
namespace Go.Proofs.Ytapninpdjccglaa.C
open Go.RowKit Go.Proofs.Ytapninpdjccglaa.K

def sumTo (f : Nat → Nat) : Nat → Nat
  | 0 => 0
  | k + 1 => sumTo f k + f k
theorem sumTo_le {f : Nat → Nat} {c : Nat} : ∀ {n : Nat}, (∀ i, i < n → f i ≤ c) → sumTo f n ≤ n * c
  | 0, _ => by simp [sumTo]
  | n + 1, h => by
    have h1 := sumTo_le (n := n) (fun i hi => h i (by omega))
    have h2 := h n (by omega)
    rw [sumTo, Nat.add_mul]
    omega
def FS.left (F : FS) : Nat := sumTo (fun i => (F.q i).length) F.s + sumTo (fun j => (F.b j).length) F.o

set_option maxRecDepth 100000 in
set_option maxHeartbeats 1600000 in
theorem empty_c (w : World) (σ : Nat → Nat) (t g : Nat) (F : FS) (hF : FlowAt w σ t g F) :
    Calls Try.prog 20 #[.pointer (some ⟨g, 0, none⟩)] w fun e w' => e = .returned (.bool ((F.left : Int) == 0)) ∧ Below w.heap.size w w' := by
  obtain ⟨gq, gb, qv, fi, gr, rc, h⟩ := hF
  have hg := h.good
  have hs8 := hg.s2
  have ho8 := hg.o2
  have hm64 := hg.m2
  obtain ⟨s, hs⟩ : ∃ s, F.s = s := ⟨_, rfl⟩
  obtain ⟨o, ho⟩ : ∃ o, F.o = o := ⟨_, rfl⟩
  have hsq : ∀ k, k ≤ s → sumTo (fun i => (F.q i).length) k ≤ 524288 := fun k hk => by
    have := sumTo_le (f := fun i => (F.q i).length) (c := 65536) (n := k) (fun i hi => hg.q i (by omega))
    omega
  have hsb : ∀ k, k ≤ o → sumTo (fun j => (F.b j).length) k ≤ 512 := fun k hk => by
    have := sumTo_le (f := fun j => (F.b j).length) (c := 64) (n := k) (fun i hi => Nat.le_trans (hg.b i (by omega)) hm64)
    omega
  have hleft : F.left = sumTo (fun i => (F.q i).length) s + sumTo (fun j => (F.b j).length) o := by unfold FS.left; rw [hs, ho]
  rw [hleft]
  have fq : ∀ w1, Below w.heap.size w w1 → ∀ k, k < s → ∃ A c, w1.cell? ⟨gq, k * 2, none⟩ = some (.slice A (F.q k).length c) ∧ w1.cell? ⟨gq, k * 2 + 1, none⟩ = some (.int .i64 (F.to k : Nat)) := by
    intro w1 hb k hk
    obtain ⟨A, c, hv, _⟩ := (h.qs k (by omega)).slice
    have h0 := h.q0 (i := k) (by omega)
    have h1 := h.q1 (i := k) (by omega)
    rw [hv] at h0
    exact ⟨A, c, (hb.cell (p := ⟨gq, k * 2, none⟩) (World.block_lt_of_cell? _ _ h0)).trans h0, (hb.cell (p := ⟨gq, k * 2 + 1, none⟩) (World.block_lt_of_cell? _ _ h1)).trans h1⟩
  have fb : ∀ w1, Below w.heap.size w w1 → ∀ k, k < o → w1.cell? ⟨gb, k * 3, none⟩ = some (.slice (some ⟨gr k, 0, none⟩) F.m F.m) ∧ w1.cell? ⟨gb, k * 3 + 1, none⟩ = some (.int .i64 (fi k : Nat)) ∧ w1.cell? ⟨gb, k * 3 + 2, none⟩ = some (.int .i64 ((F.b k).length : Nat)) := by
    intro w1 hb k hk
    have h0 := h.b0 (j := k) (by omega)
    have h1 := h.b1 (j := k) (by omega)
    have h2 := h.b2 (j := k) (by omega)
    exact ⟨(hb.cell (p := ⟨gb, k * 3, none⟩) (World.block_lt_of_cell? _ _ h0)).trans h0, (hb.cell (p := ⟨gb, k * 3 + 1, none⟩) (World.block_lt_of_cell? _ _ h1)).trans h1, (hb.cell (p := ⟨gb, k * 3 + 2, none⟩) (World.block_lt_of_cell? _ _ h2)).trans h2⟩
  have fg : ∀ w1, Below w.heap.size w w1 → w1.cell? ⟨g, 0, none⟩ = some (.slice (some ⟨gq, 0, none⟩) s s) ∧ w1.cell? ⟨g, 1, none⟩ = some (.slice (some ⟨gb, 0, none⟩) o o) := by
    intro w1 hb
    have h0 := h.c0
    have h1 := h.c1
    rw [hs] at h0
    rw [ho] at h1
    exact ⟨(hb.cell (p := ⟨g, 0, none⟩) (World.block_lt_of_cell? _ _ h0)).trans h0, (hb.cell (p := ⟨g, 1, none⟩) (World.block_lt_of_cell? _ _ h1)).trans h1⟩
  obtain ⟨k0, -⟩ := fg w (Below.refl _ _)
  have Fq := Lib.hid fq
  have Fb := Lib.hid fb
  have Fg := Lib.hid fg
  have Hsq := Lib.hid hsq
  have Hsb := Lib.hid hsb
  rw [hs] at hs8
  rw [ho] at ho8
  clear h hg hs ho hsq hsb hleft fq fb fg
  go_enter Try.func20, Try.ntmps20
  go_wp2_with fail
  go_loopw [3, 13] (fun a i wr => ∃ k : Nat, k ≤ s ∧ i = .int .i64 k ∧ a = .int .i64 (sumTo (fun i => (F.q i).length) k : Nat) ∧ Below w.heap.size w wr) (fun _ i _ => s - (intOf i).toNat)
  case atStart => exact ⟨0, by omega, rfl, rfl, Below.refl _ _⟩
  case round =>
    clear k0
    obtain ⟨k, hk, rfl, rfl, hb⟩ := hrel
    have HB := Lib.hid hb
    by_cases hlt : k < s
    · obtain ⟨A, c, c0, c1⟩ := Fq.out wr hb k hlt
      have hsum : sumTo (fun i => (F.q i).length) (k + 1) = sumTo (fun i => (F.q i).length) k + (F.q k).length := rfl
      have hle := Hsq.out (k + 1) (by omega)
      rw [hsum] at hle
      obtain ⟨a, ha⟩ : ∃ a, sumTo (fun i => (F.q i).length) k = a := ⟨_, rfl⟩
      obtain ⟨l, hl⟩ : ∃ l, (F.q k).length = l := ⟨_, rfl⟩
      rw [ha, hl] at hle hsum
      rw [hl] at c0
      rw [ha]
      have Hsum := Lib.hid hsum
      have i0 : (0 : Int) ≤ (k : Int) := by omega
      have i1 : (k : Int) < (s : Int) := by omega
      clear hsum ha hl hb
      go_wp2_with fail
      go_roundw
      case rel => exact ⟨k + 1, by omega, by go_num, by rw [Hsum.out]; go_num, Below.then_ HB.out HB.out.size ((Below.refl _ _).alloc (Nat.le_refl _) _)⟩
      case measure => simp [intOf]; omega
    · obtain rfl : k = s := by omega
      obtain ⟨-, k1⟩ := Fg.out wr hb
      have hle := Hsq.out k (Nat.le_refl _)
      obtain ⟨a, ha⟩ : ∃ a, sumTo (fun i => (F.q i).length) k = a := ⟨_, rfl⟩
      rw [ha] at hle ⊢
      have Ha := Lib.hid ha
      clear ha hb
      obtain ⟨w1, hw1⟩ : ∃ w1, w1 = wr := ⟨_, rfl⟩
      rw [← hw1] at HB k1 ⊢
      clear hw1
      go_wp2_with fail
      go_loopw [3, 28] (fun b i wr => ∃ q : Nat, q ≤ o ∧ i = .int .i64 q ∧ b = .int .i64 ((a + sumTo (fun j => (F.b j).length) q : Nat)) ∧ Below w.heap.size w wr) (fun _ i _ => o - (intOf i).toNat)
      case atStart => exact ⟨0, by omega, rfl, rfl, HB.out⟩
      case round =>
        clear HB k1
        obtain ⟨q, hq, rfl, rfl, hb⟩ := hrel
        have HB := Lib.hid hb
        by_cases hlt2 : q < o
        · obtain ⟨c0, c1, c2⟩ := Fb.out wr hb q hlt2
          have hsum : sumTo (fun j => (F.b j).length) (q + 1) = sumTo (fun j => (F.b j).length) q + (F.b q).length := rfl
          have hle2 := Hsb.out (q + 1) (by omega)
          rw [hsum] at hle2
          obtain ⟨x, hx⟩ : ∃ x, sumTo (fun j => (F.b j).length) q = x := ⟨_, rfl⟩
          obtain ⟨l, hl⟩ : ∃ l, (F.b q).length = l := ⟨_, rfl⟩
          rw [hx, hl] at hle2 hsum
          rw [hl] at c2
          rw [hx]
          have Hsum := Lib.hid hsum
          have i0 : (0 : Int) ≤ (q : Int) := by omega
          have i1 : (q : Int) < (o : Int) := by omega
          clear hsum hx hl hb
          go_wp2_with fail
          go_roundw
          case rel => exact ⟨q + 1, by omega, by go_num, by rw [Hsum.out, ← Nat.add_assoc]; go_num, Below.then_ HB.out HB.out.size ((Below.refl _ _).alloc (Nat.le_refl _) _)⟩
          case measure => simp [intOf]; omega
        · obtain rfl : q = o := by omega
          obtain ⟨x, hx⟩ : ∃ x, sumTo (fun j => (F.b j).length) q = x := ⟨_, rfl⟩
          rw [hx]
          have Hx := Lib.hid hx
          clear hx hb
          go_wp2
          go_ret
          refine ⟨?_, HB.out⟩
          rw [Ha.out, Hx.out]
          rfl
end Go.Proofs.Ytapninpdjccglaa.C
