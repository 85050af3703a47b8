/-
  Where a key goes; where a source's first item goes; whether all is empty.
-/
import Derived.Test.YtapninpdjccglaaF2
set_option linter.unusedVariables false
set_option linter.unusedSimpArgs false
namespace Go.Proofs.Ytapninpdjccglaa.C
open Go.RowKit Go.Proofs.Ytapninpdjccglaa.K

/-- A key's operator. -/
def rt (o : Nat) (H : Int) : Int := IntKind.i64.wrap ((IntKind.u64.wrap (H * 11400714819323198485) / 4294967296).tmod o)
theorem rt_range (o : Nat) (H : Int) (h1 : 1 ≤ o) (h2 : o ≤ 64) : 0 ≤ rt o H ∧ rt o H < o := by
  unfold rt
  rw [IntKind.wrap_u64, IntKind.wrap_i64, Int.tmod_eq_emod_of_nonneg (by omega)]
  have h3 := Int.emod_nonneg (H * 11400714819323198485 % 18446744073709551616 / 4294967296) (show (o : Int) ≠ 0 by omega)
  have h4 := Int.emod_lt_of_pos (H * 11400714819323198485 % 18446744073709551616 / 4294967296) (show (0 : Int) < o by omega)
  omega
def rtN (o : Nat) (key : ByteArray) : Nat := (rt o (hashL key.data.toList)).toNat
theorem rtN_eq (o : Nat) (key : ByteArray) (h1 : 1 ≤ o) (h2 : o ≤ 64) : rt o (hashL key.data.toList) = (rtN o key : Int) ∧ rtN o key < o := by
  have := rt_range o (hashL key.data.toList) h1 h2
  unfold rtN
  omega
theorem route_c (w : World) (σ : Nat → Nat) (t g : Nat) (F : FS) (h : FlowAt w σ t g F) (key : ByteArray) (hk : key.size ≤ 140737488351232) :
    Calls Try.prog 14 #[.pointer (some ⟨g, 0, none⟩), .string key] w fun e w' => e = .returned (.int .i64 (rtN F.o key : Nat)) ∧ Below w.heap.size w w' := by
  obtain ⟨gq, gb, qv, fi, gr, rc, h⟩ := h
  have hc1 := h.c1
  have ho1 := h.good.o1
  have ho2 := h.good.o2
  have hlt := h.blk.1.lt
  obtain ⟨o, ho⟩ : ∃ o, F.o = o := ⟨_, rfl⟩
  rw [ho] at hc1 ho1 ho2 ⊢
  have hr := (rtN_eq o key ho1 (by omega)).1
  have hcall := fun W => hash_c W key hk
  obtain ⟨H, hH⟩ : ∃ H, hashL key.data.toList = H := ⟨_, rfl⟩
  rw [hH] at hr
  simp only [hH] at hcall
  have HC := Lib.hid hcall
  have Hr := Lib.hid hr
  have hK : ∀ W, Below w.drew.heap.size w.drew W → W.cell? ⟨g, 1, none⟩ = some (.slice (some ⟨gb, 0, none⟩) o o) := fun W hb => (hb.cell (p := ⟨g, 1, none⟩) hlt).trans hc1
  have HK := Lib.hid hK
  have hwo : IntKind.u64.wrap (o : Int) = (o : Int) := by rw [IntKind.wrap_u64]; omega
  have hne : ¬ ((o : Int) = 0) := by omega
  clear ho h hH hcall hk hK hr
  go_enter Try.func14, Try.ntmps14
  go_wp2_with fail
  go_region_with ((go_at_call 32; refine (HC.out _).mono ?_; rintro e w1 ⟨rfl, hb1⟩; have k1 := HK.out w1 hb1))
  all_goals
    go_wp2
    go_ret
    exact ⟨by rw [← Hr.out]; rfl, ⟨hb1.os, hb1.tape, hb1.output, hb1.size, hb1.block⟩⟩

/-- Where a source's first item goes. -/
def FS.toward (F : FS) (i : Int) : Int × Int :=
  if 0 ≤ i ∧ i < F.s then
    match F.q i.toNat with
    | [] => (0, 44)
    | x :: _ => if x.mark then ((F.to i.toNat : Nat), 0) else ((rtN F.o x.key : Nat), 0)
  else (0, 1)
def ItOk (x : It) : Prop := x.key.size ≤ 140737488351232

set_option maxRecDepth 100000 in
theorem toward_c (w : World) (σ : Nat → Nat) (t g : Nat) (F : FS) (hF : FlowAt w σ t g F) (hok : ∀ i, i < F.s → ∀ x ∈ F.q i, ItOk x) (i : Int) :
    Calls Try.prog 23 #[.pointer (some ⟨g, 0, none⟩), .int .i64 i] w fun e w' => e = .returned (.tuple #[.int .i64 (F.toward i).1, .int .i64 (F.toward i).2]) ∧ Below w.heap.size w w' := by
  have hr := fun W key (hk : key.size ≤ 140737488351232) (hb : Below w.heap.size w W) => route_c W σ t g F (hF.below hb) key hk
  have Hr := Lib.hid hr
  clear hr
  obtain ⟨gq, gb, qv, fi, gr, rc, h⟩ := hF
  by_cases hi : F.src i
  · have hi' := hi
    unfold FS.src at hi'
    obtain ⟨d, rfl⟩ := Int.eq_ofNat_of_zero_le hi'.1
    have hd : d < F.s := by omega
    have hof := of_yes w σ t g F gq gb qv fi gr rc h d hd
    have hq := h.q0 hd
    have hq1 := h.q1 hd
    have hrow := h.qs d hd
    have ht : F.toward (d : Int) = match F.q d with | [] => (0, 44) | x :: _ => if x.mark then ((F.to d : Nat), 0) else ((rtN F.o x.key : Nat), 0) := by
      unfold FS.toward
      rw [if_pos hi', Int.toNat_natCast]
    have hok' := hok d hd
    rcases hL : F.q d with _ | ⟨x, r⟩
    · rw [hL] at hrow
      rw [show F.toward (d : Int) = (0, 44) by rw [ht, hL]]
      obtain ⟨A, c, hv, hnc⟩ := hrow.slice
      rw [hv] at hq
      simp only [List.length_nil] at hq
      clear hv hnc hd hi hi' h hrow ht hL hok' hok
      go_enter Try.func23, Try.ntmps23
      go_wp2_with fail
      refine hof.mono ?_
      rintro e w1 ⟨rfl, rfl⟩
      go_wp2
      go_ret2
      exact ⟨rfl, Below.refl _ _⟩
    · rw [hL] at hrow hok'
      obtain ⟨b, off, cap, hv, hnc, hcm, hs, hbl, hcells, hfz⟩ := hrow.form (by simp)
      rw [hv] at hq
      have k0 := hcells 0 (.bool x.mark) rfl
      have k1 := hcells 1 (.string x.key) rfl
      simp only [Nat.add_zero] at k0
      obtain ⟨n, hn⟩ : ∃ n, (x :: r).length = n := ⟨_, rfl⟩
      have hn0 : 0 < n := by rw [← hn]; simp
      have hn1 : ¬ ((n : Int) = 0) := by omega
      have hn2 : (0 : Int) < (n : Int) := by omega
      rw [hn] at hq
      have hxok := hok' x (by simp)
      unfold ItOk at hxok
      have Hx := Lib.hid hxok
      rw [hL] at ht
      clear hv hnc hd hi hi' h hrow hL hok' hok hcells hn hcm hs hbl hfz hxok
      rcases hm : x.mark with _ | _
      · rw [hm] at k0
        rw [show F.toward (d : Int) = (((rtN F.o x.key : Nat) : Int), 0) by rw [ht]; simp [hm]]
        obtain ⟨ro, hro⟩ : ∃ ro, rtN F.o x.key = ro := ⟨_, rfl⟩
        rw [hro]
        have hcall := (Hr.out w x.key Hx.out (Below.refl _ _))
        rw [hro] at hcall
        clear hm ht hro
        go_enter Try.func23, Try.ntmps23
        go_wp2_with fail
        refine hof.mono ?_
        rintro e w1 ⟨rfl, rfl⟩
        go_wp2_with fail
        refine hcall.mono ?_
        rintro e w1 ⟨rfl, hb1⟩
        go_wp2
        go_ret2
        exact ⟨rfl, hb1⟩
      · rw [hm] at k0
        rw [show F.toward (d : Int) = (((F.to d : Nat) : Int), 0) by rw [ht]; simp [hm]]
        clear hm ht
        go_enter Try.func23, Try.ntmps23
        go_wp2_with fail
        refine hof.mono ?_
        rintro e w1 ⟨rfl, rfl⟩
        go_wp2
        go_ret2
        exact ⟨rfl, Below.refl _ _⟩
  · have hof := of_no w σ t g F gq gb qv fi gr rc h i hi
    have ht : F.toward i = (0, 1) := by
      unfold FS.src at hi
      unfold FS.toward
      rw [if_neg hi]
    rw [ht]
    clear hi h ht hok
    go_enter Try.func23, Try.ntmps23
    go_wp2_with fail
    refine hof.mono ?_
    rintro e w1 ⟨rfl, rfl⟩
    go_wp2
    go_ret2
    exact ⟨rfl, Below.refl _ _⟩
end Go.Proofs.Ytapninpdjccglaa.C
