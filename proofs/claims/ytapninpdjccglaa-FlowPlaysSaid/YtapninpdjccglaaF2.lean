/-
  The number of a text; what Queued and Boxed tell.
-/
import Derived.Test.YtapninpdjccglaaF1
import Derived.Lib.ConvBytes
import Derived.Laws.Bits64
set_option linter.unusedVariables false
set_option linter.unusedSimpArgs false
namespace Go.Proofs.Ytapninpdjccglaa.C
open Go.RowKit Go.Proofs.Ytapninpdjccglaa.K

theorem bytesWorld_below (w : World) (e : TypeId) (s : ByteArray) : Below w.heap.size w (Lib.bytesWorld w e s) :=
  ⟨rfl, rfl, rfl, by rw [Lib.bytesWorld_size]; omega, fun k hk => Lib.bytesWorld_at_old w e s k hk⟩
/-- The number of a text. -/
def hstep (h c : Int) : Int := IntKind.u64.wrap (bits .xor .u64 h (IntKind.u64.wrap c) * 1099511628211)
def hashL (L : List UInt8) : Int := L.foldl (fun h c => hstep h c.toNat) 14695981039346656037
theorem hashL_succ (L : List UInt8) (k : Nat) (h : k < L.length) : hashL (L.take (k + 1)) = hstep (hashL (L.take k)) (L.getD k 0).toNat := by
  rw [List.take_succ_eq_append_getElem h, show L.getD k 0 = L[k] by simp [List.getD_eq_getElem?_getD, h]]
  unfold hashL
  rw [List.foldl_append]
  rfl
theorem hstep_range (h c : Int) : 0 ≤ hstep h c ∧ hstep h c < 18446744073709551616 := by
  unfold hstep
  rw [IntKind.wrap_u64]
  omega
theorem hashL_range (L : List UInt8) : 0 ≤ hashL L ∧ hashL L < 18446744073709551616 := by
  unfold hashL
  have : ∀ (L : List UInt8) (a : Int), 0 ≤ a ∧ a < 18446744073709551616 → 0 ≤ L.foldl (fun h c => hstep h c.toNat) a ∧ L.foldl (fun h c => hstep h c.toNat) a < 18446744073709551616 := by
    intro L
    induction L with
    | nil => intro a h; exact h
    | cons x r ih => intro a _; exact ih _ (hstep_range _ _)
  exact this L _ (by omega)
theorem hash_c (w : World) (s : ByteArray) (hs : s.size ≤ 140737488351232) : Calls Try.prog 32 #[.string s] w fun e w' => e = .returned (.int .u64 (hashL s.data.toList)) ∧ Below w.heap.size w w' := by
  have hcv := Lib.run_convert_string_bytes (P := Try.prog) w 9 88 5 s Try.underlying9 Try.underlying88 Try.underlying5
  have hcell := Lib.bytesWorld_cell w 5 s
  have hbel := bytesWorld_below w 5 s
  obtain ⟨cp, hcp⟩ : ∃ cp, grownCap w s.size 0 5 = cp := ⟨_, rfl⟩
  obtain ⟨W, hW⟩ : ∃ W, Lib.bytesWorld w 5 s = W := ⟨_, rfl⟩
  obtain ⟨g, hg⟩ : ∃ g, w.heap.size = g := ⟨_, rfl⟩
  rw [hcp, hW, hg] at hcv
  rw [hW] at hcell hbel
  rw [hg] at hcell
  have Hcell := Lib.hid hcell
  have Hbel := Lib.hid hbel
  obtain ⟨n, hn⟩ : ∃ n, s.size = n := ⟨_, rfl⟩
  rw [hn] at hcv hs
  have Hn := Lib.hid hn
  have Hg := Lib.hid hg
  clear hcell hbel hcp hW hn hg
  go_enter Try.func32, Try.ntmps32
  go_wp2_with fail
  go_loop [3, 9] (fun h i => ∃ k : Nat, k ≤ n ∧ i = .int .i64 k ∧ h = .int .u64 (hashL (s.data.toList.take k))) (fun _ i => n - (intOf i).toNat)
  case atStart => exact ⟨0, by omega, rfl, rfl⟩
  case round =>
    obtain ⟨k, hk, rfl, rfl⟩ := hrel
    obtain ⟨x, hx⟩ : ∃ x, hashL (s.data.toList.take k) = x := ⟨_, rfl⟩
    rw [hx]
    have Hx := Lib.hid hx
    clear hx
    by_cases hlt : k < n
    · have hs1 := hashL_succ s.data.toList k (by simp; have := Hn.out; omega)
      rw [Hx.out] at hs1
      have Hs1 := Lib.hid hs1
      clear hs1
      have hc := Hcell.out k (by rw [Hn.out]; exact hlt)
      go_wp2_with fail
      go_round
      case rel =>
        exact ⟨k + 1, by omega, by go_num, by rw [Hs1.out]; simp [hstep]⟩
      case measure => simp [intOf]; omega
    · go_wp2_with fail
      go_ret
      have hkn : k = n := by omega
      have hall : s.data.toList.take k = s.data.toList := List.take_of_length_le (by simp; have := Hn.out; omega)
      refine ⟨?_, Hbel.out⟩
      rw [← hall, Hx.out]
      rfl

set_option maxRecDepth 100000 in
theorem queued_c (w : World) (σ : Nat → Nat) (t g : Nat) (F : FS) (h : FlowAt w σ t g F) (i : Int) (hw : (Lit.int .i64 i).wf = true) :
    Calls Try.prog 22 #[.pointer (some ⟨g, 0, none⟩), .int .i64 i] w fun e w' => e = .returned (.int .i64 (if 0 ≤ i ∧ i < F.s then ((F.q i.toNat).length : Int) else 0)) ∧ w = w' := by
  obtain ⟨gq, gb, qv, fi, gr, rc, h⟩ := h
  by_cases hi : F.src i
  · have hi' := hi
    unfold FS.src at hi'
    rw [if_pos hi']
    obtain ⟨d, rfl⟩ := Int.eq_ofNat_of_zero_le hi'.1
    have hd : d < F.s := by omega
    have hof := of_yes w σ t g F gq gb qv fi gr rc h d hd
    have hq := h.q0 hd
    obtain ⟨A, c, hv, hnc⟩ := (h.qs d hd).slice
    rw [hv] at hq
    rw [Int.toNat_natCast]
    obtain ⟨n, hn⟩ : ∃ n, (F.q d).length = n := ⟨_, rfl⟩
    rw [hn] at hq ⊢
    clear hv hnc hd hi hi' h hn
    go_enter Try.func22, Try.ntmps22
    go_wp2_with fail
    refine hof.mono ?_
    rintro e w1 ⟨rfl, rfl⟩
    go_wp2
    go_ret
    exact ⟨rfl, rfl⟩
  · have hof := of_no w σ t g F gq gb qv fi gr rc h i hi
    unfold FS.src at hi
    rw [if_neg hi]
    clear hi h
    go_enter Try.func22, Try.ntmps22
    go_wp2_with fail
    refine hof.mono ?_
    rintro e w1 ⟨rfl, rfl⟩
    go_wp2
    go_ret
    exact ⟨rfl, rfl⟩
theorem boxed_c (w : World) (σ : Nat → Nat) (t g : Nat) (F : FS) (h : FlowAt w σ t g F) (i : Int) (hw : (Lit.int .i64 i).wf = true) :
    Calls Try.prog 24 #[.pointer (some ⟨g, 0, none⟩), .int .i64 i] w fun e w' => e = .returned (.int .i64 (if 0 ≤ i ∧ i < F.o then ((F.b i.toNat).length : Int) else 0)) ∧ w = w' := by
  obtain ⟨gq, gb, qv, fi, gr, rc, h⟩ := h
  have hc1 := h.c1
  by_cases hi : 0 ≤ i ∧ i < F.o
  · rw [if_pos hi]
    obtain ⟨d, rfl⟩ := Int.eq_ofNat_of_zero_le hi.1
    have hd : d < F.o := by omega
    have hq := h.b2 hd
    rw [Int.toNat_natCast]
    obtain ⟨n, hn⟩ : ∃ n, (F.b d).length = n := ⟨_, rfl⟩
    rw [hn] at hq ⊢
    obtain ⟨o, ho⟩ : ∃ o, F.o = o := ⟨_, rfl⟩
    rw [ho] at hc1 hd
    have h1 : ¬ (d : Int) < 0 := by omega
    have h2 : ¬ (o : Int) ≤ (d : Int) := by omega
    have h3 : (0 : Int) ≤ (d : Int) := by omega
    have h4 : (d : Int) < (o : Int) := by omega
    clear hd hi h hn ho
    go_enter Try.func24, Try.ntmps24
    go_wp2
    go_ret
    exact ⟨rfl, rfl⟩
  · rw [if_neg hi]
    obtain ⟨o, ho⟩ : ∃ o, F.o = o := ⟨_, rfl⟩
    rw [ho] at hc1 hi
    clear h ho
    by_cases h1 : i < 0
    · clear hi
      go_enter Try.func24, Try.ntmps24
      go_wp2
      go_ret
      exact ⟨rfl, rfl⟩
    · have h2 : (o : Int) ≤ i := by omega
      clear hi
      go_enter Try.func24, Try.ntmps24
      go_wp2
      go_ret
      exact ⟨rfl, rfl⟩
end Go.Proofs.Ytapninpdjccglaa.C
