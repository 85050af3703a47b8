/-
  What a net's calls do: Send, Write, Bring, Take, Fetch.
-/
import Derived.Test.YtalabfbnbiagiaaC4
set_option linter.unusedVariables false
set_option linter.unusedSimpArgs false
namespace Go.Proofs.Ytalabfbnbiagiaa.C
open Go.RowKit Go.Proofs.Ytalabfbnbiagiaa.K

def NS.send (N : NS) (c : Int) (L : List Int) : Int × NS :=
  if err N c true = 0 then
    match N.cs c.toNat with
    | none => (44, N)
    | some C => if C.way.length + L.length ≤ 1048576 then (0, N.put c.toNat { C with way := C.way ++ L }) else (2, N)
  else (err N c true, N)
def NS.write (N : NS) (c : Int) (L : List Int) : Int × Int × NS :=
  if err N c true = 0 then
    match N.cs c.toNat with
    | none => (0, 44, N)
    | some C => (((fit N.o C.out.length L.length : Nat) : Int), 0, N.put c.toNat { C with out := C.out ++ L.take (fit N.o C.out.length L.length) })
  else (0, err N c true, N)

theorem hat_of {w : World} {v v' : Value} (h : v'.ownBlock = v.ownBlock ∨ v'.ownBlock = some w.heap.size) : v'.ownBlock = v.ownBlock ∨ ∀ b, v'.ownBlock = some b → w.heap.size ≤ b :=
  h.imp id fun h b hb => by rw [h] at hb; cases hb; exact Nat.le_refl _
theorem fit_all {m n : Nat} : fit (-1) m n = n := by simp [fit]
theorem fit_room {room : Int} {m n : Nat} (h : (m : Int) ≤ room) : ((m + fit room m n : Nat) : Int) ≤ room := by unfold fit; rw [if_neg (by omega)]; omega

section
variable {w : World} {σ : Nat → Nat} {t g : Nat} {N : NS} {ks : Nat → Nat}
theorem NetIn.conn (h : NetIn w σ t g N ks) {d : Nat} {C : Cn} (hC : N.cs d = some C) : ∃ A0 c0 A1 c1 A2 c2 A3 c3, CnAt w σ (t + 5 * d) (ks d) N.i N.o C (.slice A0 C.way.length c0) (.slice A1 C.inb.length c1) (.slice A2 C.out.length c2) (.slice A3 C.heard.length c3) := by
  obtain ⟨v0, v1, v2, v3, hc⟩ := h.conns d C hC
  obtain ⟨A0, c0, rfl⟩ := hc.way.slice
  obtain ⟨A1, c1, rfl⟩ := hc.inb.slice
  obtain ⟨A2, c2, rfl⟩ := hc.out.slice
  obtain ⟨A3, c3, rfl⟩ := hc.heard.slice
  exact ⟨A0, c0, A1, c1, A2, c2, A3, c3, hc⟩
end
section
variable {w : World} {σ : Nat → Nat} {t k : Nat} {i o : Int} {C : Cn} {v0 v1 v2 v3 : Value}
theorem CnAt.c0 (h : CnAt w σ t k i o C v0 v1 v2 v3) : w.cell? ⟨k, 0, none⟩ = some v0 := by rw [h.blk.1.cell]; rfl
theorem CnAt.c1 (h : CnAt w σ t k i o C v0 v1 v2 v3) : w.cell? ⟨k, 1, none⟩ = some (.int .i64 (-1)) := by rw [h.blk.1.cell]; rfl
theorem CnAt.c2 (h : CnAt w σ t k i o C v0 v1 v2 v3) : w.cell? ⟨k, 2, none⟩ = some v1 := by rw [h.blk.1.cell]; rfl
theorem CnAt.c3 (h : CnAt w σ t k i o C v0 v1 v2 v3) : w.cell? ⟨k, 3, none⟩ = some (.int .i64 i) := by rw [h.blk.1.cell]; rfl
theorem CnAt.c4 (h : CnAt w σ t k i o C v0 v1 v2 v3) : w.cell? ⟨k, 4, none⟩ = some v2 := by rw [h.blk.1.cell]; rfl
theorem CnAt.c5 (h : CnAt w σ t k i o C v0 v1 v2 v3) : w.cell? ⟨k, 5, none⟩ = some (.int .i64 o) := by rw [h.blk.1.cell]; rfl
theorem CnAt.c6 (h : CnAt w σ t k i o C v0 v1 v2 v3) : w.cell? ⟨k, 6, none⟩ = some v3 := by rw [h.blk.1.cell]; rfl
theorem CnAt.c7 (h : CnAt w σ t k i o C v0 v1 v2 v3) : w.cell? ⟨k, 7, none⟩ = some (.bool C.closed) := by rw [h.blk.1.cell]; rfl
theorem CnAt.c8 (h : CnAt w σ t k i o C v0 v1 v2 v3) : w.cell? ⟨k, 8, none⟩ = some (.bool C.cut) := by rw [h.blk.1.cell]; rfl
theorem CnAt.nk (h : CnAt w σ t k i o C v0 v1 v2 v3) : v0.ownBlock ≠ some k ∧ v1.ownBlock ≠ some k ∧ v2.ownBlock ≠ some k ∧ v3.ownBlock ≠ some k := by
  have := h.blk.2
  refine ⟨fun e => ?_, fun e => ?_, fun e => ?_, fun e => ?_⟩
  · have := h.way.2 k e; omega
  · have := h.inb.2 k e; omega
  · have := h.out.2 k e; omega
  · have := h.heard.2 k e; omega
end

set_option maxRecDepth 100000 in
set_option maxHeartbeats 1600000 in
theorem send_c (w : World) (σ : Nat → Nat) (t g : Nat) (N : NS) (h : NetAt w σ t g N) (c : Int) (hw : (Lit.int .i64 c).wf = true) (A : Option Addr) (n cp : Nat) (L : List Int) (hL : L.length = n) (hn : n ≤ 140737488351232) (hnc : n ≤ cp) (hr : Reads w A (bs L)) :
    Calls Try.prog 15 #[.pointer (some ⟨g, 0, none⟩), .int .i64 c, .slice A n cp] w fun e w' => e = .returned (.int .i64 (N.send c L).1) ∧ ∃ σ', NetAt w' σ' t g (N.send c L).2 ∧ Chg (Of t) σ w σ' w' := by
  obtain ⟨ks, h⟩ := h
  obtain ⟨r, hr0⟩ : ∃ r, err N c true = r := ⟨_, rfl⟩
  have hg := live_c w σ t g N ks h c hw r hr0 _ rfl
  by_cases he : r = 0
  · subst he
    obtain ⟨d, C, rfl, hC⟩ : ∃ d C, c = (d : Nat) ∧ N.cs d = some C := by
      rcases err_true N c with ⟨h1, _⟩ | h1 | ⟨_, h2, _, C, h3, _⟩
      · omega
      · omega
      · exact ⟨c.toNat, C, by omega, h3⟩
    simp only [if_true, Int.toNat_natCast] at hg
    have hs : N.send (d : Int) L = if C.way.length + L.length ≤ 1048576 then (0, N.put d { C with way := C.way ++ L }) else (2, N) := by
      simp only [NS.send, hr0, if_true, Int.toNat_natCast, hC]
    rw [hs]
    obtain ⟨A0, c0, A1, c1, A2, c2, A3, c3, hcn⟩ := h.conn hC
    have hc0 := hcn.c0
    have hc1 := hcn.c1
    have hf0 := hcn.blk.1.frozen 0
    have hwl := h.good.way d C hC
    obtain ⟨kb, hkb⟩ : ∃ kb, ks d = kb := ⟨_, rfl⟩
    rw [hkb] at hg hc0 hc1 hf0
    obtain ⟨m, hm⟩ : ∃ m, C.way.length = m := ⟨_, rfl⟩
    have Hc := Lib.hid hcn
    have Hm := Lib.hid hm
    rw [hm] at hc0 hwl
    simp only [hm, hL]
    have HL := Lib.hid hL
    have Hr := Lib.hid hr
    have H := Lib.hid h
    have HC := Lib.hid hC
    have Hkb := Lib.hid hkb
    clear hcn hm hL hr h hC hs hr0 hkb
    by_cases hle : m + n ≤ 1048576
    · rw [if_pos hle]
      have hle' : ¬ (1048576 : Int) < (m : Int) + (n : Int) := by omega
      go_enter Try.func15, Try.ntmps15
      go_wp2_with fail
      refine hg.mono ?_
      rintro e w1 ⟨rfl, rfl⟩
      go_wp2_with fail
      have hcn := Hc.out
      rw [Hm.out, Hkb.out] at hcn
      refine (lay_c _ 0 kb 0 _ C.way m Hm.out (-1) hc0 hf0 hc1 (by have := hcn.way.1; rw [Hm.out] at this; exact this) (Nat.zero_le _) hcn.nk.1 A n cp L HL.out hnc Hr.out (by omega) (by omega) (.inl (by omega)) (by omega) n fit_all).mono ?_
      rintro e w2 ⟨rfl, v', w3, hown, hgrow, hat, rfl⟩
      rw [show L.take n = L from List.take_of_length_le (by rw [HL.out]; exact Nat.le_refl _)] at hown
      go_wp2
      go_ret
      have hx := hcn.way_ (R := C.way ++ L) hgrow (by rw [List.length_append, Hm.out, HL.out]; exact hown) (hat_of hat)
      refine ⟨rfl, _, ⟨ks, H.out.put HC.out hx.2 (by rw [Hkb.out]; exact hx.1) (by show (C.way ++ L).length ≤ _; rw [List.length_append, Hm.out, HL.out]; exact hle) (by have := H.out.good.inb _ _ HC.out; exact this) (by have := H.out.good.out _ _ HC.out; exact this) (by have := H.out.good.heard _ _ HC.out; exact this)⟩, hx.2.mono (of5_of (H.out.good.is _ _ HC.out).2)⟩
    · rw [if_neg hle]
      have hle' : (1048576 : Int) < (m : Int) + (n : Int) := by omega
      go_enter Try.func15, Try.ntmps15
      go_wp2_with fail
      refine hg.mono ?_
      rintro e w1 ⟨rfl, rfl⟩
      go_wp2
      go_ret
      exact ⟨rfl, σ, ⟨ks, H.out⟩, Chg.refl _ _ _⟩
  · rw [show N.send c L = (r, N) by simp [NS.send, hr0, he]]
    rw [if_neg he] at hg
    clear hr0
    go_enter Try.func15, Try.ntmps15
    go_wp2_with fail
    refine hg.mono ?_
    rintro e w1 ⟨rfl, rfl⟩
    go_wp2
    go_ret
    exact ⟨rfl, σ, ⟨ks, h⟩, Chg.refl _ _ _⟩

set_option maxRecDepth 100000 in
set_option maxHeartbeats 1600000 in
theorem write_c (w : World) (σ : Nat → Nat) (t g : Nat) (N : NS) (h : NetAt w σ t g N) (c : Int) (hw : (Lit.int .i64 c).wf = true) (A : Option Addr) (n cp : Nat) (L : List Int) (hL : L.length = n) (hn : n ≤ 140737488351232) (hnc : n ≤ cp) (hr : Reads w A (bs L)) :
    Calls Try.prog 21 #[.pointer (some ⟨g, 0, none⟩), .int .i64 c, .slice A n cp] w fun e w' => e = .returned (.tuple #[.int .i64 (N.write c L).1, .int .i64 (N.write c L).2.1]) ∧ ∃ σ', NetAt w' σ' t g (N.write c L).2.2 ∧ Chg (Of t) σ w σ' w' := by
  obtain ⟨ks, h⟩ := h
  obtain ⟨r, hr0⟩ : ∃ r, err N c true = r := ⟨_, rfl⟩
  have hg := live_c w σ t g N ks h c hw r hr0 _ rfl
  by_cases he : r = 0
  · subst he
    obtain ⟨d, C, rfl, hC⟩ : ∃ d C, c = (d : Nat) ∧ N.cs d = some C := by
      rcases err_true N c with ⟨h1, _⟩ | h1 | ⟨_, h2, _, C, h3, _⟩
      · omega
      · omega
      · exact ⟨c.toNat, C, by omega, h3⟩
    simp only [if_true, Int.toNat_natCast] at hg
    have hs : N.write (d : Int) L = (((fit N.o C.out.length L.length : Nat) : Int), 0, N.put d { C with out := C.out ++ L.take (fit N.o C.out.length L.length) }) := by
      simp only [NS.write, hr0, if_true, Int.toNat_natCast, hC]
    rw [hs]
    obtain ⟨A0, c0, A1, c1, A2, c2, A3, c3, hcn⟩ := h.conn hC
    have hc0 := hcn.c4
    have hc1 := hcn.c5
    have hf0 := hcn.blk.1.frozen 4
    have hwl := h.good.out d C hC
    have ho2 := h.good.o2
    obtain ⟨kb, hkb⟩ : ∃ kb, ks d = kb := ⟨_, rfl⟩
    rw [hkb] at hg hc0 hc1 hf0
    obtain ⟨m, hm⟩ : ∃ m, C.out.length = m := ⟨_, rfl⟩
    have Hc := Lib.hid hcn
    have Hm := Lib.hid hm
    rw [hm] at hc0 hwl
    simp only [hm, hL]
    obtain ⟨j, hj⟩ : ∃ j, fit N.o m n = j := ⟨_, rfl⟩
    rw [hj]
    have Hj := Lib.hid hj
    have HL := Lib.hid hL
    have Hr := Lib.hid hr
    have H := Lib.hid h
    have HC := Lib.hid hC
    have Hkb := Lib.hid hkb
    clear hcn hm hL hr h hC hs hr0 hkb hj
    go_enter Try.func21, Try.ntmps21
    go_wp2_with fail
    refine hg.mono ?_
    rintro e w1 ⟨rfl, rfl⟩
    have hcn := Hc.out
    rw [Hm.out, Hkb.out] at hcn
    have Hcn := Lib.hid hcn
    clear hcn
    go_wp2_with fail
    refine (lay_w _ 0 kb 4 _ C.out m Hm.out N.o hc0 hf0 hc1 (by have := Hcn.out.out.1; rw [Hm.out] at this; exact this) (Nat.zero_le _) Hcn.out.nk.2.2.1 A n cp L HL.out hnc Hr.out (by omega) (by omega) (.inr hwl) (by omega) j Hj.out (by have h1 := fit_room (n := n) hwl; rw [Hj.out] at h1; omega)).mono ?_
    rintro e w2 ⟨rfl, v', w3, hown, hgrow, hat, rfl⟩
    go_wp2
    go_ret2
    have hlen : (C.out ++ L.take j).length = m + j := by
      have := fit_le N.o m n
      rw [Hj.out] at this
      rw [List.length_append, Hm.out, List.length_take, HL.out]; omega
    have hx := Hcn.out.out_ (R := C.out ++ L.take j) hgrow (by rw [hlen]; exact hown) (hat_of hat)
    refine ⟨rfl, _, ⟨ks, H.out.put HC.out hx.2 (by rw [Hkb.out]; exact hx.1) (by have := H.out.good.way _ _ HC.out; exact this) (by have := H.out.good.inb _ _ HC.out; exact this) (by show ((C.out ++ L.take j).length : Int) ≤ _; rw [hlen, ← Hj.out]; exact fit_room hwl) (by have := H.out.good.heard _ _ HC.out; exact this)⟩, hx.2.mono (of5_of (H.out.good.is _ _ HC.out).2)⟩
  · rw [show N.write c L = (0, r, N) by simp [NS.write, hr0, he]]
    rw [if_neg he] at hg
    clear hr0
    go_enter Try.func21, Try.ntmps21
    go_wp2_with fail
    refine hg.mono ?_
    rintro e w1 ⟨rfl, rfl⟩
    go_wp2
    go_ret2
    exact ⟨rfl, σ, ⟨ks, h⟩, Chg.refl _ _ _⟩

def NS.take (N : NS) (c : Int) : List Int × Int × NS :=
  if err N c true = 0 then
    match N.cs c.toNat with
    | none => ([], 44, N)
    | some C => (C.inb, 0, N.put c.toNat { C with inb := [] })
  else ([], err N c true, N)

theorem grown_none {w w' : World} (h : Below w.heap.size w w') (row : Option Nat) : w.grownBy w' row := ⟨h.os, h.tape, h.output, h.size, fun k hk _ => h.block k hk⟩

set_option maxRecDepth 100000 in
set_option maxHeartbeats 1600000 in
theorem take_n (w : World) (σ : Nat → Nat) (t g : Nat) (N : NS) (h : NetAt w σ t g N) (c : Int) (hw : (Lit.int .i64 c).wf = true) :
    Calls Try.prog 24 #[.pointer (some ⟨g, 0, none⟩), .int .i64 c] w fun e w' => ∃ v, e = .returned (.tuple #[v, .int .i64 (N.take c).2.1]) ∧ ∃ σ', NetAt w' σ' t g (N.take c).2.2 ∧ Chg (Of t) σ w σ' w' ∧ Row w' σ' 0 5 1 v (N.take c).1.length (bs (N.take c).1) ∧ (∀ b, v.ownBlock = some b → w.heap.size ≤ b) := by
  obtain ⟨ks, h⟩ := h
  obtain ⟨r, hr0⟩ : ∃ r, err N c true = r := ⟨_, rfl⟩
  have hg := live_c w σ t g N ks h c hw r hr0 _ rfl
  by_cases he : r = 0
  · subst he
    obtain ⟨d, C, rfl, hC⟩ : ∃ d C, c = (d : Nat) ∧ N.cs d = some C := by
      rcases err_true N c with ⟨h1, _⟩ | h1 | ⟨_, h2, _, C, h3, _⟩
      · omega
      · omega
      · exact ⟨c.toNat, C, by omega, h3⟩
    simp only [if_true, Int.toNat_natCast] at hg
    have hs : N.take (d : Int) = (C.inb, 0, N.put d { C with inb := [] }) := by
      simp only [NS.take, hr0, if_true, Int.toNat_natCast, hC]
    rw [hs]
    obtain ⟨A0, c0, A1, c1, A2, c2, A3, c3, hcn⟩ := h.conn hC
    have hc0 := hcn.c2
    have hf0 := hcn.blk.1.frozen 2
    have hwl := h.good.inb d C hC
    have hi2 := h.good.i2
    obtain ⟨kb, hkb⟩ : ∃ kb, ks d = kb := ⟨_, rfl⟩
    rw [hkb] at hg hc0 hf0
    obtain ⟨m, hm⟩ : ∃ m, C.inb.length = m := ⟨_, rfl⟩
    have Hc := Lib.hid hcn
    have Hm := Lib.hid hm
    rw [hm] at hc0 hwl
    have H := Lib.hid h
    have HC := Lib.hid hC
    have Hkb := Lib.hid hkb
    clear hcn hm h hC hs hr0 hkb
    go_enter Try.func24, Try.ntmps24
    go_wp2_with fail
    refine hg.mono ?_
    rintro e w1 ⟨rfl, rfl⟩
    have hcn := Hc.out
    rw [Hm.out, Hkb.out] at hcn
    have Hcn := Lib.hid hcn
    have hrow : w.ownsRow 0 5 1 (.slice A1 m c1) m (bs C.inb) := by have := hcn.inb.1; rw [Hm.out] at this; exact this
    have Hrow := Lib.hid hrow
    clear hcn hrow
    go_wp2_with fail
    go_region_with ((go_at_call 40; refine (take_c w.drew 0 kb 2 _ C.inb m Hm.out hc0 hf0 Hrow.out (by omega) m (Nat.le_refl _)).mono ?_; rintro e w2 ⟨v, v', w3, rfl, hb3, hv, hv', hne, rfl⟩))
    go_wp2
    go_ret2
    have ht : C.inb.take m = C.inb := List.take_of_length_le (by rw [Hm.out]; exact Nat.le_refl _)
    have hd : C.inb.drop m = [] := List.drop_of_length_le (by rw [Hm.out]; exact Nat.le_refl _)
    rw [ht] at hv
    rw [hd, Nat.sub_self] at hv'
    have hx := Hcn.out.inb_ (R := []) (grown_none (w := w) ⟨hb3.os, hb3.tape, hb3.output, hb3.size, hb3.block⟩ _) (own_mono hv' (Nat.zero_le _)) (.inr fun b hb => (hv'.lt b hb).1)
    refine ⟨v, rfl, _, ⟨ks, H.out.put HC.out hx.2 (by rw [Hkb.out]; exact hx.1) (by have := H.out.good.way _ _ HC.out; exact this) (by have := H.out.good.i1; show ((0 : Nat) : Int) ≤ _; omega) (by have := H.out.good.out _ _ HC.out; exact this) (by have := H.out.good.heard _ _ HC.out; exact this)⟩, hx.2.mono (of5_of (H.out.good.is _ _ HC.out).2), ?_, fun b hb => (hv.lt b hb).1⟩
    have := told_row (σ := σ) (p := ⟨kb, 2, none⟩) (u := v') (x := t + 5 * d + 1) (w := w) hv hne Hcn.out.blk.1.lt
    rw [Hm.out]
    exact this
  · rw [show N.take c = ([], r, N) by simp [NS.take, hr0, he]]
    rw [if_neg he] at hg
    clear hr0
    go_enter Try.func24, Try.ntmps24
    go_wp2_with fail
    refine hg.mono ?_
    rintro e w1 ⟨rfl, rfl⟩
    go_wp2
    go_ret2
    exact ⟨_, rfl, σ, ⟨ks, h⟩, Chg.refl _ _ _, Row.nil _ _ _ _ _, by intro b hb; cases hb⟩

theorem put_put (N : NS) (c : Nat) (C D : Cn) : (N.put c C).put c D = N.put c D := by
  unfold NS.put
  congr 1
  funext d
  by_cases h : d = c <;> simp [h]
theorem own_cap {w : World} {B e sz n c : Nat} {A : Option Addr} {xs : List Value} (h : w.ownsRow B e sz (.slice A n c) n xs) : n ≤ c := by
  rcases h.2 with ⟨e, h0⟩ | ⟨g, cap, cur, e, _, _, hc, _⟩
  · cases e; omega
  · cases e; exact hc
theorem bring_keep {w w3 : World} {kb : Nat} {v0 v1 v2 v3 u : Value} {i o : Int} {a b : Bool} {row : Option Nat} (hb : Blk w kb 81 (cnCells v0 v1 v2 v3 i o a b)) (hg : w.drew.grownBy w3 row) (hne : row ≠ some kb) :
    (w3.setCell ⟨kb, 2, none⟩ u).cell? ⟨kb, 0, none⟩ = some v0 := by
  have h3 : Blk w3 kb 81 (cnCells v0 v1 v2 v3 i o a b) := (hg.block kb hb.lt (Ne.symm hne)).trans hb
  exact ((h3.set_ 2 u).cell 0).trans rfl

/-- What Bring tells and leaves. -/
def NS.brings (N : NS) (C : Cn) (most : Int) : Nat := fit N.i C.inb.length (min most.toNat C.way.length)
def NS.bring (N : NS) (c most : Int) : Int × Int × NS :=
  if err N c false = 0 then
    match N.cs c.toNat with
    | none => (0, 44, N)
    | some C => (((N.brings C most : Nat) : Int), 0, { N.put c.toNat { C with inb := C.inb ++ C.way.take (N.brings C most), way := C.way.drop (N.brings C most) } with mv := N.mv + ((N.brings C most : Nat) : Int) })
  else (0, err N c false, N)

set_option maxRecDepth 100000 in
set_option maxHeartbeats 3200000 in
theorem bring_c (w : World) (σ : Nat → Nat) (t g : Nat) (N : NS) (h : NetAt w σ t g N) (hmv : N.mv ≤ 1099511627776) (c most : Int) (hw : (Lit.int .i64 c).wf = true) :
    Calls Try.prog 16 #[.pointer (some ⟨g, 0, none⟩), .int .i64 c, .int .i64 most] w fun e w' => e = .returned (.tuple #[.int .i64 (N.bring c most).1, .int .i64 (N.bring c most).2.1]) ∧ ∃ σ', NetAt w' σ' t g (N.bring c most).2.2 ∧ Chg (Of t) σ w σ' w' := by
  obtain ⟨ks, h⟩ := h
  obtain ⟨r, hr0⟩ : ∃ r, err N c false = r := ⟨_, rfl⟩
  have hg := get_c w σ t g N ks h c hw r hr0 _ rfl
  by_cases he : r = 0
  · subst he
    obtain ⟨d, C, rfl, hC⟩ : ∃ d C, c = (d : Nat) ∧ N.cs d = some C := by
      rcases err_false N c with ⟨h1, _⟩ | ⟨h1, _⟩ | ⟨_, h2, _, C, h3⟩
      · omega
      · omega
      · exact ⟨c.toNat, C, by omega, h3⟩
    simp only [if_true, Int.toNat_natCast] at hg
    have hs : N.bring (d : Int) most = (((N.brings C most : Nat) : Int), 0, { N.put d { C with inb := C.inb ++ C.way.take (N.brings C most), way := C.way.drop (N.brings C most) } with mv := N.mv + ((N.brings C most : Nat) : Int) }) := by
      simp only [NS.bring, hr0, if_true, Int.toNat_natCast, hC]
    rw [hs]
    obtain ⟨A0, c0, A1, c1, A2, c2, A3, c3, hcn⟩ := h.conn hC
    have hc0 := hcn.c0
    have hc2 := hcn.c2
    have hc3 := hcn.c3
    have hf0 := hcn.blk.1.frozen 0
    have hf2 := hcn.blk.1.frozen 2
    have hcm := h.cellm
    have hfm := h.blk.1.frozen 67
    have hwl := h.good.way d C hC
    have hil := h.good.inb d C hC
    have hi2 := h.good.i2
    have hi1 := h.good.i1
    have hm0 := h.good.m0
    have hcap : C.way.length ≤ c0 := own_cap hcn.way.1
    obtain ⟨kb, hkb⟩ : ∃ kb, ks d = kb := ⟨_, rfl⟩
    rw [hkb] at hg hc0 hc2 hc3 hf0 hf2
    obtain ⟨m, hm⟩ : ∃ m, C.inb.length = m := ⟨_, rfl⟩
    obtain ⟨l, hl⟩ : ∃ l, C.way.length = l := ⟨_, rfl⟩
    obtain ⟨n, hn⟩ : ∃ n, min most.toNat l = n := ⟨_, rfl⟩
    obtain ⟨j, hj⟩ : ∃ j, fit N.i m n = j := ⟨_, rfl⟩
    have hbr : N.brings C most = j := by unfold NS.brings; rw [hm, hl, hn, hj]
    rw [hbr]
    have hmax : max 0 (min most (l : Int)) = (n : Int) := by omega
    have hjn : j ≤ n := by rw [← hj]; exact fit_le _ _ _
    have hnl : n ≤ l := by omega
    have n1 : (0 : Int) ≤ (n : Int) := by omega
    have n2 : (n : Int) ≤ (c0 : Int) := by omega
    have n3 : (n : Int).toNat = n := by omega
    have Hc := Lib.hid hcn
    have Hm := Lib.hid hm
    have Hl := Lib.hid hl
    have Hj := Lib.hid hj
    rw [hm] at hc2 hil
    rw [hl] at hc0 hwl hcap
    have H := Lib.hid h
    have HC := Lib.hid hC
    have Hkb := Lib.hid hkb
    have hms : IntKind.i64.wrap (N.mv + (j : Int)) = N.mv + (j : Int) := by rw [IntKind.wrap_i64]; omega
    have Hms := Lib.hid hms
    clear hcn hm hl hn hj h hC hs hr0 hkb hbr hms
    have hcn := Hc.out
    rw [Hm.out, Hl.out, Hkb.out] at hcn
    have Hcn := Lib.hid hcn
    have hrow0 : w.ownsRow 0 5 1 (.slice A0 l c0) l (bs C.way) := by have := hcn.way.1; rw [Hl.out] at this; exact this
    have hrow : w.ownsRow 0 5 1 (.slice A1 m c1) m (bs C.inb) := by have := hcn.inb.1; rw [Hm.out] at this; exact this
    have Hrow := Lib.hid hrow
    have Hrow0 := Lib.hid hrow0
    clear hcn hrow hrow0
    have hrd : Reads w A0 (bs (C.way.take n)) := by rw [bs_take]; exact (Reads.of_row Hrow0.out).take n
    have Hrd := Lib.hid hrd
    have hln : (C.way.take n).length = n := by rw [List.length_take, Hl.out]; omega
    have Hln := Lib.hid hln
    clear hrd hln
    go_enter Try.func16, Try.ntmps16
    go_wp2_with fail
    refine hg.mono ?_
    rintro e w1 ⟨rfl, rfl⟩
    go_wp2_with fail
    go_region_held3 (fun w' => w'.cell? ⟨kb, 0, none⟩ = some (.slice A0 l c0)) (first | go_keep | exact bring_keep Hcn.out.blk.1 hgrow Hcn.out.nk.2.1) ((go_at_call 39; refine (lay_c w.drew 0 kb 2 _ C.inb m Hm.out N.i hc2 hf2 hc3 Hrow.out (Nat.zero_le _) Hcn.out.nk.2.1 A0 n c0 (C.way.take n) Hln.out (by omega) Hrd.out (by omega) (by omega) (.inr hil) (by omega) j Hj.out).mono ?_; rintro e w2 ⟨rfl, v', w3, hown, hgrow, hat, rfl⟩))
    have htk : (C.way.take n).take j = C.way.take j := by rw [List.take_take, Nat.min_eq_left hjn]
    rw [htk] at hown
    have hlj : (C.inb ++ C.way.take j).length = m + j := by rw [List.length_append, Hm.out, List.length_take, Hl.out]; omega
    have hx := Hcn.out.inb_ (R := C.inb ++ C.way.take j) (w1 := w3) ⟨hgrow.os, hgrow.tape, hgrow.output, hgrow.size, hgrow.block⟩ (by rw [hlj]; exact hown) (hat_of (w := w) hat)
    have H1 := H.out.put HC.out hx.2 (by rw [Hkb.out]; exact hx.1) (by have := H.out.good.way _ _ HC.out; exact this) (by show ((C.inb ++ C.way.take j).length : Int) ≤ _; rw [hlj, ← Hj.out]; exact fit_room hil) (by have := H.out.good.out _ _ HC.out; exact this) (by have := H.out.good.heard _ _ HC.out; exact this)
    obtain ⟨σ1, hσ1⟩ : ∃ s, s = mark1 σ w.heap.size v' (t + 5 * d + 1) := ⟨_, rfl⟩
    rw [← hσ1] at hx H1
    generalize w3.setCell ⟨kb, 2, none⟩ v' = w4 at hx H1 ⊢
    have Hx := Lib.hid hx
    have H1' := Lib.hid H1
    clear hx H1 hown hgrow hat hσ1 htk hc0 hc2 hc3 hf0 hf2 hcm hfm Hrd Hrow
    have hd0 := Hx.out.1.c0
    have hfd := Hx.out.1.blk.1.frozen 0
    have hro : w4.ownsRow 0 5 1 (.slice A0 l c0) l (bs C.way) := by have := Hx.out.1.way.1; rw [show ({ C with inb := C.inb ++ C.way.take j } : Cn).way = C.way from rfl, Hl.out] at this; exact this
    have Hro := Lib.hid hro
    clear hro
    go_wp2_with fail
    refine (take_c w4 0 kb 0 _ C.way l Hl.out hd0 hfd Hro.out (by omega) j (by omega)).mono ?_
    rintro e w5 ⟨v, v2, w5, rfl, hb5, -, hv2, -, rfl⟩
    have hlj2 : (C.way.drop j).length = l - j := by rw [List.length_drop, Hl.out]
    have hx2 := Hx.out.1.way_ (R := C.way.drop j) (grown_none hb5 _) (by rw [hlj2]; exact own_mono hv2 (Nat.zero_le _)) (.inr fun b hb => (hv2.lt b hb).1)
    have H2 := H1'.out.put (NS.put_same _ _ _) hx2.2 (by rw [Hkb.out]; exact hx2.1) (by show (C.way.drop j).length ≤ _; rw [hlj2]; omega) (by show ((C.inb ++ C.way.take j).length : Int) ≤ N.i; rw [hlj, ← Hj.out]; exact fit_room hil) (by have := H.out.good.out _ _ HC.out; exact this) (by have := H.out.good.heard _ _ HC.out; exact this)
    rw [put_put] at H2
    obtain ⟨σ2, hσ2⟩ : ∃ s, s = mark1 σ1 w4.heap.size v2 (t + 5 * d + 0) := ⟨_, rfl⟩
    rw [← hσ2] at hx2 H2
    generalize w5.setCell ⟨kb, 0, none⟩ v2 = w6 at hx2 H2 ⊢
    have hcm := H2.cellm
    have hfm := H2.blk.1.frozen 67
    have Hx2 := Lib.hid hx2
    have H2' := Lib.hid H2
    clear hx2 H2 hv2 hb5 hσ2 hd0 hfd Hro
    go_wp2_with fail
    refine (add_c w6 ⟨g, 67, none⟩ N.mv (j : Int) hcm hfm Hms.out).mono ?_
    rintro e w7 ⟨rfl, rfl⟩
    go_wp2
    go_ret2
    have hc64 := (H.out.good.is _ _ HC.out).2
    refine ⟨rfl, σ2, ⟨ks, H2'.out.moved (N.mv + (j : Int)) (by show N.mv ≤ _; omega)⟩, ?_⟩
    exact (((Hx.out.2.mono (of5_of hc64)).trans (Hx2.out.2.mono (of5_of hc64))).setCell (.inl (by show Of t (σ2 g); rw [H2'.out.blk.2]; unfold Of; omega)) _)
  · rw [show N.bring c most = (0, r, N) by simp [NS.bring, hr0, he]]
    rw [if_neg he] at hg
    clear hr0
    go_enter Try.func16, Try.ntmps16
    go_wp2_with fail
    refine hg.mono ?_
    rintro e w1 ⟨rfl, rfl⟩
    go_wp2
    go_ret2
    exact ⟨rfl, σ, ⟨ks, h⟩, Chg.refl _ _ _⟩
end Go.Proofs.Ytalabfbnbiagiaa.C
