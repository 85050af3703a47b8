/-
  What a net's calls do: Fetch, Close, Cut, Heard, Is, Under, Moved.
-/
import Derived.Test.YtalabfbnbiagiaaC5
set_option linter.unusedVariables false
set_option linter.unusedSimpArgs false
namespace Go.Proofs.Ytalabfbnbiagiaa.C
open Go.RowKit Go.Proofs.Ytalabfbnbiagiaa.K

theorem mv_cells (N : NS) (ks : Nat → Nat) (m : Int) : (netCells N ks).toArray.setIfInBounds 67 (.int .i64 m) = (netCells { N with mv := m } ks).toArray := by
  simp only [netCells, List.setIfInBounds_toArray]
  congr 1

theorem NetIn.putMv {w w' : World} {σ σ' : Nat → Nat} {t g c : Nat} {N : NS} {ks : Nat → Nat} {C C' : Cn} {v0 v1 v2 v3 : Value} (h : NetIn w σ t g N ks) (hC : N.cs c = some C) (hch : Chg (Of5 (t + 5 * c)) σ w σ' w') (hc : CnAt w' σ' (t + 5 * c) (ks c) N.i N.o C' v0 v1 v2 v3)
    (g1 : C'.way.length ≤ 1048576) (g2 : (C'.inb.length : Int) ≤ N.i) (g3 : (C'.out.length : Int) ≤ N.o) (m : Int) (hm : N.mv ≤ m) (g4 : (C'.heard.length : Int) ≤ m) : NetIn (w'.setCell ⟨g, 67, none⟩ (.int .i64 m)) σ' t g { N.put c C' with mv := m } ks := by
  have hc1 := h.good.is c C hC
  have hb := h.blk.chg hch (by unfold Of5; omega)
  have hg := hb.2
  refine ⟨⟨h.good.i1, h.good.i2, h.good.o1, h.good.o2, Int.le_trans h.good.m0 hm, ?_, ?_, ?_, ?_, ?_⟩, ?_, ?_⟩
  case refine_6 =>
    have := hb.set_ 67 (.int .i64 m)
    rw [mv_cells, ← put_cells (C' := C') (show ({ N with mv := m } : NS).cs c = some C from hC)] at this
    exact this
  case refine_7 =>
    intro d D hd
    by_cases hdc : d = c
    · subst hdc
      rw [show ({ N.put d C' with mv := m } : NS).cs d = some C' from NS.put_same _ _ _] at hd
      obtain rfl := Option.some.inj hd
      have hne : ∀ j, j < 5 → σ' (⟨g, 67, none⟩ : Addr).block ≠ t + 5 * d + j := fun j hj => by show σ' g ≠ _; omega
      exact ⟨_, _, _, _, hc.blk.far (hne 4 (by omega)) _, hc.way.set_ (hne 0 (by omega)) _, hc.inb.set_ (hne 1 (by omega)) _, hc.out.set_ (hne 2 (by omega)) _, hc.heard.set_ (hne 3 (by omega)) _⟩
    · rw [show ({ N.put c C' with mv := m } : NS).cs d = N.cs d from NS.put_other _ _ _ _ hdc] at hd
      obtain ⟨u0, u1, u2, u3, hd1⟩ := h.conns d D hd
      have hd2 := h.good.is d D hd
      have hd' := hd1.chg hch fun j hj => by unfold Of5; omega
      have hne : ∀ j, j < 5 → σ' (⟨g, 67, none⟩ : Addr).block ≠ t + 5 * d + j := fun j hj => by show σ' g ≠ _; omega
      exact ⟨u0, u1, u2, u3, hd'.blk.far (hne 4 (by omega)) _, hd'.way.set_ (hne 0 (by omega)) _, hd'.inb.set_ (hne 1 (by omega)) _, hd'.out.set_ (hne 2 (by omega)) _, hd'.heard.set_ (hne 3 (by omega)) _⟩
  all_goals
    intro d D hd
    by_cases hdc : d = c
    · subst hdc
      rw [show ({ N.put d C' with mv := m } : NS).cs d = some C' from NS.put_same _ _ _] at hd
      obtain rfl := Option.some.inj hd
      first | exact hc1 | exact g1 | exact g2 | exact g3 | exact g4
    · rw [show ({ N.put c C' with mv := m } : NS).cs d = N.cs d from NS.put_other _ _ _ _ hdc] at hd
      first | exact h.good.is d D hd | exact h.good.way d D hd | exact h.good.inb d D hd | exact h.good.out d D hd | exact Int.le_trans (h.good.heard d D hd) hm

def fetches (C : Cn) (most : Int) : Nat := min most.toNat C.out.length
def NS.fetch (N : NS) (c most : Int) : Int × Int × NS :=
  if err N c false = 0 then
    match N.cs c.toNat with
    | none => (0, 44, N)
    | some C => (((fetches C most : Nat) : Int), 0, { N.put c.toNat { C with heard := C.heard ++ C.out.take (fetches C most), out := C.out.drop (fetches C most) } with mv := N.mv + ((fetches C most : Nat) : Int) })
  else (0, err N c false, N)

set_option maxRecDepth 100000 in
set_option maxHeartbeats 3200000 in
theorem fetch_c (w : World) (σ : Nat → Nat) (t g : Nat) (N : NS) (h : NetAt w σ t g N) (hmv : N.mv ≤ 1099511627776) (c most : Int) (hw : (Lit.int .i64 c).wf = true) :
    Calls Try.prog 23 #[.pointer (some ⟨g, 0, none⟩), .int .i64 c, .int .i64 most] w fun e w' => e = .returned (.tuple #[.int .i64 (N.fetch c most).1, .int .i64 (N.fetch c most).2.1]) ∧ ∃ σ', NetAt w' σ' t g (N.fetch c most).2.2 ∧ Chg (Of t) σ w σ' w' := by
  obtain ⟨ks, h⟩ := h
  obtain ⟨r, hr0⟩ : ∃ r, err N c false = r := ⟨_, rfl⟩
  have hg := get_c w σ t g N ks h c hw r hr0 _ rfl
  by_cases he : r = 0
  · subst he
    obtain ⟨d, C, rfl, hC⟩ : ∃ d C, c = (d : Nat) ∧ N.cs d = some C := by
      rcases err_false N c with ⟨h1, _⟩ | ⟨h1, _⟩ | ⟨_, h2, _, C, h3⟩
      · omega
      · omega
      · exact ⟨c.toNat, C, by omega, h3⟩
    simp only [if_true, Int.toNat_natCast] at hg
    have hs : N.fetch (d : Int) most = (((fetches C most : Nat) : Int), 0, { N.put d { C with heard := C.heard ++ C.out.take (fetches C most), out := C.out.drop (fetches C most) } with mv := N.mv + ((fetches C most : Nat) : Int) }) := by
      simp only [NS.fetch, hr0, if_true, Int.toNat_natCast, hC]
    rw [hs]
    obtain ⟨A0, c0, A1, c1, A2, c2, A3, c3, hcn⟩ := h.conn hC
    have hc0 := hcn.c4
    have hf0 := hcn.blk.1.frozen 4
    have hwl := h.good.out d C hC
    have hhl := h.good.heard d C hC
    have ho2 := h.good.o2
    have hm0 := h.good.m0
    obtain ⟨kb, hkb⟩ : ∃ kb, ks d = kb := ⟨_, rfl⟩
    rw [hkb] at hg hc0 hf0
    obtain ⟨m, hm⟩ : ∃ m, C.out.length = m := ⟨_, rfl⟩
    obtain ⟨l, hl⟩ : ∃ l, C.heard.length = l := ⟨_, rfl⟩
    obtain ⟨j, hj⟩ : ∃ j, fetches C most = j := ⟨_, rfl⟩
    rw [hj]
    have hj0 : min most.toNat m = j := by rw [← hj, ← hm]; rfl
    have hmax : max 0 (min most (m : Int)) = (j : Int) := by omega
    have hjm : j ≤ m := by omega
    have Hc := Lib.hid hcn
    have Hm := Lib.hid hm
    have Hl := Lib.hid hl
    have Hj := Lib.hid hj
    rw [hm] at hc0 hwl
    rw [hl] at hhl
    have H := Lib.hid h
    have HC := Lib.hid hC
    have Hkb := Lib.hid hkb
    have hms : IntKind.i64.wrap (N.mv + (j : Int)) = N.mv + (j : Int) := by rw [IntKind.wrap_i64]; omega
    have Hms := Lib.hid hms
    clear hcn hm hl hj hj0 h hC hs hr0 hkb hms
    have hcn := Hc.out
    rw [Hm.out, Hl.out, Hkb.out] at hcn
    have Hcn := Lib.hid hcn
    have hrow : w.ownsRow 0 5 1 (.slice A2 m c2) m (bs C.out) := by have := hcn.out.1; rw [Hm.out] at this; exact this
    have Hrow := Lib.hid hrow
    clear hcn hrow
    go_enter Try.func23, Try.ntmps23
    go_wp2_with fail
    refine hg.mono ?_
    rintro e w1 ⟨rfl, rfl⟩
    go_wp2_with fail
    go_region_with ((go_at_call 40; refine (take_c w.drew 0 kb 4 _ C.out m Hm.out hc0 hf0 Hrow.out (by omega) j hjm).mono ?_; rintro e w2 ⟨v, v', w3, rfl, hb3, hv, hv', hne, rfl⟩))
    obtain ⟨V, cV, rfl⟩ := own_slice hv
    have hlj : (C.out.drop j).length = m - j := by rw [List.length_drop, Hm.out]
    have hlt : (C.out.take j).length = j := by rw [List.length_take, Hm.out]; omega
    have hx := Hcn.out.out_ (R := C.out.drop j) (grown_none (w := w) ⟨hb3.os, hb3.tape, hb3.output, hb3.size, hb3.block⟩ _) (by rw [hlj]; exact own_mono hv' (Nat.zero_le _)) (.inr fun b hb => (hv'.lt b hb).1)
    have ht := told_row (σ := σ) (p := ⟨kb, 4, none⟩) (u := v') (x := t + 5 * d + 2) (w := w) hv hne Hcn.out.blk.1.lt
    obtain ⟨σ1, hσ1⟩ : ∃ s, s = mark1 σ w.heap.size v' (t + 5 * d + 2) := ⟨_, rfl⟩
    rw [← hσ1] at hx ht
    generalize w3.setCell ⟨kb, 4, none⟩ v' = w4 at hx ht ⊢
    have Hx := Lib.hid hx
    have Ht := Lib.hid ht
    clear hx ht hv hv' hne hb3 hσ1 hc0 hf0
    obtain ⟨i0, hi, hz0, hz1, hz2⟩ := info_parts info5'
    have hd6 := Hx.out.1.c6
    have hf6 := Hx.out.1.blk.1.frozen 6
    have hlt6 := Hx.out.1.blk.1.lt
    go_wp2_with (at_builtin; refine wpList_append_reads (by rfl) _ _ 29 (by rfl) 0 5 i0 _ 1 1 Try.underlying29 hi hz0 hz1 hz2 rfl (by omega) (.slice A3 l c3) l (bs C.heard) (by rfl) ?c0 V j cV (bs (C.out.take j)) (by rfl) ?c1 ?c2 (bs_one _) ?c4 ?c5 (Nat.zero_le _) ?_)
    case c0 => have := Hx.out.1.heard.1; rw [show ({ C with out := C.out.drop j } : Cn).heard = C.heard from rfl, Hl.out] at this; exact this
    case c1 => rw [bs_length, hlt, Nat.mul_one]
    case c2 => exact Reads.of_row Ht.out.1
    case c4 => unfold maxLen; omega
    case c5 => omega
    intro v3' w5 hown5 hgrow5 hat5
    obtain ⟨V3, cV3, rfl⟩ := own_slice hown5
    have hc6 := (World.cell?_of_block (a := ⟨kb, 6, none⟩) (hgrow5.block kb hlt6 (Ne.symm Hx.out.1.nk.2.2.2))).trans hd6
    have hf6' := (World.frozen?_of_block (a := ⟨kb, 6, none⟩) (hgrow5.block kb hlt6 (Ne.symm Hx.out.1.nk.2.2.2))).trans hf6
    have hlh : (C.heard ++ C.out.take j).length = l + j := by rw [List.length_append, Hl.out, hlt]
    have hx2 := Hx.out.1.heard_ (R := C.heard ++ C.out.take j) hgrow5 (by rw [hlh, bs_append]; exact hown5) (hat_of hat5)
    have Hx2 := Lib.hid hx2
    clear hx2 hown5 hgrow5 hat5 hd6 hf6 hlt6
    have hc64 := (H.out.good.is _ _ HC.out).2
    have hch := Hx.out.2.trans Hx2.out.2
    have hgb := H.out.blk.chg hch (by unfold Of5; have := (H.out.good.is _ _ HC.out).1; omega)
    have hcm : (w5.setCell ⟨kb, 6, none⟩ (.slice V3 (l + j) cV3)).cell? ⟨g, 67, none⟩ = some (.int .i64 N.mv) := by
      rw [hgb.1.cell]
      simp only [netCells, List.getElem?_toArray]
      rw [List.getElem?_cons_succ, List.getElem?_cons_succ, List.getElem?_append_right (by simp)]
      simp
    have hfm := hgb.1.frozen 67
    have Hch := Lib.hid hch
    have Hgb := Lib.hid hgb
    clear hch hgb
    go_wp2_with fail
    refine (add_c _ ⟨g, 67, none⟩ N.mv (j : Int) hcm hfm Hms.out).mono ?_
    rintro e w7 ⟨rfl, rfl⟩
    go_wp2
    go_ret2
    refine ⟨rfl, _, ⟨ks, H.out.putMv HC.out Hch.out (by rw [Hkb.out]; exact Hx2.out.1) (by have := H.out.good.way _ _ HC.out; exact this) (by have := H.out.good.inb _ _ HC.out; exact this) (by show ((C.out.drop j).length : Int) ≤ _; rw [hlj]; omega) (N.mv + (j : Int)) (by omega) (by show ((C.heard ++ C.out.take j).length : Int) ≤ _; rw [hlh]; omega)⟩, ?_⟩
    exact ((Hch.out.mono (of5_of hc64)).setCell (.inl (by show Of t (_ : Nat); rw [Hgb.out.2]; unfold Of; omega)) _)
  · rw [show N.fetch c most = (0, r, N) by simp [NS.fetch, hr0, he]]
    rw [if_neg he] at hg
    clear hr0
    go_enter Try.func23, Try.ntmps23
    go_wp2_with fail
    refine hg.mono ?_
    rintro e w1 ⟨rfl, rfl⟩
    go_wp2
    go_ret2
    exact ⟨rfl, σ, ⟨ks, h⟩, Chg.refl _ _ _⟩
end Go.Proofs.Ytalabfbnbiagiaa.C
