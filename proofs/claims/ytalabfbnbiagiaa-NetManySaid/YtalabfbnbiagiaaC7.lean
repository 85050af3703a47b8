/-
  What a net's calls do: Close, Cut, Heard, Is, Under, Moved.
-/
import Derived.Test.YtalabfbnbiagiaaC6
set_option linter.unusedVariables false
set_option linter.unusedSimpArgs false
namespace Go.Proofs.Ytalabfbnbiagiaa.C
open Go.RowKit Go.Proofs.Ytalabfbnbiagiaa.K

theorem ok_true {N : NS} {c : Int} (hr0 : err N c true = 0) : ∃ (d : Nat) (C : Cn), c = (d : Nat) ∧ N.cs d = some C ∧ C.cut = false ∧ C.closed = false := by
  rcases err_true N c with ⟨h1, _⟩ | h1 | ⟨_, h2, _, C, h3, h4⟩
  · omega
  · omega
  · exact ⟨c.toNat, C, by omega, h3, h4⟩
theorem ok_false {N : NS} {c : Int} (hr0 : err N c false = 0) : ∃ (d : Nat) (C : Cn), c = (d : Nat) ∧ N.cs d = some C := by
  rcases err_false N c with ⟨h1, _⟩ | ⟨h1, _⟩ | ⟨_, h2, _, C, h3⟩
  · omega
  · omega
  · exact ⟨c.toNat, C, by omega, h3⟩

def NS.close (N : NS) (c : Int) : Int × NS :=
  if err N c true = 0 then
    match N.cs c.toNat with
    | none => (44, N)
    | some C => (0, N.put c.toNat { C with closed := true, way := [], inb := [] })
  else (err N c true, N)
def NS.cut_ (N : NS) (c : Int) : Int × NS :=
  if err N c false = 0 then
    match N.cs c.toNat with
    | none => (44, N)
    | some C => if C.cut then (44, N) else (0, N.put c.toNat { C with cut := true, way := [], inb := [], out := [] })
  else (err N c false, N)

section
variable {w : World} {σ : Nat → Nat} {t k : Nat} {i o : Int} {C : Cn} {v0 v1 v2 v3 : Value}
theorem CnAt.closes (h : CnAt w σ t k i o C v0 v1 v2 v3) :
    CnAt (((w.setCell ⟨k, 7, none⟩ (.bool true)).setCell ⟨k, 0, none⟩ (.slice none 0 0)).setCell ⟨k, 2, none⟩ (.slice none 0 0)) σ t k i o { C with closed := true, way := [], inb := [] } (.slice none 0 0) (.slice none 0 0) v2 v3 ∧
      Chg (Of5 t) σ w σ (((w.setCell ⟨k, 7, none⟩ (.bool true)).setCell ⟨k, 0, none⟩ (.slice none 0 0)).setCell ⟨k, 2, none⟩ (.slice none 0 0)) := by
  have hk := h.blk.2
  have hne : ∀ j, j < 4 → σ k ≠ t + j := fun j hj => by omega
  have hs : Of5 t (σ k) := by rw [hk]; unfold Of5; omega
  refine ⟨⟨((h.blk.set_ 7 _).set_ 0 _).set_ 2 _, Row.nil _ _ _ _ _, Row.nil _ _ _ _ _, ((h.out.set_ (p := ⟨k, 7, none⟩) (hne 2 (by omega)) _).set_ (p := ⟨k, 0, none⟩) (hne 2 (by omega)) _).set_ (p := ⟨k, 2, none⟩) (hne 2 (by omega)) _,
    ((h.heard.set_ (p := ⟨k, 7, none⟩) (hne 3 (by omega)) _).set_ (p := ⟨k, 0, none⟩) (hne 3 (by omega)) _).set_ (p := ⟨k, 2, none⟩) (hne 3 (by omega)) _⟩, ?_⟩
  exact (((Chg.refl _ σ w).setCell (.inl hs) _).setCell (.inl hs) _).setCell (.inl hs) _
theorem CnAt.cuts (h : CnAt w σ t k i o C v0 v1 v2 v3) :
    CnAt ((((w.setCell ⟨k, 8, none⟩ (.bool true)).setCell ⟨k, 0, none⟩ (.slice none 0 0)).setCell ⟨k, 2, none⟩ (.slice none 0 0)).setCell ⟨k, 4, none⟩ (.slice none 0 0)) σ t k i o { C with cut := true, way := [], inb := [], out := [] } (.slice none 0 0) (.slice none 0 0) (.slice none 0 0) v3 ∧
      Chg (Of5 t) σ w σ ((((w.setCell ⟨k, 8, none⟩ (.bool true)).setCell ⟨k, 0, none⟩ (.slice none 0 0)).setCell ⟨k, 2, none⟩ (.slice none 0 0)).setCell ⟨k, 4, none⟩ (.slice none 0 0)) := by
  have hk := h.blk.2
  have hne : ∀ j, j < 4 → σ k ≠ t + j := fun j hj => by omega
  have hs : Of5 t (σ k) := by rw [hk]; unfold Of5; omega
  refine ⟨⟨(((h.blk.set_ 8 _).set_ 0 _).set_ 2 _).set_ 4 _, Row.nil _ _ _ _ _, Row.nil _ _ _ _ _, Row.nil _ _ _ _ _,
    (((h.heard.set_ (p := ⟨k, 8, none⟩) (hne 3 (by omega)) _).set_ (p := ⟨k, 0, none⟩) (hne 3 (by omega)) _).set_ (p := ⟨k, 2, none⟩) (hne 3 (by omega)) _).set_ (p := ⟨k, 4, none⟩) (hne 3 (by omega)) _⟩, ?_⟩
  exact ((((Chg.refl _ σ w).setCell (.inl hs) _).setCell (.inl hs) _).setCell (.inl hs) _).setCell (.inl hs) _
end

set_option maxRecDepth 100000 in
set_option maxHeartbeats 1600000 in
theorem close_c (w : World) (σ : Nat → Nat) (t g : Nat) (N : NS) (h : NetAt w σ t g N) (c : Int) (hw : (Lit.int .i64 c).wf = true) :
    Calls Try.prog 29 #[.pointer (some ⟨g, 0, none⟩), .int .i64 c] w fun e w' => e = .returned (.int .i64 (N.close c).1) ∧ ∃ σ', NetAt w' σ' t g (N.close c).2 ∧ Chg (Of t) σ w σ' w' := by
  obtain ⟨ks, h⟩ := h
  obtain ⟨r, hr0⟩ : ∃ r, err N c true = r := ⟨_, rfl⟩
  have hg := live_c w σ t g N ks h c hw r hr0 _ rfl
  by_cases he : r = 0
  · subst he
    obtain ⟨d, C, rfl, hC, -, -⟩ := ok_true hr0
    simp only [if_true, Int.toNat_natCast] at hg
    rw [show N.close (d : Int) = (0, N.put d { C with closed := true, way := [], inb := [] }) by simp only [NS.close, hr0, if_true, Int.toNat_natCast, hC]]
    obtain ⟨A0, c0, A1, c1, A2, c2, A3, c3, hcn⟩ := h.conn hC
    obtain ⟨kb, hkb⟩ : ∃ kb, ks d = kb := ⟨_, rfl⟩
    rw [hkb] at hg hcn
    have q0 := hcn.c0
    have q2 := hcn.c2
    have q7 := hcn.c7
    have f0 := hcn.blk.1.frozen 0
    have f2 := hcn.blk.1.frozen 2
    have f7 := hcn.blk.1.frozen 7
    have Hcn := Lib.hid hcn
    have H := Lib.hid h
    have HC := Lib.hid hC
    have Hkb := Lib.hid hkb
    clear hcn h hC hr0 hkb
    go_enter Try.func29, Try.ntmps29
    go_wp2_with fail
    refine hg.mono ?_
    rintro e w1 ⟨rfl, rfl⟩
    go_wp2
    go_ret
    have hx := Hcn.out.closes
    have h64 := H.out.good.is _ _ HC.out
    have hi1 := H.out.good.i1
    exact ⟨rfl, σ, ⟨ks, H.out.put HC.out hx.2 (by rw [Hkb.out]; exact hx.1) (by show (0 : Nat) ≤ _; omega) (by show ((0 : Nat) : Int) ≤ _; omega) (by have := H.out.good.out _ _ HC.out; exact this) (by have := H.out.good.heard _ _ HC.out; exact this)⟩, hx.2.mono (of5_of h64.2)⟩
  · rw [show N.close c = (r, N) by simp [NS.close, hr0, he]]
    rw [if_neg he] at hg
    clear hr0
    go_enter Try.func29, Try.ntmps29
    go_wp2_with fail
    refine hg.mono ?_
    rintro e w1 ⟨rfl, rfl⟩
    go_wp2
    go_ret
    exact ⟨rfl, σ, ⟨ks, h⟩, Chg.refl _ _ _⟩

set_option maxRecDepth 100000 in
set_option maxHeartbeats 1600000 in
theorem cut_c (w : World) (σ : Nat → Nat) (t g : Nat) (N : NS) (h : NetAt w σ t g N) (c : Int) (hw : (Lit.int .i64 c).wf = true) :
    Calls Try.prog 30 #[.pointer (some ⟨g, 0, none⟩), .int .i64 c] w fun e w' => e = .returned (.int .i64 (N.cut_ c).1) ∧ ∃ σ', NetAt w' σ' t g (N.cut_ c).2 ∧ Chg (Of t) σ w σ' w' := by
  obtain ⟨ks, h⟩ := h
  obtain ⟨r, hr0⟩ : ∃ r, err N c false = r := ⟨_, rfl⟩
  have hg := get_c w σ t g N ks h c hw r hr0 _ rfl
  by_cases he : r = 0
  · subst he
    obtain ⟨d, C, rfl, hC⟩ := ok_false hr0
    simp only [if_true, Int.toNat_natCast] at hg
    have hs : N.cut_ (d : Int) = if C.cut then (44, N) else (0, N.put d { C with cut := true, way := [], inb := [], out := [] }) := by simp only [NS.cut_, hr0, if_true, Int.toNat_natCast, hC]
    obtain ⟨A0, c0, A1, c1, A2, c2, A3, c3, hcn⟩ := h.conn hC
    obtain ⟨kb, hkb⟩ : ∃ kb, ks d = kb := ⟨_, rfl⟩
    rw [hkb] at hg hcn
    have q0 := hcn.c0
    have q2 := hcn.c2
    have q4 := hcn.c4
    have q8 := hcn.c8
    have f0 := hcn.blk.1.frozen 0
    have f2 := hcn.blk.1.frozen 2
    have f4 := hcn.blk.1.frozen 4
    have f8 := hcn.blk.1.frozen 8
    have Hcn := Lib.hid hcn
    have H := Lib.hid h
    have HC := Lib.hid hC
    have Hkb := Lib.hid hkb
    rw [hs]
    clear hcn h hC hr0 hkb hs
    rcases hcut : C.cut with _ | _
    · rw [hcut] at q8
      simp only [Bool.false_eq_true, if_false]
      clear hcut
      go_enter Try.func30, Try.ntmps30
      go_wp2_with fail
      refine hg.mono ?_
      rintro e w1 ⟨rfl, rfl⟩
      go_wp2
      go_ret
      have hx := Hcn.out.cuts
      have h64 := H.out.good.is _ _ HC.out
      have hi1 := H.out.good.i1
      have ho1 := H.out.good.o1
      exact ⟨rfl, σ, ⟨ks, H.out.put HC.out hx.2 (by rw [Hkb.out]; exact hx.1) (by show (0 : Nat) ≤ _; omega) (by show ((0 : Nat) : Int) ≤ _; omega) (by show ((0 : Nat) : Int) ≤ _; omega) (by have := H.out.good.heard _ _ HC.out; exact this)⟩, hx.2.mono (of5_of h64.2)⟩
    · rw [hcut] at q8
      simp only [if_true]
      clear hcut
      go_enter Try.func30, Try.ntmps30
      go_wp2_with fail
      refine hg.mono ?_
      rintro e w1 ⟨rfl, rfl⟩
      go_wp2
      go_ret
      exact ⟨rfl, σ, ⟨ks, H.out⟩, Chg.refl _ _ _⟩
  · rw [show N.cut_ c = (r, N) by simp [NS.cut_, hr0, he]]
    rw [if_neg he] at hg
    clear hr0
    go_enter Try.func30, Try.ntmps30
    go_wp2_with fail
    refine hg.mono ?_
    rintro e w1 ⟨rfl, rfl⟩
    go_wp2
    go_ret
    exact ⟨rfl, σ, ⟨ks, h⟩, Chg.refl _ _ _⟩

def NS.is_ (N : NS) (c : Int) : Bool × Bool :=
  if err N c false = 0 then
    match N.cs c.toNat with
    | none => (false, false)
    | some C => (!C.cut && !C.closed, C.cut)
  else (false, false)
def NS.heard_ (N : NS) (c : Int) : List Int × Bool :=
  if err N c false = 0 then
    match N.cs c.toNat with
    | none => ([], false)
    | some C => (C.heard, C.cut || (C.closed && decide (C.out.length = 0)))
  else ([], false)
def NS.under (N : NS) (c : Int) : Int × Int :=
  if err N c false = 0 then
    match N.cs c.toNat with
    | none => (0, 0)
    | some C => ((C.way.length : Int) + (C.inb.length : Int), (C.out.length : Int))
  else (0, 0)

theorem moved_c (w : World) (σ : Nat → Nat) (t g : Nat) (N : NS) (h : NetAt w σ t g N) :
    Calls Try.prog 18 #[.pointer (some ⟨g, 0, none⟩)] w fun e w' => e = .returned (.int .i64 N.mv) ∧ w = w' := by
  obtain ⟨ks, h⟩ := h
  have hc := h.cellm
  clear h
  go_enter Try.func18, Try.ntmps18
  go_wp2_with fail
  refine (load_c w ⟨g, 67, none⟩ _ hc).mono ?_
  rintro e w1 ⟨rfl, rfl⟩
  go_wp2
  go_ret
  exact ⟨rfl, rfl⟩

set_option maxRecDepth 100000 in
set_option maxHeartbeats 1600000 in
theorem is_c (w : World) (σ : Nat → Nat) (t g : Nat) (N : NS) (h : NetAt w σ t g N) (c : Int) (hw : (Lit.int .i64 c).wf = true) :
    Calls Try.prog 35 #[.pointer (some ⟨g, 0, none⟩), .int .i64 c] w fun e w' => e = .returned (.tuple #[.bool (N.is_ c).1, .bool (N.is_ c).2]) ∧ ∃ n, w' = w.drewN n := by
  obtain ⟨ks, h⟩ := h
  obtain ⟨r, hr0⟩ : ∃ r, err N c false = r := ⟨_, rfl⟩
  have hg := get_c w σ t g N ks h c hw r hr0 _ rfl
  by_cases he : r = 0
  · subst he
    obtain ⟨d, C, rfl, hC⟩ := ok_false hr0
    simp only [if_true, Int.toNat_natCast] at hg
    rw [show N.is_ (d : Int) = (!C.cut && !C.closed, C.cut) by simp only [NS.is_, hr0, if_true, Int.toNat_natCast, hC]]
    obtain ⟨A0, c0, A1, c1, A2, c2, A3, c3, hcn⟩ := h.conn hC
    obtain ⟨kb, hkb⟩ : ∃ kb, ks d = kb := ⟨_, rfl⟩
    rw [hkb] at hg hcn
    have q7 := hcn.c7
    have q8 := hcn.c8
    clear hcn h hC hr0 hkb
    rcases hx : C.cut with _ | _ <;> rcases hy : C.closed with _ | _ <;> rw [hx] at q8 <;> rw [hy] at q7 <;> clear hx hy
    all_goals
      go_enter Try.func35, Try.ntmps35
      go_wp2_with fail
      refine hg.mono ?_
      rintro e w1 ⟨rfl, rfl⟩
      go_wp2_with fail
      go_region
      go_wp2
      go_ret2
      exact ⟨rfl, 1, rfl⟩
  · rw [show N.is_ c = (false, false) by simp [NS.is_, hr0, he]]
    rw [if_neg he] at hg
    clear hr0
    go_enter Try.func35, Try.ntmps35
    go_wp2_with fail
    refine hg.mono ?_
    rintro e w1 ⟨rfl, rfl⟩
    go_wp2
    go_ret2
    exact ⟨rfl, 0, rfl⟩

set_option maxRecDepth 100000 in
theorem under_c (w : World) (σ : Nat → Nat) (t k : Nat) (i o : Int) (C : Cn) (v0 v1 v2 v3 : Value) (h : CnAt w σ t k i o C v0 v1 v2 v3) (a b : Nat) (ha : C.way.length = a) (hb : C.inb.length = b) (hal : a ≤ 1048576) (hbl : b ≤ 1048576) :
    Calls Try.prog 42 #[.pointer (some ⟨k, 0, none⟩)] w fun e w' => e = .returned (.int .i64 ((a : Int) + (b : Int))) ∧ ∃ n, w' = w.drewN n := by
  obtain ⟨A0, c0, rfl⟩ := h.way.slice
  obtain ⟨A1, c1, rfl⟩ := h.inb.slice
  have q0 := h.c0
  have q2 := h.c2
  rw [ha] at q0
  rw [hb] at q2
  have hw : IntKind.i64.wrap ((a : Int) + (b : Int)) = (a : Int) + (b : Int) := by rw [IntKind.wrap_i64]; omega
  clear h ha hb
  go_enter Try.func42, Try.ntmps42
  go_wp2_with fail
  go_region_held3 (fun w' => w'.cell? ⟨k, 0, none⟩ = some (.slice A0 a c0) ∧ w'.cell? ⟨k, 2, none⟩ = some (.slice A1 b c1)) (go_keep) (fail)
  go_wp2
  go_ret
  exact ⟨by first | rfl | rw [hw], 1, rfl⟩

theorem CnAt.drew {w : World} {σ : Nat → Nat} {t k : Nat} {i o : Int} {C : Cn} {v0 v1 v2 v3 : Value} (h : CnAt w σ t k i o C v0 v1 v2 v3) : CnAt w.drew σ t k i o C v0 v1 v2 v3 :=
  h.chg (Chg.of_below (fun _ => False) σ (below_drewN (Below.refl _ _) 1)) (fun _ _ h => h)

set_option maxRecDepth 100000 in
set_option maxHeartbeats 1600000 in
theorem under_n (w : World) (σ : Nat → Nat) (t g : Nat) (N : NS) (h : NetAt w σ t g N) (c : Int) (hw : (Lit.int .i64 c).wf = true) :
    Calls Try.prog 17 #[.pointer (some ⟨g, 0, none⟩), .int .i64 c] w fun e w' => e = .returned (.tuple #[.int .i64 (N.under c).1, .int .i64 (N.under c).2]) ∧ ∃ n, w' = w.drewN n := by
  obtain ⟨ks, h⟩ := h
  obtain ⟨r, hr0⟩ : ∃ r, err N c false = r := ⟨_, rfl⟩
  have hg := get_c w σ t g N ks h c hw r hr0 _ rfl
  by_cases he : r = 0
  · subst he
    obtain ⟨d, C, rfl, hC⟩ := ok_false hr0
    simp only [if_true, Int.toNat_natCast] at hg
    rw [show N.under (d : Int) = ((C.way.length : Int) + (C.inb.length : Int), (C.out.length : Int)) by simp only [NS.under, hr0, if_true, Int.toNat_natCast, hC]]
    obtain ⟨A0, c0, A1, c1, A2, c2, A3, c3, hcn⟩ := h.conn hC
    obtain ⟨kb, hkb⟩ : ∃ kb, ks d = kb := ⟨_, rfl⟩
    rw [hkb] at hg hcn
    have q4 := hcn.c4
    have hi2 := h.good.i2
    have hal := h.good.way _ _ hC
    have hbl := h.good.inb _ _ hC
    have hu := under_c w.drew σ _ kb _ _ C _ _ _ _ hcn.drew _ _ rfl rfl hal (by omega)
    have hlt := hcn.blk.1.lt
    generalize C.way.length = a at *
    generalize C.inb.length = b at *
    generalize C.out.length = m at *
    clear hcn h hC hr0 hkb hal hbl
    have Hu := Lib.hid hu
    clear hu
    go_enter Try.func17, Try.ntmps17
    go_wp2_with fail
    refine hg.mono ?_
    rintro e w1 ⟨rfl, rfl⟩
    go_wp2_with fail
    go_region_held3 (fun w' => w'.cell? ⟨kb, 4, none⟩ = some (.slice A2 m c2)) (go_keep) ((go_at_call 42; refine Hu.out.mono ?_; rintro e w2 ⟨rfl, nq, rfl⟩))
    go_wp2
    go_ret2
    exact ⟨rfl, 1 + nq, by first | rfl | (simp [World.drewN, World.drew, Nat.add_assoc]; done) | (rw [← World.drewN_add]; rfl)⟩
  · rw [show N.under c = (0, 0) by simp [NS.under, hr0, he]]
    rw [if_neg he] at hg
    clear hr0
    go_enter Try.func17, Try.ntmps17
    go_wp2_with fail
    refine hg.mono ?_
    rintro e w1 ⟨rfl, rfl⟩
    go_wp2
    go_ret2
    exact ⟨rfl, 0, rfl⟩
end Go.Proofs.Ytalabfbnbiagiaa.C
