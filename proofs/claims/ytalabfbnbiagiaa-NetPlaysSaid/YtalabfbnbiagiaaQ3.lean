/-
  The document's net: Open, Close, Cut.
-/
import Derived.Test.YtalabfbnbiagiaaQ2
set_option linter.unusedVariables false
set_option linter.unusedSimpArgs false
namespace Go.Proofs.Ytalabfbnbiagiaa.C
open Go.RowKit Go.Proofs.Ytalabfbnbiagiaa.K

/-- A connection told anew. -/
theorem RefIn.put_ {w w' : World} {σ σ' : Nat → Nat} {t g : Nat} {N : NS} {gl : Nat} {vv vv' : Nat → Nat → Value} (h : RefIn w σ t g N gl vv) {d : Nat} (hd : 1 ≤ d ∧ d ≤ 64) (D : Cn)
    (hrow : w'.rowIs gl 104 455 (lC (N.put d D) vv')) (hv : ∀ c, c ≠ d → vv' c = vv c) (c : Chg (fun x => x = t + 2) σ w σ' w')
    (r0 : Row w' σ' (t + 1) 5 1 (vv' d 0) D.way.length (bs D.way)) (r1 : Row w' σ' (t + 1) 5 1 (vv' d 1) D.inb.length (bs D.inb)) (r2 : Row w' σ' (t + 1) 5 1 (vv' d 2) D.out.length (bs D.out)) (r3 : Row w' σ' (t + 1) 5 1 (vv' d 3) D.heard.length (bs D.heard))
    (g0 : D.way.length ≤ 1048576) (g1 : (D.inb.length : Int) ≤ N.i) (g2 : (D.out.length : Int) ≤ N.o) (g3 : (D.heard.length : Int) ≤ N.mv) : RefIn w' σ' t g (N.put d D) gl vv' := by
  have hg := h.good
  have key : ∀ c' C', (N.put d D).cs c' = some C' → (c' = d ∧ C' = D) ∨ (c' ≠ d ∧ N.cs c' = some C') := fun c' C' hc => by
    by_cases e : c' = d
    · subst e
      rw [NS.put_same] at hc
      exact .inl ⟨rfl, (Option.some.inj hc).symm⟩
    · rw [NS.put_other _ _ _ _ e] at hc
      exact .inr ⟨e, hc⟩
  refine ⟨⟨hg.i1, hg.i2, hg.o1, hg.o2, hg.m0, fun c' C' hc => ?_, fun c' C' hc => ?_, fun c' C' hc => ?_, fun c' C' hc => ?_, fun c' C' hc => ?_⟩, h.blk.chg c (by omega), hrow, (c.marks _ h.row.lt).trans h.tl, fun c' C' hc => ?_, fun c' C' hc => ?_, fun c' C' hc => ?_, fun c' C' hc => ?_, fun c' hc j => ?_⟩
  · rcases key c' C' hc with ⟨rfl, rfl⟩ | ⟨_, h2⟩
    · exact hd
    · exact hg.is c' C' h2
  · rcases key c' C' hc with ⟨rfl, rfl⟩ | ⟨_, h2⟩
    · exact g0
    · exact hg.way c' C' h2
  · rcases key c' C' hc with ⟨rfl, rfl⟩ | ⟨_, h2⟩
    · exact g1
    · exact hg.inb c' C' h2
  · rcases key c' C' hc with ⟨rfl, rfl⟩ | ⟨_, h2⟩
    · exact g2
    · exact hg.out c' C' h2
  · rcases key c' C' hc with ⟨rfl, rfl⟩ | ⟨_, h2⟩
    · exact g3
    · exact hg.heard c' C' h2
  · rcases key c' C' hc with ⟨rfl, rfl⟩ | ⟨h1, h2⟩
    · exact r0
    · rw [hv c' h1]; exact (h.way c' C' h2).chg c (by omega)
  · rcases key c' C' hc with ⟨rfl, rfl⟩ | ⟨h1, h2⟩
    · exact r1
    · rw [hv c' h1]; exact (h.inb c' C' h2).chg c (by omega)
  · rcases key c' C' hc with ⟨rfl, rfl⟩ | ⟨h1, h2⟩
    · exact r2
    · rw [hv c' h1]; exact (h.out c' C' h2).chg c (by omega)
  · rcases key c' C' hc with ⟨rfl, rfl⟩ | ⟨h1, h2⟩
    · exact r3
    · rw [hv c' h1]; exact (h.heard c' C' h2).chg c (by omega)
  · by_cases e : c' = d
    · subst e
      rw [NS.put_same] at hc
      cases hc
    · rw [NS.put_other _ _ _ _ e] at hc
      rw [hv c' e]
      exact h.nils c' hc j
theorem closed_put (N : NS) (d c : Nat) (D : Cn) : closedOf (N.put d D) c = if c = d then D.closed else closedOf N c := by
  unfold closedOf NS.put
  by_cases e : c = d <;> simp [e]
theorem cut_put (N : NS) (d c : Nat) (D : Cn) : cutOf (N.put d D) c = if c = d then D.cut else cutOf N c := by
  unfold cutOf NS.put
  by_cases e : c = d <;> simp [e]
theorem some_put (N : NS) (d c : Nat) (D : Cn) : ((N.put d D).cs c).isSome = if c = d then true else (N.cs c).isSome := by
  unfold NS.put
  by_cases e : c = d <;> simp [e]
/-- A connection's cells, told anew one by one. -/
theorem lC_put (N : NS) (vv vv' : Nat → Nat → Value) (d : Nat) (D : Cn) (hv : ∀ c, c ≠ d → vv' c = vv c) (k : Nat) :
    lC (N.put d D) vv' k = if k / 7 = d then (if k % 7 = 0 then .bool true else if k % 7 = 1 then .bool D.closed else if k % 7 = 2 then .bool D.cut else vv' d (k % 7 - 3)) else lC N vv k := by
  unfold lC
  rw [some_put, closed_put, cut_put]
  by_cases e : k / 7 = d
  · rw [if_pos e]
    simp only [e, if_true]
  · rw [if_neg e]
    simp only [e, if_false]
    rw [hv _ e]
set_option maxRecDepth 100000 in
set_option maxHeartbeats 1600000 in
theorem q_open (w : World) (σ : Nat → Nat) (t g : Nat) (N : NS) (hN : RefAt w σ t g N) (c : Int) :
    Calls Try.prog 45 #[.pointer (some ⟨g, 0, none⟩), .int .i64 c] w fun e w' => e = .returned (.int .i64 (N.open_ c).1) ∧ ∃ σ', RefAt w' σ' t g (N.open_ c).2 ∧ Chg (Od t) σ w σ' w' := by
  obtain ⟨gl, vv, h⟩ := hN
  by_cases hc : 1 ≤ c ∧ c ≤ 64
  · obtain ⟨d, rfl⟩ := Int.eq_ofNat_of_zero_le (show 0 ≤ c by omega)
    have hd : d < 65 := by omega
    have x0 : w.cell? ⟨gl, d * 7, none⟩ = some (.bool (N.cs d).isSome) := h.l0 hd
    have c2 := h.c2
    have hfz := h.row.frozen (d * 7)
    have hq := fun W => q_is W (d : Int)
    simp only [decide_eq_true hc] at hq
    have Hq := Lib.hid hq
    have hd0 : (0 : Int) ≤ (d : Int) := by omega
    have hd1 : (d : Int) < 65 := by omega
    have he : err N (d : Int) false = match N.cs d with | none => 44 | some C => 0 := by
      unfold err
      rw [if_neg (by omega), Int.toNat_natCast]
      rcases N.cs d with _ | C <;> simp
    rcases hC : N.cs d with _ | C
    · rw [hC] at he x0
      have ho : N.open_ (d : Int) = (0, N.put d ⟨[], [], [], [], false, false⟩) := by unfold NS.open_; rw [if_pos he, Int.toNat_natCast]
      rw [ho]
      simp only [Option.isSome_none] at x0
      have H := Lib.hid h
      have HC := Lib.hid (And.intro hC hc)
      clear h he hq hc hC ho
      go_enter Try.func45, Try.ntmps45
      go_wp2_with fail
      refine (Hq.out w).mono ?_
      rintro e w1 ⟨rfl, rfl⟩
      go_wp2
      go_ret
      have h := H.out
      have hn := h.nils d HC.out.1
      have cc : Chg (fun x => x = t + 2) σ w σ (w.setCell ⟨gl, d * 7, none⟩ (.bool true)) := (Chg.refl _ σ w).setCell (p := ⟨gl, d * 7, none⟩) (.inl h.tl) _
      have rw1 := (h.row.set (d * 7) (.bool true)).congr (g := lC (N.put d ⟨[], [], [], [], false, false⟩) vv) (fun i _ => by
        rw [lC_put N vv vv d _ (fun _ _ => rfl)]
        by_cases e : i / 7 = d
        · rw [if_pos e]
          by_cases e0 : i % 7 = 0
          · rw [if_pos (show i = d * 7 by omega), if_pos e0]
          · rw [if_neg (show ¬ i = d * 7 by omega), if_neg e0]
            unfold lC
            rw [if_neg e0, e]
            unfold closedOf cutOf
            rw [HC.out.1]
        · rw [if_neg e, if_neg (by omega)])
      refine ⟨rfl, σ, ⟨gl, vv, h.put_ (d := d) (by have := HC.out.2; omega) ⟨[], [], [], [], false, false⟩ rw1 (fun _ _ => rfl) cc ?_ ?_ ?_ ?_ (Nat.zero_le _) (by have := h.good.i1; show ((0 : Nat) : Int) ≤ _; omega) (by have := h.good.o1; show ((0 : Nat) : Int) ≤ _; omega) h.good.m0⟩, cc.mono (fun x hx => by unfold Od; omega)⟩
      all_goals
        rw [hn]
        exact Row.nil _ _ _ _ _
    · rw [hC] at he x0
      have ho : N.open_ (d : Int) = (43, N) := by unfold NS.open_; rw [if_neg (show ¬ err N (d : Int) false = 44 by rw [he]; show ¬ (0 : Int) = 44; decide), if_pos he]
      rw [ho]
      simp only [Option.isSome_some] at x0
      have H := Lib.hid h
      clear h he hq hc hC ho
      go_enter Try.func45, Try.ntmps45
      go_wp2_with fail
      refine (Hq.out w).mono ?_
      rintro e w1 ⟨rfl, rfl⟩
      go_wp2
      go_ret
      exact ⟨rfl, σ, ⟨gl, vv, H.out⟩, Chg.refl _ _ _⟩
  · have he : err N c false = 1 := by unfold err; rw [if_pos (by omega)]
    have ho : N.open_ c = (1, N) := by unfold NS.open_; rw [if_neg (by rw [he]; decide), if_neg (by rw [he]; decide)]
    rw [ho]
    have hq := fun W => q_is W c
    simp only [decide_eq_false hc] at hq
    have Hq := Lib.hid hq
    have H := Lib.hid h
    clear h hc he hq ho
    go_enter Try.func45, Try.ntmps45
    go_wp2_with fail
    refine (Hq.out w).mono ?_
    rintro e w1 ⟨rfl, rfl⟩
    go_wp2
    go_ret
    exact ⟨rfl, σ, ⟨gl, vv, H.out⟩, Chg.refl _ _ _⟩

theorem err_some {N : NS} {c : Int} {u : Bool} (h : err N c u = 0) : 1 ≤ c ∧ c ≤ 64 ∧ ∃ C, N.cs c.toNat = some C ∧ (u = true → C.cut = false ∧ C.closed = false) := by
  unfold err at h
  split at h
  · exact absurd h (by decide)
  · rename_i hc
    rcases hN : N.cs c.toNat with _ | C
    · rw [hN] at h
      exact absurd h (show ¬ (44 : Int) = 0 by decide)
    · rw [hN] at h
      refine ⟨by omega, by omega, C, rfl, fun hu => ?_⟩
      subst hu
      dsimp only at h
      rcases h1 : C.cut <;> rcases h2 : C.closed <;> simp [h1, h2] at h ⊢
set_option maxRecDepth 100000 in
set_option maxHeartbeats 1600000 in
theorem q_close (w : World) (σ : Nat → Nat) (t g : Nat) (N : NS) (hN : RefAt w σ t g N) (c : Int) :
    Calls Try.prog 51 #[.pointer (some ⟨g, 0, none⟩), .int .i64 c] w fun e w' => e = .returned (.int .i64 (N.close c).1) ∧ ∃ σ', RefAt w' σ' t g (N.close c).2 ∧ Chg (Od t) σ w σ' w' := by
  have hgo := q_gone w σ t g N hN c true
  obtain ⟨gl, vv, h⟩ := hN
  by_cases he : err N c true = 0
  · rw [he] at hgo
    obtain ⟨h1, h2, C, hC, hlive⟩ := err_some he
    obtain ⟨d, rfl⟩ := Int.eq_ofNat_of_zero_le (show 0 ≤ c by omega)
    rw [Int.toNat_natCast] at hC
    have hd : d < 65 := by omega
    have c2 := fun W (hb : Below w.heap.size w W) => (h.below hb).c2
    have x2 := fun W (hb : Below w.heap.size w W) => (h.below hb).l2 hd
    have hfz := fun W (hb : Below w.heap.size w W) k => (h.below hb).row.frozen k
    have hx := fun W (hb : Below w.heap.size w W) k (hk : k < 455) => (h.below hb).row.cell hk
    have hd0 : (0 : Int) ≤ (d : Int) := by omega
    have hd1 : (d : Int) < 65 := by omega
    have H := Lib.hid (And.intro h (And.intro hC (And.intro (show 1 ≤ d ∧ d ≤ 64 by omega) he)))
    have Hgo := Lib.hid hgo
    have HF := Lib.hid (And.intro c2 (And.intro x2 (And.intro hfz hx)))
    have hcut : cutOf N d = C.cut := by unfold cutOf; rw [hC]
    have hgl : ¬ g = gl := by intro e; have h1' := h.blk.2; have h2' := h.tl; rw [e] at h1'; omega
    have hlg : ¬ gl = g := fun e => hgl e.symm
    clear h hgo c2 x2 hfz hx h1 h2 hC he
    have ho : N.close (d : Int) = (0, N.put d { C with closed := true, way := [], inb := [] }) := by unfold NS.close; rw [if_pos H.out.2.2.2, Int.toNat_natCast, H.out.2.1]
    rw [ho]
    clear ho
    go_enter Try.func51, Try.ntmps51
    go_wp2_with fail
    refine Hgo.out.mono ?_
    rintro e w1 ⟨rfl, hb1⟩
    have c2 := HF.out.1 w1 hb1
    have x2 := HF.out.2.1 w1 hb1
    rw [hcut] at x2
    have hfz := HF.out.2.2.1 w1 hb1
    have y1 := HF.out.2.2.2 w1 hb1 (d * 7 + 1) (by omega)
    have y3 := HF.out.2.2.2 w1 hb1 (d * 7 + 3) (by omega)
    have y4 := HF.out.2.2.2 w1 hb1 (d * 7 + 4) (by omega)
    have HB := Lib.hid hb1
    clear hb1
    go_wp2
    go_ret
    have h1 := H.out.1.below HB.out
    have hm1 := fun (b : Nat) => h1.tl
    have cc : Chg (fun x => x = t + 2) σ w1 σ (((w1.setCell ⟨gl, d * 7 + 1, none⟩ (.bool true)).setCell ⟨gl, d * 7 + 3, none⟩ (.slice none 0 0)).setCell ⟨gl, d * 7 + 4, none⟩ (.slice none 0 0)) := ((((Chg.refl _ σ w1).setCell (p := ⟨gl, d * 7 + 1, none⟩) (.inl h1.tl) _).setCell (p := ⟨gl, d * 7 + 3, none⟩) (.inl h1.tl) _).setCell (p := ⟨gl, d * 7 + 4, none⟩) (.inl h1.tl) _)
    have rw1 := (((h1.row.set (d * 7 + 1) (.bool true)).set (d * 7 + 3) (.slice none 0 0)).set (d * 7 + 4) (.slice none 0 0)).congr (g := lC (N.put d { C with closed := true, way := [], inb := [] }) (fun c' j => if c' = d then (if j = 0 then .slice none 0 0 else if j = 1 then .slice none 0 0 else vv c' j) else vv c' j)) (fun i _ => by
      rw [lC_put N vv _ d _ (fun c' hc' => by funext j; rw [if_neg hc'])]
      by_cases e : i / 7 = d
      · rw [if_pos e]
        have hi : i = d * 7 + i % 7 := by omega
        have h7 : i % 7 < 7 := Nat.mod_lt _ (by omega)
        generalize i % 7 = r at hi h7 ⊢
        subst hi
        have hcl : closedOf N d = C.closed := by unfold closedOf; rw [H.out.2.1]
        rcases (show r = 0 ∨ r = 1 ∨ r = 2 ∨ r = 3 ∨ r = 4 ∨ r = 5 ∨ r = 6 by omega) with rfl | rfl | rfl | rfl | rfl | rfl | rfl
        all_goals simp [lC0, lC1, lC2, lCv N vv d 0, lCv N vv d 1, lCv N vv d 2, lCv N vv d 3, hcl, hcut, H.out.2.1]
      · rw [if_neg e]
        try dsimp only
        rw [if_neg (show ¬ i = d * 7 + 4 by omega)]
        rw [if_neg (show ¬ i = d * 7 + 3 by omega)]
        rw [if_neg (show ¬ i = d * 7 + 1 by omega)])
    have hp := h1.put_ (d := d) H.out.2.2.1 { C with closed := true, way := [], inb := [] } rw1 (fun c' hc' => by funext j; rw [if_neg hc']) cc (by rw [if_pos rfl]; exact Row.nil _ _ _ _ _) (by rw [if_pos rfl]; exact Row.nil _ _ _ _ _) (by rw [if_pos rfl]; exact (h1.out d C H.out.2.1).chg cc (by omega)) (by rw [if_pos rfl]; exact (h1.heard d C H.out.2.1).chg cc (by omega)) (Nat.zero_le _) (by have := h1.good.i1; show ((0 : Nat) : Int) ≤ _; omega) (h1.good.out d C H.out.2.1) (h1.good.heard d C H.out.2.1)
    refine ⟨rfl, σ, ⟨gl, _, hp⟩, (Chg.of_below (Od t) σ HB.out).trans (cc.mono (fun x hx => by unfold Od; omega))⟩
  · have ho : N.close c = (err N c true, N) := by unfold NS.close; rw [if_neg he]
    rw [ho]
    have he2 : (err N c true != 0) = true := by simpa using he
    generalize err N c true = r at hgo he2
    have Hgo := Lib.hid hgo
    have H := Lib.hid h
    clear h hgo he ho
    go_enter Try.func51, Try.ntmps51
    go_wp2_with fail
    refine Hgo.out.mono ?_
    rintro e w1 ⟨rfl, hb1⟩
    go_wp2
    go_ret
    exact ⟨rfl, σ, ⟨gl, vv, H.out.below hb1⟩, Chg.of_below _ _ hb1⟩
set_option maxRecDepth 100000 in
set_option maxHeartbeats 1600000 in
theorem q_cut_ (w : World) (σ : Nat → Nat) (t g : Nat) (N : NS) (hN : RefAt w σ t g N) (c : Int) :
    Calls Try.prog 52 #[.pointer (some ⟨g, 0, none⟩), .int .i64 c] w fun e w' => e = .returned (.int .i64 (N.cut_ c).1) ∧ ∃ σ', RefAt w' σ' t g (N.cut_ c).2 ∧ Chg (Od t) σ w σ' w' := by
  have hgo := q_gone w σ t g N hN c false
  obtain ⟨gl, vv, h⟩ := hN
  by_cases he : err N c false = 0
  · rw [he] at hgo
    obtain ⟨h1, h2, C, hC, hlive⟩ := err_some he
    obtain ⟨d, rfl⟩ := Int.eq_ofNat_of_zero_le (show 0 ≤ c by omega)
    rw [Int.toNat_natCast] at hC
    have hd : d < 65 := by omega
    have c2 := fun W (hb : Below w.heap.size w W) => (h.below hb).c2
    have x2 := fun W (hb : Below w.heap.size w W) => (h.below hb).l2 hd
    have hfz := fun W (hb : Below w.heap.size w W) k => (h.below hb).row.frozen k
    have hx := fun W (hb : Below w.heap.size w W) k (hk : k < 455) => (h.below hb).row.cell hk
    have hd0 : (0 : Int) ≤ (d : Int) := by omega
    have hd1 : (d : Int) < 65 := by omega
    have H := Lib.hid (And.intro h (And.intro hC (And.intro (show 1 ≤ d ∧ d ≤ 64 by omega) he)))
    have Hgo := Lib.hid hgo
    have HF := Lib.hid (And.intro c2 (And.intro x2 (And.intro hfz hx)))
    have hcut : cutOf N d = C.cut := by unfold cutOf; rw [hC]
    have hgl : ¬ g = gl := by intro e; have h1' := h.blk.2; have h2' := h.tl; rw [e] at h1'; omega
    have hlg : ¬ gl = g := fun e => hgl e.symm
    clear h hgo c2 x2 hfz hx h1 h2 hC he
    rcases hx : C.cut with _ | _
    · have ho : N.cut_ (d : Int) = (0, N.put d { C with cut := true, way := [], inb := [], out := [] }) := by
        unfold NS.cut_
        rw [if_pos H.out.2.2.2, Int.toNat_natCast, H.out.2.1]
        simp [hx]
      rw [ho]
      rw [hx] at hcut
      clear ho
      go_enter Try.func52, Try.ntmps52
      go_wp2_with fail
      refine Hgo.out.mono ?_
      rintro e w1 ⟨rfl, hb1⟩
      have c2 := HF.out.1 w1 hb1
      have x2 := HF.out.2.1 w1 hb1
      rw [hcut] at x2
      have hfz := HF.out.2.2.1 w1 hb1
      have y2 := HF.out.2.2.2 w1 hb1 (d * 7 + 2) (by omega)
      have y3 := HF.out.2.2.2 w1 hb1 (d * 7 + 3) (by omega)
      have y4 := HF.out.2.2.2 w1 hb1 (d * 7 + 4) (by omega)
      have y5 := HF.out.2.2.2 w1 hb1 (d * 7 + 5) (by omega)
      have HB := Lib.hid hb1
      clear hb1
      go_wp2
      go_ret
      have h1 := H.out.1.below HB.out
      have hm1 := fun (b : Nat) => h1.tl
      have cc : Chg (fun x => x = t + 2) σ w1 σ ((((w1.setCell ⟨gl, d * 7 + 2, none⟩ (.bool true)).setCell ⟨gl, d * 7 + 3, none⟩ (.slice none 0 0)).setCell ⟨gl, d * 7 + 4, none⟩ (.slice none 0 0)).setCell ⟨gl, d * 7 + 5, none⟩ (.slice none 0 0)) := (((((Chg.refl _ σ w1).setCell (p := ⟨gl, d * 7 + 2, none⟩) (.inl h1.tl) _).setCell (p := ⟨gl, d * 7 + 3, none⟩) (.inl h1.tl) _).setCell (p := ⟨gl, d * 7 + 4, none⟩) (.inl h1.tl) _).setCell (p := ⟨gl, d * 7 + 5, none⟩) (.inl h1.tl) _)
      have rw1 := ((((h1.row.set (d * 7 + 2) (.bool true)).set (d * 7 + 3) (.slice none 0 0)).set (d * 7 + 4) (.slice none 0 0)).set (d * 7 + 5) (.slice none 0 0)).congr (g := lC (N.put d { C with cut := true, way := [], inb := [], out := [] }) (fun c' j => if c' = d then (if j = 0 then .slice none 0 0 else if j = 1 then .slice none 0 0 else if j = 2 then .slice none 0 0 else vv c' j) else vv c' j)) (fun i _ => by
        rw [lC_put N vv _ d _ (fun c' hc' => by funext j; rw [if_neg hc'])]
        by_cases e : i / 7 = d
        · rw [if_pos e]
          have hi : i = d * 7 + i % 7 := by omega
          have h7 : i % 7 < 7 := Nat.mod_lt _ (by omega)
          generalize i % 7 = r at hi h7 ⊢
          subst hi
          have hcl : closedOf N d = C.closed := by unfold closedOf; rw [H.out.2.1]
          rcases (show r = 0 ∨ r = 1 ∨ r = 2 ∨ r = 3 ∨ r = 4 ∨ r = 5 ∨ r = 6 by omega) with rfl | rfl | rfl | rfl | rfl | rfl | rfl
          all_goals simp [lC0, lC1, lC2, lCv N vv d 0, lCv N vv d 1, lCv N vv d 2, lCv N vv d 3, hcl, hcut, H.out.2.1]
        · rw [if_neg e]
          try dsimp only
          rw [if_neg (show ¬ i = d * 7 + 5 by omega)]
          rw [if_neg (show ¬ i = d * 7 + 4 by omega)]
          rw [if_neg (show ¬ i = d * 7 + 3 by omega)]
          rw [if_neg (show ¬ i = d * 7 + 2 by omega)])
      have hp := h1.put_ (d := d) H.out.2.2.1 { C with cut := true, way := [], inb := [], out := [] } rw1 (fun c' hc' => by funext j; rw [if_neg hc']) cc (by rw [if_pos rfl]; exact Row.nil _ _ _ _ _) (by rw [if_pos rfl]; exact Row.nil _ _ _ _ _) (by rw [if_pos rfl]; exact Row.nil _ _ _ _ _) (by rw [if_pos rfl]; exact (h1.heard d C H.out.2.1).chg cc (by omega)) (Nat.zero_le _) (by have := h1.good.i1; show ((0 : Nat) : Int) ≤ _; omega) (by have := h1.good.o1; show ((0 : Nat) : Int) ≤ _; omega) (h1.good.heard d C H.out.2.1)
      refine ⟨rfl, σ, ⟨gl, _, hp⟩, (Chg.of_below (Od t) σ HB.out).trans (cc.mono (fun x hx => by unfold Od; omega))⟩
    · have ho : N.cut_ (d : Int) = (44, N) := by
        unfold NS.cut_
        rw [if_pos H.out.2.2.2, Int.toNat_natCast, H.out.2.1]
        simp [hx]
      rw [ho]
      rw [hx] at hcut
      clear ho
      go_enter Try.func52, Try.ntmps52
      go_wp2_with fail
      refine Hgo.out.mono ?_
      rintro e w1 ⟨rfl, hb1⟩
      have c2 := HF.out.1 w1 hb1
      have x2 := HF.out.2.1 w1 hb1
      rw [hcut] at x2
      have HB := Lib.hid hb1
      clear hb1
      go_wp2
      go_ret
      exact ⟨rfl, σ, ⟨gl, vv, H.out.1.below HB.out⟩, Chg.of_below _ _ HB.out⟩
  · have ho : N.cut_ c = (err N c false, N) := by unfold NS.cut_; rw [if_neg he]
    rw [ho]
    have he2 : (err N c false != 0) = true := by simpa using he
    generalize err N c false = r at hgo he2
    have Hgo := Lib.hid hgo
    have H := Lib.hid h
    clear h hgo he ho
    go_enter Try.func52, Try.ntmps52
    go_wp2_with fail
    refine Hgo.out.mono ?_
    rintro e w1 ⟨rfl, hb1⟩
    go_wp2
    go_ret
    exact ⟨rfl, σ, ⟨gl, vv, H.out.below hb1⟩, Chg.of_below _ _ hb1⟩
end Go.Proofs.Ytalabfbnbiagiaa.C
