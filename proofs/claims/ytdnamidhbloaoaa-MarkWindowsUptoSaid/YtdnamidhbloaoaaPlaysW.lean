/-
  The call of the law MarkPlays.
-/
import Derived.Test.YtdnamidhbloaoaaPlays
set_option linter.unusedVariables false
namespace Go.Proofs.Ytdnamidhbloaoaa.Mark
open Go.RowKit Go.Proofs.Ytdnamidhbloaoaa.K
attribute [local go_sem ↓] Go.wp_at_zero Go.wp_at_succ

theorem Marks.only {w w' : World} {g b : Nat} {L : List Int} {fs : List Nat} (h : Marks w g b L) (ho : Only fs w w') (hg : g ∉ fs) (hb : b ∉ fs) : Marks w' g b L :=
  ⟨h.str.only ho hg, h.row.only ho hb⟩
theorem RMarks.only {w w' : World} {g b cap : Nat} {L : List Int} {fs : List Nat} (h : RMarks w g b cap L) (ho : Only fs w w') (hg : g ∉ fs) (hb : b ∉ fs) : RMarks w' g b cap L :=
  ⟨h.str.only ho hg, own_only h.row ho (fun b' e => by simp [Value.ownBlock] at e; subst e; exact hb)⟩
theorem RMarks.lt {w : World} {g b cap : Nat} {L : List Int} (h : RMarks w g b cap L) : b < w.heap.size := (h.row.lt b rfl).2

/-- The marks of the loop: two objects that hold the same list, apart from one another and from what came in. -/
structure Both (w wr : World) (g b g' b' cap n : Nat) (L : List Int) : Prop where
  m : Marks wr g b L
  r : RMarks wr g' b' cap L
  len : L.length = n
  g0 : w.heap.size ≤ g
  b0 : w.heap.size ≤ b
  g1 : w.heap.size ≤ g'
  b1 : w.heap.size ≤ b'
  n1 : b ≠ g'
  n2 : b ≠ b'
  n3 : g ≠ b'
  bel : Below w.heap.size w wr

theorem Both.draw {w wr : World} {g b g' b' cap n : Nat} {L : List Int} (h : Both w wr g b g' b' cap n L) (k : Nat) : Both w (wr.drewN k) g b g' b' cap n L :=
  ⟨⟨h.m.str, h.m.row⟩, ⟨h.r.str, h.r.row⟩, h.len, h.g0, h.b0, h.g1, h.b1, h.n1, h.n2, h.n3, below_drewN h.bel k⟩

set_option maxHeartbeats 1600000 in
theorem keep2 {w wr w' : World} {ba o1 o2 b : Nat} {x1 x2 : Value} (hba : ba < w.heap.size) (hs : w.heap.size ≤ wr.heap.size) (hb : w.heap.size ≤ b) (ho : Only [b] wr.drew w') (d0 : wr.cell? ⟨ba, o1, none⟩ = some x1) (d1 : wr.cell? ⟨ba, o2, none⟩ = some x2) :
    w'.cell? ⟨ba, o1, none⟩ = some x1 ∧ w'.cell? ⟨ba, o2, none⟩ = some x2 := by
  have hk : w'.heap[ba]? = wr.heap[ba]? := ho.block ba (Nat.lt_of_lt_of_le hba hs) (by simp; omega)
  exact ⟨(World.cell?_of_block (w := wr) (a := ⟨ba, o1, none⟩) hk).trans d0, (World.cell?_of_block (w := wr) (a := ⟨ba, o2, none⟩) hk).trans d1⟩

set_option maxRecDepth 100000 in
theorem plays_good (n : Nat) (hn1 : 1 ≤ n) (hn8 : n ≤ 8) (A : Option Addr) (nl cl : Nat) (f : Nat → Nat → Int) (Q : Option Addr) (nq cq : Nat) (q : Nat → Int) (w : World)
    (hA : Flat w 2 A nl f) (hQ : Flat1 w Q nq q) (hnl : nl ≤ 140737488351232) (hnq : nq ≤ 140737488351232) :
    Calls Try.prog 3 #[.int .i64 n, .slice A nl cl, .slice Q nq cq] w fun e w' => e = .returned (.bool true) ∧ Below w.heap.size w w' := by
  go_enter Try.func3, Try.ntmps3
  go_wp2_with fail
  refine (new_good n _ hn1 hn8).mono ?_
  rintro e w1 ⟨g, b, rfl, hM, hb1, hg, hbb⟩
  go_wp2_with fail
  refine (rnew_good n _ hn1 hn8).mono ?_
  rintro e w2 ⟨g', b', cap, rfl, hR, hb2, hg', hbb'⟩
  have hB : Both w w2 g b g' b' cap n (List.replicate n (-4611686018427387904)) := by
    have l1 := hM.str.lt
    have l2 := hM.row.lt
    have s1 := hb1.size
    exact ⟨hM.only (Only.of_below (fs := []) hb2) (by simp) (by simp), hR, by simp, hg, hbb, by omega, by omega, by omega, by omega, by omega, Below.then_ hb1 hb1.size hb2⟩
  clear hM hR hb1 hb2 hg hbb hg' hbb'
  go_wp2_with fail
  go_loopw [11] (fun i wr => ∃ (k : Nat) (L : List Int), k ≤ nl ∧ i = .int .i64 k ∧ Both w wr g b g' b' cap n L) (fun i _ => nl - (intOf i).toNat)
  case atStart => exact ⟨0, _, Nat.zero_le _, rfl, hB⟩
  case round =>
    clear hB
    obtain ⟨k, L, hk, rfl, hB⟩ := hrel
    by_cases hlt : k < nl ∧ k < 300
    · obtain ⟨hlt, h300⟩ := hlt
      obtain ⟨ba, oa, rfl, hba, hca⟩ := hA.at_ (by omega)
      have e0 := hca k hlt 0 (by omega)
      have e1 := hca k hlt 1 (by omega)
      rw [Nat.add_zero] at e0
      rw [← Nat.add_assoc] at e1
      clear hca
      have d0 := (hB.bel.cell (p := ⟨ba, oa + k * 2, none⟩) hba).trans e0
      have d1 := (hB.bel.cell (p := ⟨ba, oa + k * 2 + 1, none⟩) hba).trans e1
      have i0 : (0 : Int) ≤ (k : Int) := by omega
      have i1 : (k : Int) < (nl : Int) := by omega
      have hL1 : 1 ≤ L.length := by have := hB.len; omega
      have hL2 : L.length ≤ 1000000 := by have := hB.len; omega
      go_wp2_with fail
      go_region_held3 (fun w' => w'.cell? ⟨ba, oa + k * 2, none⟩ = some (.int .i64 (f k 0)) ∧ w'.cell? ⟨ba, oa + k * 2 + 1, none⟩ = some (.int .i64 (f k 1))) (first | go_keep | exact keep2 hba hB.bel.size hB.b0 ‹Only [b] wr.drew _› d0 d1)
        ((go_at_call 13; refine (rise_any wr.drew g b L (f k 0) (f k 1) ⟨hB.m.str, hB.m.row⟩ hL1 hL2).mono ?_; rintro e w3 ⟨rfl, hM3, ho3⟩))
      have hR3 : RMarks w3 g' b' cap L := (RMarks.mk (w := wr.drew) hB.r.str hB.r.row).only ho3 (by simpa using fun e => hB.n1 e.symm) (by simpa using fun e => hB.n2 e.symm)
      have hbel3 : Below w.heap.size w w3 := Below.only_ (w := wr.drew) hB.bel.drew ho3 hB.bel.size (by simpa using hB.b0)
      have d0' := (hbel3.cell (p := ⟨ba, oa + k * 2, none⟩) hba).trans e0
      have d1' := (hbel3.cell (p := ⟨ba, oa + k * 2 + 1, none⟩) hba).trans e1
      clear d0 d1
      go_wp2_with fail
      go_region_held3 (fun w' => w'.cell? ⟨ba, oa + k * 2, none⟩ = some (.int .i64 (f k 0)) ∧ w'.cell? ⟨ba, oa + k * 2 + 1, none⟩ = some (.int .i64 (f k 1))) (first | go_keep | exact keep2 hba hbel3.size hB.b1 ‹Only [b'] w3.drew _› d0' d1')
        ((go_at_call 14; refine (rrise_any w3.drew g' b' cap L (f k 0) (f k 1) ⟨hR3.str, hR3.row⟩ hL1 hL2).mono ?_; rintro e w4 ⟨rfl, hR4, ho4⟩))
      have hM4 : Marks w4 g b (riseL L (f k 0) (f k 1)) := (Marks.mk (w := w3.drew) hM3.str hM3.row).only ho4 (by simpa using hB.n3) (by simpa using hB.n2)
      have hbel4 : Below w.heap.size w w4 := Below.only_ (w := w3.drew) hbel3.drew ho4 hbel3.size (by simpa using hB.b1)
      have hlen : (riseL L (f k 0) (f k 1)).length = n := by rw [riseL_length]; exact hB.len
      have hB4 : Both w w4 g b g' b' cap n (riseL L (f k 0) (f k 1)) := ⟨hM4, hR4, hlen, hB.g0, hB.b0, hB.g1, hB.b1, hB.n1, hB.n2, hB.n3, hbel4⟩
      clear hM4 hR4 hbel4 hbel3 hM3 hR3 ho3 ho4 hB d0' d1' hlen e0 e1
      generalize riseB L (f k 0) (f k 1) = rb
      generalize riseE L (f k 0) (f k 1) = re
      generalize riseL L (f k 0) (f k 1) = L' at hB4
      have hL1' : 1 ≤ L'.length := by have := hB4.len; omega
      have hL2' : L'.length ≤ 1000000 := by have := hB4.len; omega
      go_wp2_with fail
      refine (least_any w4 g b L' hB4.m hL1' hL2').mono ?_
      rintro e w5 ⟨rfl, rfl⟩
      go_wp2_with fail
      refine (rleast_any w4 g' b' cap L' hB4.r hL1' hL2').mono ?_
      rintro e w5 ⟨rfl, rfl⟩
      by_cases hq : 0 < nq
      · obtain ⟨bq, oq, rfl, hbq, hcq⟩ := hQ.at_ hq
        have hmod : k % nq < nq := Nat.mod_lt _ hq
        have eq := hcq (k % nq) hmod
        clear hcq
        have dq := (hB4.bel.cell (p := ⟨bq, oq + k % nq, none⟩) hbq).trans eq
        have m0 : (0 : Int) ≤ (k : Int) % (nq : Int) := by omega
        have m1 : (k : Int) % (nq : Int) < (nq : Int) := by omega
        have m2 : ((k : Int) % (nq : Int)).toNat = k % nq := by omega
        go_wp2_with fail
        go_quiet ((first | (go_at_call 17; exact quiet_left (of_any _ g b L' _ ⟨hB4.m.str, hB4.m.row⟩)) | (go_at_call 18; exact quiet_left (rof_any _ g' b' cap L' _ ⟨hB4.r.str, hB4.r.row⟩))))
        go_wp2
        go_roundw
        case rel => exact ⟨k + 1, L', by omega, by go_num, hB4.draw _⟩
        case measure => simp [intOf]; omega
      · have hd : decide ((0 : Int) < (nq : Int)) = false := by simp; omega
        go_wp2_with fail
        go_quiet (fail)
        go_wp2
        go_roundw
        case rel => exact ⟨k + 1, L', by omega, by go_num, hB4.draw _⟩
        case measure => simp [intOf]; omega
    · have hbel := hB.bel
      have hend : ∀ W, Below w.heap.size w W → Calls Try.prog 19 #[] W fun e w' => e = .returned (.bool true) ∧ Below w.heap.size w w' := fun W h => (head_any W).mono fun _ _ ⟨he, hb⟩ => ⟨he, Below.then_ h h.size hb⟩
      have Hend := Lib.hid hend
      clear hend
      by_cases h1 : k < nl
      · have h3 : ¬ k < 300 := fun h => hlt ⟨h1, h⟩
        have h4 : (300 : Int) ≤ (k : Int) := by omega
        go_wp2_with fail
        refine (Hend.out _ hbel).mono ?_
        rintro e w5 ⟨rfl, hb5⟩
        go_wp2
        go_ret
        exact ⟨rfl, hb5⟩
      · go_wp2_with fail
        refine (Hend.out _ hbel).mono ?_
        rintro e w5 ⟨rfl, hb5⟩
        go_wp2
        go_ret
        exact ⟨rfl, hb5⟩

set_option maxRecDepth 100000 in
theorem plays_bad (n : Int) (hn : n < 1 ∨ 8 < n) (A : Option Addr) (nl cl : Nat) (f : Nat → Nat → Int) (Q : Option Addr) (nq cq : Nat) (w : World)
    (hA : Flat w 2 A nl f) (hnl : nl ≤ 140737488351232) :
    Calls Try.prog 3 #[.int .i64 n, .slice A nl cl, .slice Q nq cq] w fun e w' => e = .returned (.bool true) ∧ Below w.heap.size w w' := by
  go_enter Try.func3, Try.ntmps3
  go_wp2_with fail
  refine (new_bad n _ hn).mono ?_
  rintro e w1 ⟨rfl, rfl⟩
  go_wp2_with fail
  refine (rnew_bad n _ hn).mono ?_
  rintro e w2 ⟨rfl, rfl⟩
  go_wp2_with fail
  by_cases h0 : 0 < nl
  · refine wp_loop_rounds 1 ?_
    rw [rounds_succ]
    go_wp2_with fail
    refine (head_any _).mono ?_
    rintro e w5 ⟨rfl, hb5⟩
    go_wp2
    go_ret
    exact ⟨rfl, hb5⟩
  · have hd : decide ((0 : Int) < (nl : Int)) = false := by simp; omega
    refine wp_loop_rounds 1 ?_
    rw [rounds_succ]
    go_wp2_with fail
    refine (head_any _).mono ?_
    rintro e w5 ⟨rfl, hb5⟩
    go_wp2
    go_ret
    exact ⟨rfl, hb5⟩

theorem plays_walk (w : World) (s : Int) (ws : (Lit.int .i64 s).wf = true) (v1 : Value) (o1 : ∃ (A : Option Addr) (n c : Nat) (f : Nat → Nat → Int), v1 = .slice A n c ∧ n ≤ c ∧ Flat w 2 A n f ∧ n * 16 ≤ 140737488351232)
    (v2 : Value) (o2 : ∃ (A : Option Addr) (n c : Nat) (f : Nat → Int), v2 = .slice A n c ∧ n ≤ c ∧ Flat1 w A n f ∧ n * 8 ≤ 140737488351232) :
    Calls Try.prog 3 #[.int .i64 s, v1, v2] w fun e w' => e = .returned (.bool true) ∧ Below w.heap.size w w' := by
  obtain ⟨A, n, c, f, rfl, hc, hA, hn⟩ := o1
  obtain ⟨Q, nq, cq, q, rfl, hcq, hQ, hnq⟩ := o2
  by_cases h : 1 ≤ s ∧ s ≤ 8
  · obtain ⟨m, rfl⟩ := Int.eq_ofNat_of_zero_le (show 0 ≤ s by omega)
    exact plays_good m (by omega) (by omega) A n c f Q nq cq q w hA hQ (by omega) (by omega)
  · exact plays_bad s (by omega) A n c f Q nq cq w hA (by omega)
end Go.Proofs.Ytdnamidhbloaoaa.Mark
