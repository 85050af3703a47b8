/-
  A box's take.
-/
import Derived.Test.YtapninpdjccglaaF4
set_option linter.unusedVariables false
set_option linter.unusedSimpArgs false
namespace Go.Proofs.Ytapninpdjccglaa.C
open Go.RowKit Go.Proofs.Ytapninpdjccglaa.K

def msv (x : Ms) : Value := .agg #[.int .i64 x.src, .bool x.item.mark, .string x.item.key, .int .i64 x.item.time, .int .i64 x.item.value]
def zms : List Value := [.int .i64 0, .bool false, .string ⟨#[]⟩, .int .i64 0, .int .i64 0]
theorem setCells5z (W : World) (G : Nat) (a b c d e : Value) : ((((W.setCell ⟨G, 0, none⟩ a).setCell ⟨G, 1, none⟩ b).setCell ⟨G, 2, none⟩ c).setCell ⟨G, 3, none⟩ d).setCell ⟨G, 4, none⟩ e = W.setCells G 0 [a, b, c, d, e] := by
  simp only [World.setCells, Nat.zero_add, Nat.reduceAdd]
theorem bCells_take {m : Nat} {len fi gr : Nat → Nat} {j n f i : Nat} :
    (fun k => if k = j * 3 + 2 then Value.int .i64 ((n : Nat) : Int) else (fun k => if k = j * 3 + 1 then Value.int .i64 ((f : Nat) : Int) else bCells m len fi gr k) k) i = bCells m (fun k => if k = j then n else len k) (fun k => if k = j then f else fi k) gr i := by
  unfold bCells
  by_cases h0 : i % 3 = 0
  · simp only [h0, if_true]
    rw [if_neg (by omega), if_neg (by omega)]
  · by_cases h1 : i % 3 = 1
    · simp only [h1, if_true]
      rw [if_neg (by omega)]
      simp only [Nat.one_ne_zero, if_false]
      by_cases hj : i / 3 = j
      · rw [if_pos hj, if_pos (by omega)]
      · rw [if_neg hj, if_neg (by omega)]
    · simp only [h0, h1, if_false]
      by_cases hj : i / 3 = j
      · rw [if_pos hj, if_pos (by omega)]
      · rw [if_neg hj, if_neg (by omega), if_neg (by omega)]

set_option maxRecDepth 100000 in
set_option maxHeartbeats 1600000 in
theorem take_b (w : World) (σ : Nat → Nat) (t g : Nat) (F : FS) (gq gb : Nat) (qv : Nat → Value) (fi gr : Nat → Nat) (rc : Nat → Nat → Value) (h : FlowIn w σ t g F gq gb qv fi gr rc) (j : Nat) (hj : j < F.o) (x : Ms) (L : List Ms) (hL : F.b j = x :: L) :
    Calls Try.prog 37 #[.pointer (some ⟨gb, j * 3, none⟩)] w fun e w' => e = .returned (msv x) ∧
      (∃ fi' rc', FlowIn w' σ t g (F.putb j L) gq gb qv fi' gr rc') ∧ Chg (fun x => x = t + 3 + j ∨ x = t + 2) σ w σ w' := by
  have hb0 := h.b0 hj
  have hb1 := h.b1 hj
  have hb2 := h.b2 hj
  have hfm := h.fim j hj
  have hm2 := h.good.m2
  have hbl := h.good.b j hj
  obtain ⟨n, hn⟩ : ∃ n, L.length = n := ⟨_, rfl⟩
  obtain ⟨f, hf⟩ : ∃ f, fi j = f := ⟨_, rfl⟩
  obtain ⟨m, hm⟩ : ∃ m, F.m = m := ⟨_, rfl⟩
  obtain ⟨r, hr⟩ : ∃ r, (f + 1) % m = r := ⟨_, rfl⟩
  obtain ⟨G, hG⟩ : ∃ G, gr j = G := ⟨_, rfl⟩
  rw [hL] at hb2 hbl
  rw [List.length_cons, hn] at hb2 hbl
  rw [hf] at hb1 hfm
  rw [hm] at hb0 hfm hm2 hbl
  rw [hG] at hb0
  have hcell : ∀ c v, (ms x)[c]? = some v → w.cell? ⟨G, f * 5 + c, none⟩ = some v := fun c v hv => by
    have h1 := h.has j hj 0 x (by rw [hL]; rfl) c v hv
    rw [hf, hm, Nat.add_zero, Nat.mod_eq_of_lt hfm] at h1
    have h2 := h.ring_at hj (r := f) (c := c) (by omega) (ms_lt hv)
    rw [hG, h1] at h2
    exact h2
  have c0 := hcell 0 _ rfl
  have c1 := hcell 1 _ rfl
  have c2 := hcell 2 _ rfl
  have c3 := hcell 3 _ rfl
  have c4 := hcell 4 _ rfl
  have fr := (h.ring j hj).frozen
  have fb1 := h.rb.frozen (j * 3 + 1)
  have fb2 := h.rb.frozen (j * 3 + 2)
  have hne := h.ne_b hj
  rw [hG] at fr hne
  rw [Nat.add_zero] at c0
  have f0 := fr (f * 5)
  have f1 := fr (f * 5 + 1)
  have f2 := fr (f * 5 + 2)
  have f3 := fr (f * 5 + 3)
  have f4 := fr (f * 5 + 4)
  have hlt := h.rb.lt
  have hltr := (h.ring j hj).lt
  rw [hG] at hltr
  have hne' : ¬ gb = G := fun e => hne e.symm
  have hne2 : ¬ G = gb := hne
  have hrm : r < m := by rw [← hr]; exact Nat.mod_lt _ (by omega)
  have hw1 : IntKind.i64.wrap ((f : Int) + 1) = (f : Int) + 1 := by rw [IntKind.wrap_i64]; omega
  have hmod : ((f : Int) + 1).tmod (m : Int) = (r : Int) := by
    rw [Int.tmod_eq_emod_of_nonneg (by omega), ← hr, Int.natCast_emod, Int.natCast_add]
    rfl
  have r0 : (0 : Int) ≤ (f : Int) := by omega
  have r1 : (f : Int) < (m : Int) := by omega
  have m0n : ¬ m = 0 := by omega
  have m0b : ((m : Int) == 0) = false := by simpa using m0n
  have hn64 : n ≤ 64 := by omega
  have Hj := Lib.hid (And.intro hj (And.intro hfm (And.intro hrm (show n + 1 ≤ m by omega))))
  have H := Lib.hid h
  have Hq := Lib.hid (And.intro hn (And.intro hf (And.intro hm (And.intro hr (And.intro hG hL)))))
  clear h hn hf hm hr hG hne fr hj hfm hm2 hL hbl hrm hcell
  go_enter Try.func37, Try.ntmps37
  go_upto_region 1 with fail
  have hB0 : Below w.heap.size w (w.alloc (.cells zms.toArray 83)) := (Below.refl _ _).alloc (Nat.le_refl _) _
  have hz0 := Blk.new w 83 zms.toArray
  have hsz : w.heap.size < (w.alloc (.cells zms.toArray 83)).heap.size := by simp
  obtain ⟨W0, hW0⟩ : ∃ W0, w.alloc (.cells zms.toArray 83) = W0 := ⟨_, rfl⟩
  rw [show (#[Value.int .i64 0, .bool false, .string ⟨#[]⟩, .int .i64 0, .int .i64 0] : Array Value) = zms.toArray from rfl] at *
  rw [hW0] at hB0 hz0 hsz ⊢
  obtain ⟨g2, hg2⟩ : ∃ g2, w.heap.size = g2 := ⟨_, rfl⟩
  have Hg2 := Lib.hid hg2
  have HW0 := Lib.hid (And.intro hB0 (And.intro hz0 hsz))
  clear hW0 hz0 hsz
  have k0 := (hB0.cell (p := ⟨gb, j * 3, none⟩) hlt).trans hb0
  have k1 := (hB0.cell (p := ⟨gb, j * 3 + 1, none⟩) hlt).trans hb1
  have l0 := (hB0.cell (p := ⟨G, f * 5, none⟩) hltr).trans c0
  have l1 := (hB0.cell (p := ⟨G, f * 5 + 1, none⟩) hltr).trans c1
  have l2 := (hB0.cell (p := ⟨G, f * 5 + 2, none⟩) hltr).trans c2
  have l3 := (hB0.cell (p := ⟨G, f * 5 + 3, none⟩) hltr).trans c3
  have l4 := (hB0.cell (p := ⟨G, f * 5 + 4, none⟩) hltr).trans c4
  have hn0 : ¬ W0.heap.size = gb := by have := hB0.size; omega
  have hn1 : ¬ W0.heap.size = G := by have := hB0.size; omega
  have hn2 : ¬ gb = W0.heap.size := by have := hB0.size; omega
  have hn3 : ¬ G = W0.heap.size := by have := hB0.size; omega
  have Hw := Lib.hid (And.intro hb0 (And.intro hb1 (And.intro hb2 (And.intro c0 (And.intro c1 (And.intro c2 (And.intro c3 c4)))))))
  have Hf := Lib.hid (And.intro f0 (And.intro f1 (And.intro f2 (And.intro f3 (And.intro f4 (And.intro fb1 fb2))))))
  clear hB0 hb0 hb1 hb2 c0 c1 c2 c3 c4 f0 f1 f2 f3 f4 fb1 fb2
  rw [hg2]
  clear hg2
  go_cut [3] (fun s3 w' => ∃ g3, s3 = .pointer (some ⟨g3, 0, none⟩) ∧ Hid (Below W0.heap.size W0 w' ∧ W0.heap.size ≤ g3 ∧ Blk w' g3 83 (ms x).toArray))
  case first =>
    go_region_held3 (fun w' => w'.cell? ⟨gb, j * 3, none⟩ = some (.slice (some ⟨G, 0, none⟩) m m) ∧ w'.cell? ⟨gb, j * 3 + 1, none⟩ = some (.int .i64 f) ∧
      w'.cell? ⟨G, f * 5, none⟩ = some (.int .i64 x.src) ∧ w'.cell? ⟨G, f * 5 + 1, none⟩ = some (.bool x.item.mark) ∧ w'.cell? ⟨G, f * 5 + 2, none⟩ = some (.string x.item.key) ∧ w'.cell? ⟨G, f * 5 + 3, none⟩ = some (.int .i64 x.item.time) ∧ w'.cell? ⟨G, f * 5 + 4, none⟩ = some (.int .i64 x.item.value)) (go_keep) (fail)
    go_wp2_with fail
    go_meet
    case rel => exact ⟨_, rfl, Lib.hid ⟨((Below.refl _ _).alloc (Nat.le_refl _) _).drew, Nat.le_refl _, (Blk.new _ _ _).drew⟩⟩
  case rest =>
    rename World => w2
    obtain ⟨g3, rfl, H3⟩ := hcut
    clear k0 k1 l0 l1 l2 l3 l4
    have hB2 : Below w.heap.size w w2 := Below.then_ HW0.out.1 (Nat.le_of_lt HW0.out.2.2) H3.out.1
    have k0 := (hB2.cell (p := ⟨gb, j * 3, none⟩) hlt).trans Hw.out.1
    have k1 := (hB2.cell (p := ⟨gb, j * 3 + 1, none⟩) hlt).trans Hw.out.2.1
    have l0 := (hB2.cell (p := ⟨G, f * 5, none⟩) hltr).trans Hw.out.2.2.2.1
    have l1 := (hB2.cell (p := ⟨G, f * 5 + 1, none⟩) hltr).trans Hw.out.2.2.2.2.1
    have l2 := (hB2.cell (p := ⟨G, f * 5 + 2, none⟩) hltr).trans Hw.out.2.2.2.2.2.1
    have l3 := (hB2.cell (p := ⟨G, f * 5 + 3, none⟩) hltr).trans Hw.out.2.2.2.2.2.2.1
    have l4 := (hB2.cell (p := ⟨G, f * 5 + 4, none⟩) hltr).trans Hw.out.2.2.2.2.2.2.2
    have f0 := (hB2.frozen (p := ⟨G, f * 5, none⟩) hltr).trans Hf.out.1
    have f1 := (hB2.frozen (p := ⟨G, f * 5 + 1, none⟩) hltr).trans Hf.out.2.1
    have f2 := (hB2.frozen (p := ⟨G, f * 5 + 2, none⟩) hltr).trans Hf.out.2.2.1
    have f3 := (hB2.frozen (p := ⟨G, f * 5 + 3, none⟩) hltr).trans Hf.out.2.2.2.1
    have f4 := (hB2.frozen (p := ⟨G, f * 5 + 4, none⟩) hltr).trans Hf.out.2.2.2.2.1
    have HB2 := Lib.hid hB2
    clear hB2
    go_upto_region 2 with fail
    go_cut [] (fun w' => Hid (w' = (w2.setCells G (f * 5) zms).drew))
    case first =>
      go_region_held3 (fun w' => w'.cell? ⟨gb, j * 3, none⟩ = some (.slice (some ⟨G, 0, none⟩) m m) ∧ w'.cell? ⟨gb, j * 3 + 1, none⟩ = some (.int .i64 f)) (go_keep) (fail)
      go_wp2_with fail
      go_meet
      case rel => exact Lib.hid (by rw [zms, setCells5])
    case rest =>
      rename World => w3
      have h3 := hcut
      clear hcut
      have e3 := h3.out
      clear l0 l1 l2 l3 l4 f0 f1 f2 f3 f4
      have q0 : w3.cell? ⟨gb, j * 3, none⟩ = some (.slice (some ⟨G, 0, none⟩) m m) := by rw [e3]; exact (far_cell w2 G (f * 5) zms ⟨gb, j * 3, none⟩ hne').trans k0
      have q1 : w3.cell? ⟨gb, j * 3 + 1, none⟩ = some (.int .i64 f) := by rw [e3]; exact (far_cell w2 G (f * 5) zms ⟨gb, j * 3 + 1, none⟩ hne').trans k1
      have q2 : w3.frozen? ⟨gb, j * 3 + 1, none⟩ = false := by rw [e3]; exact (far_frozen w2 G (f * 5) zms ⟨gb, j * 3 + 1, none⟩).trans ((HB2.out.frozen (p := ⟨gb, j * 3 + 1, none⟩) hlt).trans Hf.out.2.2.2.2.2.1)
      clear k0 k1 e3
      go_upto_region 3 with fail
      go_cut [] (fun w' => Hid (w' = (w3.setCell ⟨gb, j * 3 + 1, none⟩ (.int .i64 r)).drew))
      case first =>
        go_region
        go_wp2_with fail
        go_meet
        case rel => exact Lib.hid rfl
      case rest =>
        rename World => w4
        have h4 := hcut
        clear hcut
        have q3 : w4.cell? ⟨gb, j * 3 + 2, none⟩ = some (.int .i64 ((n : Int) + 1)) := by
          rw [h4.out, World.cell?_drew, World.cell?_setCell_other _ _ _ _ (by simp), h3.out]
          exact (far_cell w2 G (f * 5) zms ⟨gb, j * 3 + 2, none⟩ hne').trans ((HB2.out.cell (p := ⟨gb, j * 3 + 2, none⟩) hlt).trans Hw.out.2.2.1)
        have q4 : w4.frozen? ⟨gb, j * 3 + 2, none⟩ = false := by
          rw [h4.out, World.frozen?_drew, World.frozen?_setCell, h3.out]
          exact (far_frozen w2 G (f * 5) zms ⟨gb, j * 3 + 2, none⟩).trans ((HB2.out.frozen (p := ⟨gb, j * 3 + 2, none⟩) hlt).trans Hf.out.2.2.2.2.2.2)
        clear q0 q1 q2
        go_upto_region 4 with fail
        go_cut [] (fun w' => Hid (w' = w4.setCell ⟨gb, j * 3 + 2, none⟩ (.int .i64 n)))
        case first =>
          go_wp2_with fail
          go_meet
          case rel => exact Lib.hid rfl
        case rest =>
          rename World => w5
          have h5 := hcut
          clear hcut
          have hg2 : g2 < W0.heap.size := by have := Hg2.out; have := HW0.out.2.2; omega
          have hg2b : ¬ g2 = gb ∧ ¬ g2 = G := by have := Hg2.out; omega
          have hg3b : ¬ g3 = gb ∧ ¬ g3 = G ∧ ¬ g3 = g2 := by have := H3.out.2.1; have := Hg2.out; omega
          have chain : ∀ b cs, b ≠ gb → b ≠ G → Blk w2 b 83 cs → Blk w5 b 83 cs := fun b cs hb1 hb2 hk => by
            have k1 : Blk w3 b 83 cs := by
              rw [h3.out]
              exact ((grown_setCells w2 G (f * 5) zms).block b hk.lt (by simpa using hb2)).trans hk
            have k2 : Blk w4 b 83 cs := by
              rw [h4.out]
              exact (k1.far (p := ⟨gb, j * 3 + 1, none⟩) hb1 _).drew
            rw [h5.out]
            exact k2.far (p := ⟨gb, j * 3 + 2, none⟩) hb1 _
          have hm5 := chain g3 _ hg3b.1 hg3b.2.1 H3.out.2.2
          have hz5 := chain g2 _ hg2b.1 hg2b.2 (Blk.below' (by have := HW0.out.2.1; rwa [Hg2.out] at this) H3.out.1)
          have m0 := hm5.cell 0
          have m1 := hm5.cell 1
          have m2 := hm5.cell 2
          have m3 := hm5.cell 3
          have m4 := hm5.cell 4
          have z0 := hz5.cell 0
          have z1 := hz5.cell 1
          have z2 := hz5.cell 2
          have z3 := hz5.cell 3
          have z4 := hz5.cell 4
          have y0 := hz5.frozen 0
          have y1 := hz5.frozen 1
          have y2 := hz5.frozen 2
          have y3 := hz5.frozen 3
          have y4 := hz5.frozen 4
          simp only [ms, it, zms, List.getElem?_toArray, List.getElem?_cons_zero, List.getElem?_cons_succ] at m0 m1 m2 m3 m4 z0 z1 z2 z3 z4
          have Hm5 := Lib.hid (And.intro hm5 hz5)
          clear q3 q4 hm5 hz5 chain
          have hg3c := hg3b.2.2
          have hg2c : ¬ g2 = g3 := fun e => hg3c e.symm
          go_wp2
          rw [setCells5z]
          have hz6 := Blk.setCells (ms x) 0 w5 _ Hm5.out.2 (by simp [ms, it, zms])
          rw [show (spliced zms.toArray.toList 0 (ms x)).toArray = (ms x).toArray by rfl] at hz6
          have hgr := grown_setCells w5 g2 0 (ms x)
          obtain ⟨w6, h6⟩ : ∃ w6, w5.setCells g2 0 (ms x) = w6 := ⟨_, rfl⟩
          rw [show ([.int .i64 x.src, .bool x.item.mark, .string x.item.key, .int .i64 x.item.time, .int .i64 x.item.value] : List Value) = ms x from rfl]
          rw [h6] at hz6 hgr ⊢
          have n0 := hz6.cell 0
          have n1 := hz6.cell 1
          have n2 := hz6.cell 2
          have n3 := hz6.cell 3
          have n4 := hz6.cell 4
          simp only [ms, it, List.getElem?_toArray, List.getElem?_cons_zero, List.getElem?_cons_succ] at n0 n1 n2 n3 n4
          refine bodyPost_ret (v := msv x) (by simp [results, Try.results37, go_sem, n0, n1, n2, n3, n4, msv]) rfl ?_
          obtain ⟨hn, hf, hm, hr, hG, hL⟩ := Hq.out
          have h := H.out
          have hjo := Hj.out.1
          have hbl := HB2.out
          have hgr2 : ∀ b, b ≠ g2 → b < w5.heap.size → w6.heap[b]? = w5.heap[b]? := fun b hb hl => hgr.block b hl (by simpa using hb)
          have hchg : Chg (fun x => x = t + 3 + j ∨ x = t + 2) σ w σ w6 := by
            have h1 := (Chg.of_below (fun x => x = t + 3 + j ∨ x = t + 2) σ hbl).grown (grown_setCells w2 G (f * 5) zms) (fun q hq => by cases hq; left; left; rw [← hG]; exact h.tr j hjo)
            have h2 := h1.drewN 1
            rw [show (w2.setCells G (f * 5) zms).drewN 1 = w3 by rw [h3.out]; rfl] at h2
            have h2b := (h2.setCell (p := ⟨gb, j * 3 + 1, none⟩) (.inl (.inr h.tb)) (.int .i64 (r : Int))).drewN 1
            rw [show (w3.setCell ⟨gb, j * 3 + 1, none⟩ (.int .i64 (r : Int))).drewN 1 = w4 by rw [h4.out]; rfl] at h2b
            have h2c := h2b.setCell (p := ⟨gb, j * 3 + 2, none⟩) (.inl (.inr h.tb)) (.int .i64 (n : Int))
            rw [← h5.out] at h2c
            exact h2c.grown hgr (fun q hq => by cases hq; right; rw [Hg2.out]; exact Nat.le_refl _)
          refine ⟨rfl, ⟨_, _, FlowIn.box h hjo (f * 5) zms r n (by rw [hm]; exact Hj.out.2.2.1) L hn (by rw [hm]; have := Hj.out.2.2.2; omega) ?_ ?_ hchg ?_⟩, hchg⟩
          · have h1 := row_far (row_below h.rb hbl) (G := G) (o := f * 5) (vs := zms) hne'
            have h2 := h1.drew
            rw [← h3.out] at h2
            have h2b := (h2.set (j * 3 + 1) (.int .i64 (r : Int))).drew
            rw [← h4.out] at h2b
            have h2c := h2b.set (j * 3 + 2) (.int .i64 (n : Int))
            rw [← h5.out] at h2c
            have h2d := h2c.of_block (hgr2 gb (fun e => hg2b.1 e.symm) h2c.lt)
            exact h2d.congr (fun i _ => bCells_take)
          · have h1 := row_setCells zms (f * 5) w2 (rc j) (by have := row_below (h.ring j hjo) hbl; rw [hG] at this; exact this)
            have h2 := h1.drew
            rw [← h3.out] at h2
            have h2b := (h2.setOther (a := ⟨gb, j * 3 + 1, none⟩) hne2 (.int .i64 (r : Int))).drew
            rw [← h4.out] at h2b
            have h2c := h2b.setOther (a := ⟨gb, j * 3 + 2, none⟩) hne2 (.int .i64 (n : Int))
            rw [← h5.out] at h2c
            rw [hG]
            exact h2c.of_block (hgr2 G (fun e => hg2b.2 e.symm) h2c.lt)
          · intro k x' hx' c v hv
            have hc5 := ms_lt hv
            rw [hm]
            have hkn : k < n := by have := (List.getElem?_eq_some_iff.1 hx').1; omega
            have h1 := h.has j hjo (k + 1) x' (by rw [hL]; exact hx') c v hv
            rw [hf, hm] at h1
            have e1 : (r + k) % m = (f + (k + 1)) % m := by rw [← hr, Nat.mod_add_mod]; congr 1; omega
            have e2 : (f + (k + 1)) % m ≠ f := by
              have h2 := mod_ne (f := f) (k := 0) (l := k + 1) (m := m) Hj.out.2.1 (by omega) (by have := Hj.out.2.2.2; omega)
              rw [Nat.add_zero, Nat.mod_eq_of_lt Hj.out.2.1] at h2
              exact fun e => h2 e.symm
            rw [e1, over_out (by simp [zms]; omega)]
            exact h1
end Go.Proofs.Ytapninpdjccglaa.C
