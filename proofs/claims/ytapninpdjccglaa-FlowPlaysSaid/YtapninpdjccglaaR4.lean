/-
  The document's flow: Take.
-/
import Derived.Test.YtapninpdjccglaaR3
set_option linter.unusedVariables false
set_option linter.unusedSimpArgs false
namespace Go.Proofs.Ytapninpdjccglaa.C
open Go.RowKit Go.Proofs.Ytapninpdjccglaa.K

theorem info87' : (Try.prog.info? 87).map (fun i => (i.zero, i.size, i.bytes)) = some (some (.agg #[.int .i64 0, .bool false, .string ⟨#[]⟩, .int .i64 0, .int .i64 0]), 5, 48) := by kernel_rfl
theorem slice_one5 (W : World) (b off n cp : Nat) : (Instr.slice 86 (.slice (some ⟨b, off, none⟩) (n + 1) (cp + 1)) (some (.int .i64 1)) none none).run Try.prog W = .ok (.slice (some ⟨b, if cp = 0 then off else off + 5, none⟩) n cp) W := by
  have h := run_slice_l (P := Try.prog) (w := W) 86 (some ⟨b, off, none⟩) (n + 1) (cp + 1) (by kernel_rfl) .i64 1 (by omega) (by omega)
  rw [h]
  have hs : (sizeOf (Try.prog.elem 86)).run Try.prog W = .ok 5 W := by
    obtain ⟨i, hi, he⟩ := Option.map_eq_some_iff.1 info87'
    simp only [Prod.mk.injEq] at he
    have : Try.prog.elem 86 = 87 := by kernel_rfl
    rw [this]
    simp [sizeOf, typeInfo, hi, he.2.1]
  rw [hs]
  simp only [Result.andThen, sliced]
  by_cases hc : cp = 0
  · subst hc
    simp
  · rw [if_neg (by simp; omega), if_neg hc]
    simp [Addr.add]
theorem mss_one (L : List Ms) : ∀ v ∈ L.flatMap ms, v.oneCell' = true := by
  intro v hv
  simp only [List.mem_flatMap] at hv
  obtain ⟨x, _, hx⟩ := hv
  exact ms_one x v hx
theorem mss_length (L : List Ms) : (L.flatMap ms).length = L.length * 5 := by
  induction L with
  | nil => rfl
  | cons x r ih => rw [List.flatMap_cons, List.length_append, ih]; simp [ms, it]; omega
/-- A slice of no elements, just made. -/
theorem SRow.made0 (w : World) (σ : Nat → Nat) (t : Nat) (e : TypeId) (sz : Nat) : SRow ((w.alloc (.cells #[] e)).drew) (upd σ w.heap.size t) t e sz (.slice (some ⟨w.heap.size, 0, none⟩) 0 0) 0 [] :=
  ⟨by simp, .inr ⟨w.heap.size, 0, 0, #[], rfl, (Blk.new w e #[]).drew, upd_new (Nat.le_refl _), Nat.le_refl _, Nat.zero_le _, by simp, by simp⟩⟩
/-- What is behind the first, to be copied. -/
theorem SRow.rest {w : World} {σ : Nat → Nat} {t : Nat} {e : TypeId} {sz b off n cp : Nat} {xs ys : List Value} (h : SRow w σ t e sz (.slice (some ⟨b, off, none⟩) (n + 1) (cp + 1)) (n + 1) (xs ++ ys)) (hx : xs.length = sz) (o2 : Nat) (ho : (if cp = 0 then off else off + sz) = o2) :
    ∀ j u, ys[j]? = some u → w.cell? ((⟨b, o2, none⟩ : Addr).add j) = some u := by
  intro j u hj
  have hadd : (⟨b, o2, none⟩ : Addr).add j = ⟨b, o2 + j, none⟩ := by unfold Addr.add; split <;> simp_all
  rw [hadd]
  have hlen := h.1
  rw [List.length_append, hx] at hlen
  have hc : ¬ cp = 0 := by
    intro e
    obtain ⟨cur, _, _, hn, _⟩ := h.block
    have h0 : n = 0 := by omega
    rw [h0] at hlen
    have hy : ys.length = 0 := by omega
    have := (List.getElem?_eq_some_iff.1 hj).1
    omega
  rw [if_neg hc] at ho
  have h2 := srow_at h (sz + j) u (by rw [List.getElem?_append_right (by omega), hx, show sz + j - sz = j by omega]; exact hj)
  rw [← ho, show off + sz + j = off + (sz + j) by omega]
  exact h2

set_option maxRecDepth 100000 in
set_option maxHeartbeats 1600000 in
theorem r_take (w : World) (σ : Nat → Nat) (t g : Nat) (ht0 : 0 < t) (F : FS) (hF : RefAt w σ t g F) (j : Int) :
    Calls Try.prog 27 #[.pointer (some ⟨g, 0, none⟩), .int .i64 j] w fun e w' => e = .returned (.tuple #[.int .i64 (F.take j).1, itv (F.take j).2.1, .int .i64 (F.take j).2.2.1]) ∧ ∃ σ', RefAt w' σ' t g (F.take j).2.2.2 ∧ Chg (Of t) σ w σ' w' := by
  have hB : Below w.heap.size w (w.alloc (.cells #[.bool false, .string ⟨#[]⟩, .int .i64 0, .int .i64 0] 33)) := (Below.refl _ _).alloc (Nat.le_refl _) _
  have hF1 := (hF.upd (Nat.le_refl _) 0).below hB
  have hrv := Blk.new w 33 #[.bool false, .string ⟨#[]⟩, .int .i64 0, .int .i64 0]
  have HBF := Lib.hid (And.intro hB (And.intro hF hF1))
  have Ht := Lib.hid ht0
  obtain ⟨gq, gb, gn, qv, bv, h⟩ := hF1
  have hc1 := h.c2
  by_cases hi : 0 ≤ j ∧ j < F.o
  · obtain ⟨d, rfl⟩ := Int.eq_ofNat_of_zero_le hi.1
    have hd : d < F.o := by omega
    have hl := h.b0 hd
    have hrow := h.bs d hd
    have hlen := h.good.b d hd
    have hm64 := h.good.m2
    have ht : F.take (d : Int) = match F.b d with | [] => (0, zitem, 44, F) | x :: L => (x.src, x.item, 0, F.putb d L) := by
      unfold FS.take
      rw [if_pos hi, Int.toNat_natCast]
      rfl
    obtain ⟨o, ho⟩ : ∃ o, F.o = o := ⟨_, rfl⟩
    rw [ho] at hc1 hd
    have j1 : ¬ (d : Int) < 0 := by omega
    have j2 : ¬ (o : Int) ≤ (d : Int) := by omega
    have j3 : (0 : Int) ≤ (d : Int) := by omega
    have j4 : (d : Int) < (o : Int) := by omega
    rcases hL : F.b d with _ | ⟨x, L⟩
    · rw [hL] at ht hrow
      obtain ⟨A, c, hv, hnc⟩ := hrow.slice
      rw [hv] at hl
      rw [show F.take (d : Int) = (0, zitem, 44, F) from ht]
      simp only [List.length_nil] at hl
      clear ht hL h hF hi hd ho hB hrv hrow hv hnc hlen hm64
      go_enter Try.func27, Try.ntmps27
      go_wp2
      refine bodyPost_ret (v := .tuple #[.int .i64 0, itv zitem, .int .i64 44]) (by simp [results, Try.results27, go_sem, itv, zitem]) rfl ⟨rfl, σ, HBF.out.2.1.below HBF.out.1, Chg.of_below _ _ HBF.out.1⟩
    · rw [hL] at ht hrow hlen
      rw [show F.take (d : Int) = (x.src, x.item, 0, F.putb d L) from ht]
      obtain ⟨n, hn⟩ : ∃ n, L.length = n := ⟨_, rfl⟩
      rw [List.flatMap_cons] at hrow
      obtain ⟨b, off, cap, hv, hnc, hcm, hsb, hbl, hcells, hfz⟩ := hrow.form (by simp)
      rw [List.length_cons, hn] at hv hnc hrow hlen
      obtain ⟨cp, rfl⟩ : ∃ cp, cap = cp + 1 := ⟨cap - 1, by omega⟩
      rw [hv] at hl hrow
      have i0 := hcells 0 (.int .i64 x.src) rfl
      have i1 := hcells 1 (.bool x.item.mark) rfl
      have i2 := hcells 2 (.string x.item.key) rfl
      have i3 := hcells 3 (.int .i64 x.item.time) rfl
      have i4 := hcells 4 (.int .i64 x.item.value) rfl
      rw [Nat.add_zero] at i0
      have hv' := hv
      have hn0 : ¬ ((n : Int) + 1 = 0) := by omega
      have hn1 : (((n : Int) + 1) == 0) = false := by simp; omega
      have hn2 : (0 : Int) < (n : Int) + 1 := by omega
      have hnx : n ≤ cp := by omega
      obtain ⟨o2, ho2⟩ : ∃ o2, (if cp = 0 then off else off + 5) = o2 := ⟨_, rfl⟩
      have hnews := SRow.rest hrow rfl o2 ho2
      have hsl := fun W => slice_one5 W b off n cp
      simp only [ho2] at hsl
      have hbm : Below (w.alloc (.cells #[.bool false, .string ⟨#[]⟩, .int .i64 0, .int .i64 0] 33)).heap.size (w.alloc (.cells #[.bool false, .string ⟨#[]⟩, .int .i64 0, .int .i64 0] 33)) ((w.alloc (.cells #[.bool false, .string ⟨#[]⟩, .int .i64 0, .int .i64 0] 33)).alloc (.cells #[.int .i64 x.src, .bool x.item.mark, .string x.item.key, .int .i64 x.item.time, .int .i64 x.item.value] 87)) := (Below.refl _ _).alloc (Nat.le_refl _) _
      have hmb : Blk ((w.alloc (.cells #[.bool false, .string ⟨#[]⟩, .int .i64 0, .int .i64 0] 33)).alloc (.cells #[.int .i64 x.src, .bool x.item.mark, .string x.item.key, .int .i64 x.item.time, .int .i64 x.item.value] 87)) (w.heap.size + 1) 87 #[.int .i64 x.src, .bool x.item.mark, .string x.item.key, .int .i64 x.item.time, .int .i64 x.item.value] := by
        have := Blk.new (w.alloc (.cells #[.bool false, .string ⟨#[]⟩, .int .i64 0, .int .i64 0] 33)) 87 #[.int .i64 x.src, .bool x.item.mark, .string x.item.key, .int .i64 x.item.time, .int .i64 x.item.value]
        rwa [World.size_alloc] at this
      have hR1 := h.below hbm
      have hC1 : Chg (Of t) σ w (upd σ w.heap.size 0) ((w.alloc (.cells #[.bool false, .string ⟨#[]⟩, .int .i64 0, .int .i64 0] 33)).alloc (.cells #[.int .i64 x.src, .bool x.item.mark, .string x.item.key, .int .i64 x.item.time, .int .i64 x.item.value] 87)) := ((Chg.of_below (Of t) σ HBF.out.1).upd (Nat.le_refl _) 0).below hbm
      have hrv1 := hrv.below' hbm
      have hnews1 : ∀ j u, (L.flatMap ms)[j]? = some u → ((w.alloc (.cells #[.bool false, .string ⟨#[]⟩, .int .i64 0, .int .i64 0] 33)).alloc (.cells #[.int .i64 x.src, .bool x.item.mark, .string x.item.key, .int .i64 x.item.time, .int .i64 x.item.value] 87)).cell? ((⟨b, o2, none⟩ : Addr).add j) = some u := fun j u hj => by
        have h0 := hnews j u hj
        exact (hbm.cell (p := (⟨b, o2, none⟩ : Addr).add j) (World.block_lt_of_cell? _ _ h0)).trans h0
      have hm0 : upd σ w.heap.size 0 w.heap.size = 0 ∧ upd σ w.heap.size 0 (w.heap.size + 1) = 0 := ⟨upd_new (Nat.le_refl _), upd_new (Nat.le_succ _)⟩
      have H := Lib.hid (And.intro hR1 (And.intro (show d < F.o by omega) (And.intro hn (And.intro hnews1 (And.intro hC1 (And.intro hrv1 (And.intro hmb hm0)))))))
      have hn64 : n ≤ 64 := by omega
      have hn5 := h.good.b d (by omega)
      rw [hL, List.length_cons, hn] at hn5
      have Hn5 := Lib.hid (show n ≤ F.m by omega)
      clear ht hL h hF hi hd hB hrv hn hrow hnews hv hnc hcm hsb hbl hcells hfz ho2 hlen hm64 hbm hmb hR1 hC1 hrv1 hnews1 hm0 hn5
      go_enter Try.func27, Try.ntmps27
      go_upto_region 6 with fail
      clear i0 i1 i2 i3 i4 hc1 hl
      generalize hW1 : ((w.alloc (.cells #[.bool false, .string ⟨#[]⟩, .int .i64 0, .int .i64 0] 33)).alloc (.cells #[.int .i64 x.src, .bool x.item.mark, .string x.item.key, .int .i64 x.item.time, .int .i64 x.item.value] 87)) = W1 at *
      clear hW1
      generalize hS1 : upd σ w.heap.size 0 = σ1 at *
      clear hS1
      generalize hg1 : w.heap.size + 1 = g1 at *
      generalize hg0 : w.heap.size = g0 at *
      have Hg0 := Lib.hid hg0
      clear hg1 hg0
      have c2 : W1.cell? ⟨g, 2, none⟩ = some (.slice (some ⟨gb, 0, none⟩) o o) := by rw [H.out.1.c2, ho]
      have q0 : W1.cell? ⟨gb, d, none⟩ = some (.slice (some ⟨b, off, none⟩) (n + 1) (cp + 1)) := by rw [H.out.1.b0 H.out.2.1, hv']
      have hfz := H.out.1.rb.frozen d
      have hba : Below W1.heap.size W1 ((W1.alloc (.cells #[] 87)).drew) := ((Below.refl _ _).alloc (Nat.le_refl _) _).drew
      have hba2 : Below W1.heap.size W1 (W1.alloc (.cells #[] 87)) := (Below.refl _ _).alloc (Nat.le_refl _) _
      have kq := (hba2.cell (p := ⟨gb, d, none⟩) (World.block_lt_of_cell? _ _ q0)).trans q0
      have kg := (hba2.cell (p := ⟨g, 2, none⟩) (World.block_lt_of_cell? _ _ c2)).trans c2
      have HNEW : Hid (∀ j u, (L.flatMap ms)[j]? = some u → ((W1.alloc (.cells #[] 87)).drew).cell? ((⟨b, o2, none⟩ : Addr).add j) = some u) := Lib.hid (fun j u hj => by
        have h0 := H.out.2.2.2.1 j u hj
        exact (hba.cell (p := (⟨b, o2, none⟩ : Addr).add j) (World.block_lt_of_cell? _ _ h0)).trans h0)
      have KK : Hid (∀ (w2 : World) (σ2 : Nat → Nat), Chg (fun y => y = t + 4 + d) (upd σ1 W1.heap.size (t + 4 + d)) ((W1.alloc (.cells #[] 87)).drew) σ2 w2 → w2.cell? ⟨g, 2, none⟩ = some (.slice (some ⟨gb, 0, none⟩) o o) ∧ w2.frozen? ⟨gb, d, none⟩ = false ∧ w2.cell? ⟨gb, d, none⟩ = some (.slice (some ⟨b, off, none⟩) (n + 1) (cp + 1))) := Lib.hid (by
        intro w2 σ2 hc2
        have l1 := World.block_lt_of_cell? _ _ q0
        have l2 := World.block_lt_of_cell? _ _ c2
        have e1 := hc2.block gb (Nat.lt_of_lt_of_le l1 hba.size) (by rw [upd_old l1, H.out.1.tb]; omega)
        have e2 := hc2.block g (Nat.lt_of_lt_of_le l2 hba.size) (by rw [upd_old l2, H.out.1.blk.2]; omega)
        exact ⟨(World.cell?_of_block (a := ⟨g, 2, none⟩) e2).trans ((hba.cell (p := ⟨g, 2, none⟩) l2).trans c2), (World.frozen?_of_block (a := ⟨gb, d, none⟩) e1).trans ((hba.frozen (p := ⟨gb, d, none⟩) l1).trans hfz), (World.cell?_of_block (a := ⟨gb, d, none⟩) e1).trans ((hba.cell (p := ⟨gb, d, none⟩) l1).trans q0)⟩)
      have HB := Lib.hid hba
      have hlen5 : (L.flatMap ms).length = n * 5 := by rw [mss_length, H.out.2.2.1]
      have Hlen5 := Lib.hid hlen5
      clear hba hba2 hlen5
      obtain ⟨i5, hi5, hz0, hz1, hz2⟩ := info_of info87'
      go_cut [] (fun w' => ∃ σ', RefAt w' σ' t g (F.putb d L) ∧ Chg (fun y => y = t + 2 ∨ y = t + 4 + d) σ1 W1 σ' w')
      case first =>
        go_region_law (first | (refine step_append_srow (by rfl) _ _ 86 (by rfl) (upd σ1 W1.heap.size (t + 4 + d)) (t + 4 + d) 87 i5 _ 5 48 Try.underlying86 hi5 hz0 hz1 hz2 rfl (by omega) (.slice (some ⟨W1.heap.size, 0, none⟩) 0 0) 0 [] (by rfl) (SRow.made0 W1 σ1 (t + 4 + d) 87 5) ⟨b, o2, none⟩ n cp (L.flatMap ms) (by rfl) Hlen5.out (HNEW.out) (mss_one _) (by unfold maxLen; omega) (by omega) ?_; intro v2 w2 hs2 hc2; rw [Nat.zero_add, List.nil_append] at hs2; obtain ⟨A2, c2', rfl, -⟩ := hs2.slice; obtain ⟨kk0, kkf, kk1⟩ := KK.out _ _ hc2) | fail)
        all_goals
          have hcc := (((Chg.of_below (fun y => y = t + 4 + d) σ1 HB.out).upd (Nat.le_refl _) (t + 4 + d)).trans hc2)
          obtain ⟨hr1, hr2⟩ := H.out.1.setb H.out.2.1 (.slice A2 n c2') L (by rw [H.out.2.2.1]; exact Hn5.out) (by rw [H.out.2.2.1]; exact hs2) hcc
          clear hs2 hc2 kk0 kkf kk1 hcc
          go_wp2_with fail
          go_meet
          case rel => exact ⟨_, ⟨_, _, _, _, _, hr1⟩, hr2⟩
      case rest =>
        rename World => w5
        obtain ⟨σ5, h5, c5⟩ := hcut
        have ht0 := Ht.out
        have l0 := H.out.2.2.2.2.2.1.lt
        have l1 := H.out.2.2.2.2.2.2.1.lt
        have hs0 := H.out.2.2.2.2.2.2.2.1
        have hs1 := H.out.2.2.2.2.2.2.2.2
        have hrv2 : Blk w5 g0 33 #[.bool false, .string ⟨#[]⟩, .int .i64 0, .int .i64 0] := (c5.block g0 l0 (by rw [hs0]; omega)).trans H.out.2.2.2.2.2.1
        have hms2 : Blk w5 g1 87 #[.int .i64 x.src, .bool x.item.mark, .string x.item.key, .int .i64 x.item.time, .int .i64 x.item.value] := (c5.block g1 l1 (by rw [hs1]; omega)).trans H.out.2.2.2.2.2.2.1
        have v0 := hrv2.cell 0
        have v1 := hrv2.cell 1
        have v2 := hrv2.cell 2
        have v3 := hrv2.cell 3
        have y0 := hrv2.frozen 0
        have y1 := hrv2.frozen 1
        have y2 := hrv2.frozen 2
        have y3 := hrv2.frozen 3
        have m0 := hms2.cell 0
        have m1 := hms2.cell 1
        have m2 := hms2.cell 2
        have m3 := hms2.cell 3
        have m4 := hms2.cell 4
        simp only [List.getElem?_toArray, List.getElem?_cons_zero, List.getElem?_cons_succ] at v0 v1 v2 v3 m0 m1 m2 m3 m4
        have hsig0 : σ5 g0 = 0 := (c5.marks g0 l0).trans hs0
        have hne : ¬ g0 = g1 := by
          intro e
          have h1 := H.out.2.2.2.2.2.1
          have h2 := H.out.2.2.2.2.2.2.1
          rw [e] at h1
          have := h1.symm.trans h2
          cases this
        have hne2 : ¬ g1 = g0 := fun e => hne e.symm
        have H2 := Lib.hid (And.intro h5 (And.intro c5 (And.intro hrv2 hsig0)))
        clear h5 c5 hrv2 hms2 l0 l1 hs0 hs1 ht0 hsig0 c2 q0 hfz kq kg
        go_wp2_with fail
        go_region
        all_goals
          go_wp2
          rw [setCells4zz]
          have hb3 := Blk.setCells [.bool x.item.mark, .string x.item.key, .int .i64 x.item.time, .int .i64 x.item.value] 0 w5 _ H2.out.2.2.1 (by simp)
          rw [show (spliced (#[.bool false, .string ⟨#[]⟩, .int .i64 0, .int .i64 0] : Array Value).toList 0 [.bool x.item.mark, .string x.item.key, .int .i64 x.item.time, .int .i64 x.item.value]).toArray = (it x.item).toArray by rfl] at hb3
          have hgr := grown_setCells w5 g0 0 [.bool x.item.mark, .string x.item.key, .int .i64 x.item.time, .int .i64 x.item.value]
          obtain ⟨w3, hw3⟩ : ∃ w3, w5.setCells g0 0 [.bool x.item.mark, .string x.item.key, .int .i64 x.item.time, .int .i64 x.item.value] = w3 := ⟨_, rfl⟩
          rw [hw3] at hb3 hgr ⊢
          have hb4 : Below w3.heap.size w3 w3.drew := (Below.refl _ _).drew
          obtain ⟨w4, hw4⟩ : ∃ w4, w3.drew = w4 := ⟨_, rfl⟩
          rw [hw4] at hb4 ⊢
          have hb5 := hb3.below' hb4
          have n0 := hb5.cell 0
          have n1 := hb5.cell 1
          have n2 := hb5.cell 2
          have n3 := hb5.cell 3
          simp only [it, List.getElem?_toArray, List.getElem?_cons_zero, List.getElem?_cons_succ] at n0 n1 n2 n3
          have ht0 := Ht.out
          have ho8 := H.out.1.good.o2
          have hd8 := H.out.2.1
          have cz : Chg (fun y => y = 0) σ5 w5 σ5 w4 := ((Chg.refl (fun y => y = 0) σ5 w5).grown hgr (fun q hq => by cases hq; exact .inl H2.out.2.2.2)).below hb4
          have cg : Chg (Of t) σ w σ5 w5 := H.out.2.2.2.2.1.trans (H2.out.2.1.mono (fun y hy => by unfold Of; omega))
          have c4 : Chg (Of t) σ w σ5 w4 := (cg.grown hgr (fun q hq => by cases hq; exact .inr (Nat.le_of_eq Hg0.out))).below hb4
          refine bodyPost_ret (v := .tuple #[.int .i64 x.src, itv x.item, .int .i64 0]) (by simp [results, Try.results27, go_sem, itv, n0, n1, n2, n3]) rfl ⟨rfl, σ5, H2.out.1.chg cz (fun y hy e => by unfold Of at hy; omega), c4⟩
  · have ht : F.take j = (0, zitem, 1, F) := by unfold FS.take; rw [if_neg hi]
    rw [ht]
    obtain ⟨o, ho⟩ : ∃ o, F.o = o := ⟨_, rfl⟩
    rw [ho] at hc1 hi
    have hcase : j < 0 ∨ (¬ j < 0 ∧ (o : Int) ≤ j) := by omega
    clear hi ht h hF ho hB hrv
    rcases hcase with h1 | ⟨h1, h2⟩
    all_goals
      go_enter Try.func27, Try.ntmps27
      go_wp2
      refine bodyPost_ret (v := .tuple #[.int .i64 0, itv zitem, .int .i64 1]) (by simp [results, Try.results27, go_sem, itv, zitem]) rfl ⟨rfl, σ, HBF.out.2.1.below HBF.out.1, Chg.of_below _ _ HBF.out.1⟩
end Go.Proofs.Ytapninpdjccglaa.C
