/-
  Locks: LocksEnds: the walk.
-/
import Derived.Test.YtgcnappgecdldaaN1
set_option linter.unusedVariables false
set_option linter.unusedSimpArgs false
namespace Go.Proofs.Ytgcnappgecdldaa.C
open Go.RowKit Go.Proofs.Ytgcnappgecdldaa.K Go.Maps

theorem new_bad (w : World) (m : Int) (h : ¬ (1 ≤ m ∧ m ≤ 1024)) :
    Calls Try.prog 13 #[.int .i64 m] w fun e w' => e = .returned (.tuple #[.pointer none, .int .i64 1]) ∧ w' = w := by
  by_cases h1 : m < 1
  · go_enter Try.func13, Try.ntmps13
    go_wp2
    go_ret2
    exact ⟨rfl, rfl⟩
  · have h2 : (1024 : Int) < m := by omega
    go_enter Try.func13, Try.ntmps13
    go_wp2
    go_ret2
    exact ⟨rfl, rfl⟩

/-- LocksEnds between two calls. -/
structure Ew (w0 wr : World) (σ : Nat → Nat) (g : Nat) (m : Int) (n : Nat) (T : List Int) (M : Mgr) (vt : Value) : Prop where
  len : T.length = n
  row : Row wr σ 5 3 1 vt n (T.map (Value.int .i64))
  mgr : MgrAt wr σ 1000 g M
  gm : GM M
  mm : M.m = m
  st : St w0 σ wr
  in_ : ∀ c ∈ M.all, c.task ∈ T
section
variable {w0 wr w' : World} {σ σ' : Nat → Nat} {g n : Nat} {m : Int} {T : List Int} {M M' : Mgr} {vt : Value} {A : Option Addr} {cap : Nat}
theorem Ew.step (h : Ew w0 wr σ g m n T M vt) (c : Chg (Om 1000) σ wr σ' w') (hm : MgrAt w' σ' 1000 g M') (hg : GM M' ∧ M'.m = M.m ∧ M'.cnt ≤ M.cnt ∧ (∀ c ∈ M'.all, c ∈ M.all)) : Ew w0 w' σ' g m n T M' vt :=
  ⟨h.len, h.row.chg c (by unfold Om; omega), hm, hg.1, hg.2.1.trans h.mm, h.st.chg c (by unfold Om; omega), fun c hc => h.in_ c (hg.2.2.2 c hc)⟩
theorem Ew.below (h : Ew w0 wr σ g m n T M vt) (hb : Below wr.heap.size wr w') : Ew w0 w' σ g m n T M vt := h.step (Chg.of_below _ _ hb) (h.mgr.below hb) ⟨h.gm, rfl, Nat.le_refl _, fun c h => h⟩
theorem Ew.upd (h : Ew w0 wr σ g m n T M vt) {k : Nat} (hk : wr.heap.size ≤ k) (x : Nat) : Ew w0 wr (K.upd σ k x) g m n T M vt := h.step ((Chg.refl _ _ _).upd hk x) (h.mgr.chg ((Chg.refl (fun _ => False) σ wr).upd hk x) (fun _ _ h => h)) ⟨h.gm, rfl, Nat.le_refl _, fun c h => h⟩
theorem Ew.task (h : Ew w0 wr σ g m n T M (.slice A n cap)) (i : Nat) (hi : i < T.length) : ∃ ga, A = some ⟨ga, 0, none⟩ ∧ ga < wr.heap.size ∧ wr.cell? ⟨ga, i, none⟩ = some (.int .i64 T[i]) := by
  have hl := h.len
  obtain ⟨ga, cap, e, _, hg⟩ := own_form h.row.1 (by omega)
  cases e
  refine ⟨ga, rfl, hg, (World.ownsRow.cellAt h.row.1 i (by omega)).trans ?_⟩
  rw [List.getElem?_map, List.getElem?_eq_getElem hi]
  rfl
end

set_option maxRecDepth 100000 in
set_option maxHeartbeats 6400000 in
theorem ends_walk (w : World) (a0 : Int) (w0 : (Lit.int .i64 a0).wf = true)
    (v1 : Value) (o1 : ∃ (A : Option Addr) (n c : Nat) (f : Nat → LSt), v1 = .slice A n c ∧ n ≤ c ∧ LSteps w A n f ∧ n ≤ 140737488351232) :
    Calls Try.prog 7 #[.int .i64 a0, v1] w fun e w' => e = .returned (.bool true) ∧ Below w.heap.size w w' := by
  obtain ⟨A1, n1, c1, f1, rfl, hc1, hF1, hn1⟩ := o1
  have HF := Lib.hid hF1
  clear hF1 hc1
  go_enter Try.func7, Try.ntmps7
  go_wp2_with fail
  refine (known_c w).mono ?_
  rintro e w1 ⟨rfl, hb1⟩
  have HB := Lib.hid hb1
  clear hb1
  go_wp2_with fail
  by_cases hm : 1 ≤ a0 ∧ a0 ≤ 1024
  · obtain ⟨m, rfl⟩ := Int.eq_ofNat_of_zero_le (show 0 ≤ a0 by omega)
    refine (new_mgr w1 m (by omega) (by omega) (fun _ => 0) 1000).mono ?_
    rintro e w2 ⟨g, rfl, hgw, hmg, hb⟩
    have H2 := Lib.hid (show Ew w w2 (K.upd (fun _ => 0) w1.heap.size 1000) g m 0 [] ⟨m, [], []⟩ (.slice none 0 0) from
      ⟨rfl, Row.nil _ _ _ _ _, hmg, GM.new _, rfl, (((St.first w).below HB.out).upd HB.out.size 1000).below hb, fun c hc => by simp [Mgr.all] at hc⟩)
    have hm2 : m ≤ 1024 := by omega
    clear hmg hb hgw HB hm
    generalize K.upd (fun _ => 0) w1.heap.size 1000 = σ2 at H2
    obtain ⟨i3, hi3, hy0, hy1, hy2⟩ := info_parts2 info3p
    have HI3 := Lib.hid (And.intro hi3 (And.intro hy0 (And.intro hy1 hy2)))
    clear hi3 hy0 hy1 hy2
    go_wp2_with fail
    go_loopw [7, 8] (fun vt vi wr => ∃ (i n : Nat) (T : List Int) (M : Mgr) (σ : Nat → Nat), vi = .int .i64 i ∧ i ≤ n1 ∧ i ≤ 1500 ∧ n ≤ i ∧ M.cnt ≤ n ∧ Ew w wr σ g m n T M vt) (fun _ vi _ => 1500 - (intOf vi).toNat)
    case atStart => exact ⟨0, 0, [], _, σ2, rfl, by omega, by omega, Nat.le_refl _, Nat.le_refl _, H2.out⟩
    case round =>
      clear H2
      rename World => wa
      obtain ⟨i, n, T, M, σ, rfl, hin1, hi15, hni, hcn, hE⟩ := hrel
      obtain ⟨At, ct, rfl⟩ := hE.row.slice
      have HE := Lib.hid hE
      clear hE
      by_cases hi : i < n1 ∧ i < 1500
      · have i0 : (0 : Int) ≤ (i : Int) := by omega
        have i1 : (i : Int) < (n1 : Int) := by omega
        have i2 : (i : Int) < 1500 := by omega
        obtain ⟨bs, ps, rfl, hbs, hcells⟩ := HF.out.at_ (by omega)
        have hok := (HF.out.ok i (by omega)).below HE.out.st.bel
        have hcc := hcells i (by omega)
        clear hcells
        obtain ⟨⟨kd, task, AL, nl, cl, L⟩, hs⟩ : ∃ s, f1 i = s := ⟨_, rfl⟩
        rw [hs] at hok hcc
        have d0 : wa.cell? ⟨bs, ps + i * 3, none⟩ = some (.int .i64 kd) := (HE.out.st.bel.cell (p := ⟨bs, ps + i * 3, none⟩) hbs).trans (hcc 0 _ rfl)
        have d1 : wa.cell? ⟨bs, ps + i * 3 + 1, none⟩ = some (.int .i64 task) := (HE.out.st.bel.cell (p := ⟨bs, ps + i * 3 + 1, none⟩) hbs).trans (hcc 1 _ rfl)
        have d2 : wa.cell? ⟨bs, ps + i * 3 + 2, none⟩ = some (.slice AL nl cl) := (HE.out.st.bel.cell (p := ⟨bs, ps + i * 3 + 2, none⟩) hbs).trans (hcc 2 _ rfl)
        have HK := Lib.hid hok
        clear hok hcc hs hbs
        go_upto_region 11 with fail
        have hba : Below wa.heap.size wa (wa.alloc (.cells #[.int .i64 kd, .int .i64 task, .slice AL nl cl] 53)) := (Below.refl _ _).alloc (Nat.le_refl _) _
        have hbx := Blk.new wa 53 #[.int .i64 kd, .int .i64 task, .slice AL nl cl]
        have HA := Lib.hid (And.intro ((HE.out.upd (Nat.le_refl _) 0).below hba) (And.intro (HK.out.below hba) (And.intro hbx (show K.upd σ wa.heap.size 0 wa.heap.size = 0 from upd_new (Nat.le_refl _)))))
        clear HE HK hba hbx d0 d1 d2
        generalize wa.alloc (.cells #[.int .i64 kd, .int .i64 task, .slice AL nl cl] 53) = wb at HA ⊢
        generalize K.upd σ wa.heap.size 0 = σb at HA
        generalize wa.heap.size = q at HA ⊢
        have d0 : wb.cell? ⟨q, 0, none⟩ = some (.int .i64 kd) := by rw [HA.out.2.2.1.cell]; rfl
        have d1 : wb.cell? ⟨q, 1, none⟩ = some (.int .i64 task) := by rw [HA.out.2.2.1.cell]; rfl
        have d2 : wb.cell? ⟨q, 2, none⟩ = some (.slice AL nl cl) := by rw [HA.out.2.2.1.cell]; rfl
        by_cases hk1 : kd = 1
        · subst hk1
          have hask : ∀ W, W = wb.drew → Calls Try.prog 15 #[.pointer (some ⟨g, 0, none⟩), .int .i64 task, .slice AL (min nl 40) cl] W fun e w' => _ := fun W hW => hW ▸ ask_any wb.drew σb 1000 g M (HA.out.1.mgr.below (Below.refl _ _).drew) (by omega) task AL (min nl 40) cl (L.take 40) (by have hh := HA.out.2.1.len; dsimp only at hh; rw [List.length_take, hh]; omega) (by omega) ((HA.out.2.1.rd.below (Below.refl _ _).drew).take 40) (fun p hp => HA.out.2.1.wl p (List.mem_of_mem_take hp))
          have HC15 := Lib.hid hask
          have HC26 : Hid (∀ W, Calls Try.prog 26 #[.slice AL nl cl] W fun e w' => e = .returned (.slice AL (min nl 40) cl) ∧ w' = W) := Lib.hid (fun W => first_c W AL nl cl HA.out.2.1.cap)
          have HKS : Hid (∀ W σ', Chg (Om 1000) σb wb.drew σ' W → W.cell? ⟨q, 1, none⟩ = some (.int .i64 task) ∧ W.cell? ⟨q, 2, none⟩ = some (.slice AL nl cl)) := Lib.hid (fun W σ' c => by
            have hb : Blk W q 53 #[.int .i64 1, .int .i64 task, .slice AL nl cl] := (c.block q HA.out.2.2.1.lt (by rw [HA.out.2.2.2]; unfold Om; omega)).trans HA.out.2.2.1
            exact ⟨by rw [hb.cell]; rfl, by rw [hb.cell]; rfl⟩)
          clear hask
          go_upto_region 13 with fail
          clear d0 d1 d2
          go_cut [10, 11] (fun a b w' => ∃ ok v M' σ', a = .bool ok ∧ b = v ∧ AskR M task (L.take 40) w' ok v M' ∧ MgrAt w' σ' 1000 g M' ∧ Chg (Om 1000) σb wb.drew σ' w')
          case first =>
            obtain ⟨s1, s2⟩ := HKS.out wb.drew σb (Chg.refl _ _ _)
            go_region_held3 (fun W => W.cell? ⟨q, 1, none⟩ = some (.int .i64 task) ∧ W.cell? ⟨q, 2, none⟩ = some (.slice AL nl cl)) (first | exact HKS.out _ _ (Chg.refl _ _ _) | exact HKS.out _ _ (by assumption) | fail)
              ((first | (go_at_call 26; refine (HC26.out _).mono ?_; rintro e w6 ⟨rfl, rfl⟩) | (go_at_call 15; refine (HC15.out _ rfl).mono ?_; rintro e w5 ⟨ok5, v5, M5, rfl, hr5, σ5, hm5, hc5⟩) | fail))
            go_wp2_with fail
            go_meet
            case rel => exact ⟨ok5, v5, M5, σ5, rfl, rfl, hr5, hm5, hc5⟩
          case rest =>
            rename World => wd
            obtain ⟨ok, v, M', σ', rfl, rfl, hr, hm, hc⟩ := hcut
            have hc2 := (Chg.of_below (Om 1000) σb (Below.refl wb.heap.size wb).drew).trans hc
            obtain ⟨d1, d2⟩ := HKS.out wd σ' hc
            clear d2 HC15 HC26 HKS hc
            cases hr with
            | arg v hrf _ =>
              have HN := Lib.hid (HA.out.1.step hc2 hm ⟨HA.out.1.gm, rfl, Nat.le_refl _, fun c h => h⟩)
              obtain ⟨pb, rfl, _⟩ := hrf
              clear hm hc2 d1 HA
              go_wp2_with fail
              go_roundw
              case rel => exact ⟨i + 1, n, T, M, σ', by go_num, by omega, by omega, by omega, hcn, HN.out⟩
              case measure => simp [intOf]; omega
            | held v hrf _ _ _ =>
              have HN := Lib.hid (HA.out.1.step hc2 hm ⟨HA.out.1.gm, rfl, Nat.le_refl _, fun c h => h⟩)
              obtain ⟨pb, rfl, _⟩ := hrf
              clear hm hc2 d1 HA
              go_wp2_with fail
              go_roundw
              case rel => exact ⟨i + 1, n, T, M, σ', by go_num, by omega, by omega, by omega, hcn, HN.out⟩
              case measure => simp [intOf]; omega
            | ok c hct hch ht0 hasks hno =>
              have hgm := HA.out.1.gm.put c (L.take 40) hasks hch (fun d hd => by rw [hct]; exact hno d hd)
              have hpp := put_perm M (M.stops c) c
              have hpm := put_m M (M.stops c) c
              generalize M.put (M.stops c) c = MP at hm hgm hpp hpm
              generalize M.stops c = sb
              have hcP : MP.cnt = M.cnt + 1 := by
                have := hpp.length_eq
                rw [Mgr.cnt_all, List.length_cons, Mgr.cnt_all] at this
                exact this
              have HN := Lib.hid (And.intro (HA.out.1.row.chg hc2 (by unfold Om; omega)) (And.intro hm (And.intro hgm (And.intro (hpm.trans HA.out.1.mm) (And.intro (HA.out.1.st.chg hc2 (by unfold Om; omega)) (And.intro (fun d (hd : d ∈ MP.all) => show d.task = task ∨ d.task ∈ T from by
                rcases List.mem_cons.1 (hpp.mem_iff.1 hd) with rfl | hd
                · exact .inl hct
                · exact .inr (HA.out.1.in_ d hd)) HA.out.1.len))))))
              clear hm hc2 HA hgm hpp hpm hct hch ht0 hasks hno
              obtain ⟨hi3, hy0, hy1, hy2⟩ := HI3.out
              go_wp2_with (first | (at_builtin; refine wpList_append_reads (by rfl) _ _ 23 (by rfl) 0 3 i3 _ 1 8 Try.underlying23 hi3 hy0 hy1 hy2 rfl (by omega) (.slice At n ct) n (T.map (Value.int .i64)) (by rfl) ?c0 (some ⟨wd.heap.size, 0, none⟩) 1 1 [.int .i64 task] (by rfl) rfl ?c2 (by intro u hu; simp at hu; subst hu; rfl) ?c4 ?c5 (Nat.zero_le _) ?_) | fail)
              case c0 => exact own_below HN.out.1.1 ((Below.refl _ _).alloc (Nat.le_refl _) _)
              case c2 => exact reads_new2 wd #[.int .i64 task] 3
              case c4 => unfold maxLen; omega
              case c5 => omega
              intro v' w9 ho9 hg9 hat9
              have hba := (Below.refl wd.heap.size wd).alloc (Nat.le_refl _) (.cells #[.int .i64 task] 3)
              have hat9' : v'.ownBlock = (Value.slice At n ct).ownBlock ∨ v'.ownBlock = some (wd.alloc (.cells #[.int .i64 task] 3)).heap.size := by simpa using hat9
              have hrw := HN.out.1.below hba
              have cg := row_chgd hrw hg9
              have hrn := row_new hrw ho9 hat9'
              have H9 := Lib.hid (show Ew w w9 (K.upd σ' (wd.alloc (.cells #[.int .i64 task] 3)).heap.size 5) g m (n + 1) (T ++ [task]) MP v' from
                ⟨by rw [List.length_append, HN.out.2.2.2.2.2.2]; rfl, by rw [List.map_append]; exact hrn, (HN.out.2.1.below hba).chg cg (by unfold Om; omega), HN.out.2.2.1, HN.out.2.2.2.1, (HN.out.2.2.2.2.1.below hba).chg cg (by omega), fun d hd => by
                  rcases HN.out.2.2.2.2.2.1 d hd with h | h
                  · rw [h]; simp
                  · exact List.mem_append_left _ h⟩)
              clear hrw cg hrn hba hat9 hat9' ho9 hg9 HN d1 hi3 hy0 hy1 hy2
              go_wp2_with fail
              go_roundw
              case rel => exact ⟨i + 1, n + 1, T ++ [task], MP, _, by go_num, by omega, by omega, by omega, by omega, H9.out⟩
              case measure => simp [intOf]; omega
        by_cases hk2 : kd = 2
        · subst hk2
          go_wp2_with fail
          refine (free_any wb σb 1000 g 0 (.inl (by omega)) M HA.out.1.mgr (by omega) task).mono ?_
          rintro e w5 ⟨x, v, out, M', rfl, hfr, σ', hm, hrw, hc⟩
          have hgm := hfr.gm HA.out.1.gm
          have HN := Lib.hid (And.intro (HA.out.1.step hc hm hgm) hgm.2.2.1)
          clear hfr hm hrw hc hgm d0 d1 d2 HA
          go_wp2_with fail
          go_roundw
          case rel => exact ⟨i + 1, n, T, M', σ', by go_num, by omega, by omega, by omega, by have := HN.out.2; omega, HN.out.1⟩
          case measure => simp [intOf]; omega
        by_cases hk3 : kd = 3
        · subst hk3
          obtain ⟨M', out, hq⟩ := quits_any M task
          go_wp2_with fail
          refine (quit_c wb σb 1000 g 0 (.inl (by omega)) M HA.out.1.mgr (show M.cnt ≤ 100000 by omega) task M' out hq).mono ?_
          rintro e w5 ⟨x, rfl, σ', hm, hrw, hc⟩
          have hgm := hq.gm HA.out.1.gm
          have HN := Lib.hid (And.intro (HA.out.1.step hc hm hgm) hgm.2.2.1)
          clear hq hm hrw hc hgm d0 d1 d2 HA
          go_wp2_with fail
          go_roundw
          case rel => exact ⟨i + 1, n, T, M', σ', by go_num, by omega, by omega, by omega, by have := HN.out.2; omega, HN.out.1⟩
          case measure => simp [intOf]; omega
        · have hk1' : ¬ kd = 1 := hk1
          go_wp2_with fail
          go_roundw
          case rel => exact ⟨i + 1, n, T, M, σb, by go_num, by omega, by omega, by omega, hcn, HA.out.1⟩
          case measure => simp [intOf]; omega
      · have H5 := Lib.hid HE.out
        clear HE
        go_upto_region 8 with fail
        go_cut [34] (fun z w' => z = .bool false ∧ w' = wa)
        case first =>
          by_cases hk1 : (i : Int) < (n1 : Int)
          · have hk2 : ¬ (i : Int) < 1500 := by omega
            go_wp2_with fail
            go_meet
            case rel => exact ⟨rfl, rfl⟩
          · go_wp2_with fail
            go_meet
            case rel => exact ⟨rfl, rfl⟩
        case rest =>
          rename World => wb
          obtain ⟨rfl, rfl⟩ := hcut
          clear hi HF
          have hn15 : n ≤ 1500 := by omega
          clear hin1 hi15 hni
          go_wp2_with fail
          go_loopw [13] (fun vt wr => ∃ (t : Nat) (M : Mgr) (σ : Nat → Nat), vt = .int .i64 t ∧ t ≤ n + 1 ∧ (M.cnt = 0 ∨ M.cnt + t ≤ n) ∧ Ew w wr σ g m n T M (.slice At n ct)) (fun vt _ => n + 1 - (intOf vt).toNat)
          case atStart => exact ⟨0, M, σ, rfl, by omega, .inr hcn, H5.out⟩
          case round =>
            rename World => wc
            clear hcn H5
            obtain ⟨t, M, σ, rfl, ht, hct, hE⟩ := hrel
            have HE := Lib.hid hE
            clear hE
            by_cases htn : t < n + 1
            · have t0 : (t : Int) < (n : Int) + 1 := by omega
              go_wp2_with fail
              go_loopw [14] (fun vi wr => ∃ (i : Nat) (M : Mgr) (σ : Nat → Nat), vi = .int .i64 i ∧ i ≤ n ∧ ((M.cnt = 0 ∨ M.cnt + (t + 1) ≤ n) ∨ (M.cnt + t ≤ n ∧ ∀ j (hj : j < T.length), j < i → ∀ c ∈ M.has, c.task ≠ T[j])) ∧ Ew w wr σ g m n T M (.slice At n ct)) (fun vi _ => n - (intOf vi).toNat)
              case atStart => exact ⟨0, M, σ, rfl, Nat.zero_le _, by
                rcases hct with h | h
                · exact .inl (.inl h)
                · exact .inr ⟨h, fun j _ hj => by omega⟩, HE.out⟩
              case round =>
                rename World => wd
                clear HE hct M σ
                obtain ⟨i, M, σ, rfl, hin, hpot, hE⟩ := hrel
                have hcle : M.cnt ≤ n := by
                  rcases hpot with (h | h) | h <;> omega
                have HE := Lib.hid (And.intro hE hpot)
                clear hE hpot
                by_cases hi : i < n
                · have i0 : (i : Int) < (n : Int) := by omega
                  have i1 : (0 : Int) ≤ (i : Int) := by omega
                  have hil : i < T.length := by rw [HE.out.1.len]; exact hi
                  obtain ⟨ga, rfl, hga, u0⟩ := HE.out.1.task i hil
                  have htk : ∀ W, Below wd.heap.size wd W → W.cell? ⟨ga, i, none⟩ = some (.int .i64 T[i]) := fun W hb => (hb.cell (p := ⟨ga, i, none⟩) hga).trans u0
                  have HT := Lib.hid htk
                  clear htk hga
                  rcases hany : M.has.any (fun c => c.task == T[i]) with _ | _
                  · have hno := none_task.1 hany
                    have hh := has_no wd σ 1000 g M HE.out.1.mgr T[i] hany
                    have HH := Lib.hid hh
                    have HNo := Lib.hid hno
                    clear hh hno hany
                    generalize hti : T[i] = ti at u0 HH HT HNo
                    go_wp2_with fail
                    refine HH.out.mono ?_
                    rintro e w5 ⟨rfl, hb5⟩
                    have HN := Lib.hid (HE.out.1.below hb5)
                    clear hb5 HH
                    go_wp2_with fail
                    go_roundw
                    case rel => exact ⟨i + 1, M, σ, by go_num, by omega, by
                      rcases HE.out.2 with h | ⟨h, h2⟩
                      · exact .inl h
                      · refine .inr ⟨h, fun j hj hji => ?_⟩
                        by_cases e : j = i
                        · subst e
                          rw [hti]
                          exact HNo.out
                        · exact h2 j hj (by omega), HN.out⟩
                    case measure => simp [intOf]; omega
                  · obtain ⟨ip, hip, hpl, hpt⟩ := place_hit hany
                    have hh := has_c wd σ 1000 g M HE.out.1.mgr T[i] ip hip hpl
                    have hpos : 0 < (held (M.has[ip]).set M.m.toNat).length := by
                      obtain ⟨x, hx0, hx1, hx2⟩ := HE.out.1.gm.some_ M.has[ip] (List.mem_append_left _ (List.getElem_mem hip))
                      exact held_pos _ _ x hx0 (by omega) hx2
                    have hle : (held (M.has[ip]).set M.m.toNat).length ≤ 1024 := by
                      have := held_le (M.has[ip]).set M.m.toNat
                      have := HE.out.1.mm
                      omega
                    have hfree := fun W (hb : Below wd.heap.size wd W) => free_yes W σ 1000 g 0 (.inl (by omega)) M (HE.out.1.mgr.below hb) (show M.cnt ≤ 100000 by omega) T[i] ip hip hpl
                    have hcnt : (M.delHas ip).pass.cnt + 1 = M.cnt := by rw [Mgr.pass_cnt]; exact M.delHas_cnt ip hip
                    have hgm : GM (M.delHas ip).pass ∧ (M.delHas ip).pass.m = M.m ∧ (M.delHas ip).pass.cnt ≤ M.cnt ∧ (∀ c ∈ (M.delHas ip).pass.all, c ∈ M.all) := ⟨HE.out.1.gm.passed (M.delHas_sub ip) rfl, rfl, by omega, fun c hc => (M.delHas_sub ip).mem ((M.delHas ip).pass_perm.mem_iff.1 hc)⟩
                    have HH := Lib.hid (And.intro hh (And.intro hfree (And.intro hcnt hgm)))
                    clear hh hfree hcnt hgm hany hpl hpt
                    obtain ⟨hn, hhn⟩ : ∃ x, (held (M.has[ip]).set M.m.toNat).length = x := ⟨_, rfl⟩
                    rw [hhn] at hpos hle
                    generalize T[i] = ti at u0 HH HT
                    go_wp2_with fail
                    refine HH.out.1.mono ?_
                    rintro e w5 ⟨v5, rfl, ho5, hb5⟩
                    rw [hhn] at ho5
                    obtain ⟨A5, c5, rfl⟩ := own_slice ho5
                    have HB5 := Lib.hid hb5
                    have u1 := HT.out w5 hb5
                    clear ho5 hb5 hhn u0
                    have hp0 : (0 : Int) < (hn : Int) := by omega
                    go_wp2_with fail
                    refine (HH.out.2.1 _ HB5.out).mono ?_
                    rintro e w6 ⟨v6, rfl, σ', hm6, hr6, hc6⟩
                    have HN := Lib.hid ((HE.out.1.below HB5.out).step hc6 hm6 HH.out.2.2.2)
                    have HC := Lib.hid HH.out.2.2.1
                    clear hm6 hr6 hc6 u1 HH HB5
                    go_wp2_with fail
                    go_roundw
                    case rel => exact ⟨i + 1, _, σ', by go_num, by omega, by
                      have := HC.out
                      rcases HE.out.2 with (h | h) | ⟨h, h2⟩
                      · omega
                      · exact .inl (.inr (by omega))
                      · exact .inl (.inr (by omega)), HN.out⟩
                    case measure => simp [intOf]; omega
                · obtain rfl : i = n := by omega
                  have i0 : ¬ (i : Int) < (i : Int) := by omega
                  have hfin : M.cnt = 0 ∨ M.cnt + (t + 1) ≤ i := by
                    rcases HE.out.2 with h | ⟨h, h2⟩
                    · exact h
                    · left
                      have hh : M.has = [] := by
                        rcases hM : M.has with _ | ⟨c, r⟩
                        · rfl
                        · exfalso
                          have hc : c ∈ M.has := by rw [hM]; exact List.mem_cons_self ..
                          obtain ⟨j, hj, e⟩ := List.mem_iff_getElem.1 (HE.out.1.in_ c (List.mem_append_left _ hc))
                          exact h2 j hj (by rw [← HE.out.1.len]; exact hj) c hc e.symm
                      unfold Mgr.cnt
                      rw [hh, HE.out.1.gm.fair hh]
                      rfl
                  have HN := Lib.hid HE.out.1
                  clear HE
                  go_wp2_with fail
                  go_roundw
                  case rel => exact ⟨t + 1, M, σ, by go_num, by omega, hfin, HN.out⟩
                  case measure => simp [intOf]; omega
            · obtain rfl : t = n + 1 := by omega
              have t0 : ¬ ((n + 1 : Nat) : Int) < (n : Int) + 1 := by omega
              have hz : M.cnt = 0 := by omega
              have hh : M.has = [] ∧ M.queue = [] := by
                unfold Mgr.cnt at hz
                exact ⟨List.eq_nil_of_length_eq_zero (by omega), List.eq_nil_of_length_eq_zero (by omega)⟩
              have HH := Lib.hid hh
              clear hh hz hct
              go_wp2_with fail
              go_loopw [17] (fun vi wr => ∃ (i : Nat), vi = .int .i64 i ∧ i ≤ n ∧ Below wc.heap.size wc wr) (fun vi _ => n - (intOf vi).toNat)
              case atStart => exact ⟨0, rfl, Nat.zero_le _, Below.refl _ _⟩
              case round =>
                rename World => wd
                obtain ⟨i, rfl, hin, hbd⟩ := hrel
                have HD := Lib.hid (HE.out.below hbd)
                have HB := Lib.hid hbd
                clear hbd
                by_cases hi : i < n
                · have i0 : (i : Int) < (n : Int) := by omega
                  have i1 : (0 : Int) ≤ (i : Int) := by omega
                  have hil : i < T.length := by rw [HD.out.len]; exact hi
                  obtain ⟨ga, rfl, hga, u0⟩ := HD.out.task i hil
                  have HT := Lib.hid (fun W (hb : Below wd.heap.size wd W) => (hb.cell (p := ⟨ga, i, none⟩) hga).trans u0)
                  have HWt := Lib.hid (waits_c wd σ 1000 g M HD.out.mgr T[i])
                  have HHs := Lib.hid (fun W (hb : Below wd.heap.size wd W) => has_no W σ 1000 g M (HD.out.mgr.below hb) T[i] (by rw [HH.out.1]; rfl))
                  have hq : M.queue.any (fun c => c.task == T[i]) = false := by rw [HH.out.2]; rfl
                  rw [hq] at HWt
                  clear hq hga
                  generalize T[i] = ti at u0 HT HWt HHs
                  go_wp2_with fail
                  refine HWt.out.mono ?_
                  rintro e w5 ⟨rfl, hb5⟩
                  have HB5 := Lib.hid hb5
                  have u1 := HT.out w5 hb5
                  clear hb5 u0
                  go_wp2_with fail
                  refine (HHs.out _ HB5.out).mono ?_
                  rintro e w6 ⟨rfl, hb6⟩
                  have HB6 := Lib.hid (Below.then_ (Below.then_ HB.out HB.out.size HB5.out) (Below.then_ HB.out HB.out.size HB5.out).size hb6)
                  clear hb6 u1 HB5
                  go_wp2_with fail
                  go_roundw
                  case rel => exact ⟨i + 1, by go_num, by omega, HB6.out⟩
                  case measure => simp [intOf]; omega
                · have i0 : ¬ (i : Int) < (n : Int) := by omega
                  have hq := queue_c wd σ 1000 g M HD.out.mgr
                  rw [HH.out.2] at hq
                  have HQ := Lib.hid hq
                  clear hq
                  go_wp2_with fail
                  refine HQ.out.mono ?_
                  rintro e w5 ⟨v5, rfl, ho5, hb5⟩
                  obtain ⟨A5, c5, rfl⟩ := own_slice ho5
                  have hbel := (HD.out.st.below hb5).bel
                  clear ho5 hb5 HQ
                  go_wp2_with fail
                  go_ret
                  exact ⟨rfl, hbel⟩
  · refine (new_bad w1 a0 hm).mono ?_
    rintro e w2 ⟨rfl, rfl⟩
    go_wp2_with fail
    go_ret
    exact ⟨rfl, HB.out⟩
end Go.Proofs.Ytgcnappgecdldaa.C
