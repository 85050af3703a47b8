/-
  Locks: through: the queue is gone through.
-/
import Derived.Test.YtgcnappgecdldaaT1
set_option linter.unusedVariables false
set_option linter.unusedSimpArgs false
namespace Go.Proofs.Ytgcnappgecdldaa.C
open Go.RowKit Go.Proofs.Ytgcnappgecdldaa.K Go.Maps

noncomputable def Mgr.run (M : Mgr) (k : Nat) : TS := TS.go ⟨M.has, [], []⟩ (M.queue.take k)
theorem Mgr.run_succ (M : Mgr) (k : Nat) (c : Clm) (hk : k < M.queue.length) (hc : M.queue[k] = c) : M.run (k + 1) = (M.run k).step c := by
  unfold Mgr.run
  rw [List.take_succ_eq_append_getElem hk, TS.go_snoc, hc]
theorem Mgr.run_len (M : Mgr) (k : Nat) (hk : k ≤ M.queue.length) : (M.run k).has.length + (M.run k).left.length = M.has.length + k ∧ (M.run k).out.length ≤ k := by
  obtain ⟨h1, h2, h3⟩ := TS.go_len (M.queue.take k) ⟨M.has, [], []⟩
  rw [List.length_take, Nat.min_eq_left hk] at h1
  have h1' : (M.run k).has.length + (M.run k).left.length = M.has.length + 0 + k := h1
  have h2' : (M.run k).has.length = M.has.length + ((M.run k).out.length - 0) := h2
  omega
noncomputable def Mgr.thr (M : Mgr) : TS := M.run M.queue.length
theorem info23 : (Try.prog.info? 3).map (fun i => (i.zero, i.size, i.bytes)) = some (some (.int .i64 0), 1, 8) := by kernel_rfl

set_option maxRecDepth 100000 in
set_option maxHeartbeats 6400000 in
theorem through_c (w : World) (σ : Nat → Nat) (t g u : Nat) (hu : u < t ∨ t + 5 ≤ u) (M : Mgr) (h : MgrAt w σ t g M) (hs : M.has.length + M.queue.length ≤ 100000) :
    Calls Try.prog 49 #[.pointer (some ⟨g, 0, none⟩)] w fun e w' => ∃ v, e = .returned v ∧ ∃ σ', MgrAt w' σ' t g ⟨M.m, M.thr.has, M.thr.left⟩ ∧ Row w' σ' u 3 1 v M.thr.out.length (tasks M.thr.out) ∧ Chg (Om t) σ w σ' w' := by
  obtain ⟨S, hSt⟩ : ∃ S, M.thr = S := ⟨_, rfl⟩
  rw [hSt]
  have HTT := Lib.hid hSt
  clear hSt
  obtain ⟨vh, vq, h⟩ := h
  obtain ⟨Aq, cq, rfl⟩ := h.queue.slice
  obtain ⟨nq, hnq⟩ : ∃ n, M.queue.length = n := ⟨_, rfl⟩
  have c2 := h.c2
  have hS := TIn.start (u := u) h
  rw [hnq] at hs c2 hS
  rw [show (⟨M.has, [], []⟩ : TS) = M.run 0 from rfl] at hS
  have HS := Lib.hid hS
  have Hn := Lib.hid hnq
  have Hs := Lib.hid hs
  have hq1 : nq ≤ 100000 := by omega
  have HU := Lib.hid hu
  clear h hnq hS hs hu
  go_enter Try.func49, Try.ntmps49
  go_wp2_with fail
  go_loopw [3, 4, 12] (fun vl vo i wr => ∃ k : Nat, k ≤ nq ∧ i = .int .i64 k ∧ ∃ vh σr, TIn w σ t g u M (.slice Aq nq cq) (M.run k) wr σr vh vl vo) (fun _ _ i _ => nq - (intOf i).toNat)
  case atStart => exact ⟨0, Nat.zero_le _, rfl, _, _, HS.out⟩
  case round =>
    rename_i vl vo iv
    obtain ⟨k, hk, rfl, vh, σr, T⟩ := hrel
    obtain ⟨Ah, ch, rfl⟩ := T.mgr.has.slice
    obtain ⟨Al, cl, rfl⟩ := T.left.slice
    obtain ⟨Ao, co, rfl⟩ := T.out.slice
    obtain ⟨s, hsr⟩ : ∃ s, M.run k = s := ⟨_, rfl⟩
    have hln := M.run_len k (by rw [Hn.out]; exact hk)
    rw [hsr] at T hln ⊢
    have Hln := Lib.hid hln
    have Hsr := Lib.hid hsr
    clear hln hsr HS
    obtain ⟨nh, hnh⟩ : ∃ n, s.has.length = n := ⟨_, rfl⟩
    obtain ⟨nl, hnl⟩ : ∃ n, s.left.length = n := ⟨_, rfl⟩
    obtain ⟨no, hno⟩ : ∃ n, s.out.length = n := ⟨_, rfl⟩
    have hl1 : nh ≤ 100000 := by have := Hln.out.1; have := Hs.out; omega
    have hl2 : nl ≤ 100000 := by have := Hln.out.1; have := Hs.out; omega
    have hl3 : no ≤ 100000 := by have := Hln.out.2; omega
    have HT := Lib.hid T
    rw [show (Mgr.has ⟨M.m, s.has, M.queue⟩).length = nh from hnh] at HT
    rw [hnl] at HT
    rw [hno] at HT
    rw [hnl, hno]
    have hmg : MgrIn wr σr t g ⟨M.m, s.has, M.queue⟩ (.slice Ah nh ch) (.slice Aq nq cq) := HT.out.mgr
    have Hlen := Lib.hid (And.intro hnh (And.intro hnl hno))
    clear T hnh hnl hno
    by_cases hkn : k < nq
    · have k0 : (0 : Int) ≤ (k : Int) := by omega
      have k1 : (k : Int) < (nq : Int) := by omega
      have hkl : k < M.queue.length := by rw [Hn.out]; exact hkn
      have hrowq := hmg.queue
      have hcl : ClmsAt wr Aq M.queue := by
        have := Hn.out
        rw [show (Mgr.queue ⟨M.m, s.has, M.queue⟩).length = nq from this] at hrowq
        rw [← this] at hrowq
        exact row_claims hrowq (fun c hc => (hmg.sets c (.inr hc)).1)
      obtain ⟨ga, off, rfl, hga, hc⟩ := hcl.at_ (by omega)
      obtain ⟨d0, d1⟩ := hc k hkl
      have hset := hcl.sets _ (List.getElem_mem hkl)
      have hmem : M.queue[k] ∈ M.queue := List.getElem_mem hkl
      obtain ⟨c, hcc⟩ : ∃ c, M.queue[k] = c := ⟨_, rfl⟩
      rw [hcc] at d0 d1 hset hmem
      have Hsucc := Lib.hid (And.intro (Mgr.run_succ M k c hkl hcc) hmem)
      obtain ⟨task, b, D⟩ := c
      dsimp only at d0 d1 hset
      have Hset := Lib.hid hset
      have Hcq := Lib.hid (And.intro hmg.blk.1.lt (fun b (hb : (Value.slice Ah nh ch).ownBlock = some b) => (hmg.has.1.lt b hb).2))
      clear hc hcl hrowq hset hmem hcc hmg
      go_upto_region 6 with fail
      have hbA : Below wr.heap.size wr (wr.alloc (.cells #[.int .i64 task, .map (some b)] 86)) := (Below.refl _ _).alloc (Nat.le_refl _) _
      have hbx := Blk.new wr 86 #[.int .i64 task, .map (some b)]
      have H4 := Lib.hid (And.intro (HT.out.below hbA) (And.intro (Hset.out.below hbA) (And.intro hbx Hcq.out)))
      clear hbA hbx HT Hcq Hset d0 d1
      generalize wr.alloc (.cells #[.int .i64 task, .map (some b)] 86) = w4 at H4 ⊢
      generalize wr.heap.size = q at H4 ⊢
      have T4 := H4.out.1
      obtain ⟨r1, hr1⟩ : ∃ r, s.has.any (cf D) = r := ⟨_, rfl⟩
      obtain ⟨r2, hr2⟩ : ∃ r, s.left.any (cf D) = r := ⟨_, rfl⟩
      have hq := H4.out.2.2.1
      have KS : Hid (∀ W, Below w4.heap.size w4 W → W.cell? ⟨g, 1, none⟩ = some (.slice Ah nh ch) ∧ W.cell? ⟨q, 0, none⟩ = some (.int .i64 task) ∧ W.cell? ⟨q, 1, none⟩ = some (.map (some b))) := Lib.hid (fun W hb =>
        ⟨(T4.mgr.below hb).c1, by rw [(hq.below' hb).cell]; rfl, by rw [(hq.below' hb).cell]; rfl⟩)
      have HC : Hid (∀ A' n' cp' r, ((A' = Ah ∧ n' = nh ∧ cp' = ch ∧ r = r1) ∨ (A' = Al ∧ n' = nl ∧ cp' = cl ∧ r = r2)) → ∀ W, Below w4.heap.size w4 W → Calls Try.prog 45 #[.slice A' n' cp', .func (Fn.func 46) #[.agg #[.int .i64 task, .map (some b)]] #[]] W fun e w' => e = .returned (.bool r) ∧ Below w4.heap.size w4 w') := Lib.hid (fun A' n' cp' r hsel W hb => by
        have T := T4.below hb
        have hD := H4.out.2.1.below hb
        rcases hsel with ⟨rfl, rfl, rfl, rfl⟩ | ⟨rfl, rfl, rfl, rfl⟩
        · have hrow := T.mgr.has
          refine (contains_c W A' n' cp' s.has Hlen.out.1 (by omega) (row_claims (l := s.has) (n := n') hrow (fun c hc => (T.mgr.sets c (.inl hc)).1)) task b D hD r hr1).mono (fun e w' ⟨he, h'⟩ => ⟨he, Below.then_ hb hb.size h'⟩)
        · have hrow := T.left
          refine (contains_c W A' n' cp' s.left Hlen.out.2.1 (by omega) (row_claims (l := s.left) (n := n') hrow (fun c hc => (T.mgr.sets c (.inr (T.sub c hc))).1)) task b D hD r hr2).mono (fun e w' ⟨he, h'⟩ => ⟨he, Below.then_ hb hb.size h'⟩))
      have HDR : Hid (Below w4.heap.size w4 w4.drew) := Lib.hid (Below.refl _ _).drew
      have Hr := Lib.hid (And.intro hr1 hr2)
      clear T4 hq hr1 hr2
      go_cut [28] (fun z w' => z = .bool (r1 || r2) ∧ Below w4.heap.size w4 w')
      case first =>
        rcases r1 with _ | _
        · go_region_held3 (fun W => W.cell? ⟨g, 1, none⟩ = some (.slice Ah nh ch) ∧ W.cell? ⟨q, 0, none⟩ = some (.int .i64 task) ∧ W.cell? ⟨q, 1, none⟩ = some (.map (some b))) (first | exact KS.out _ (by first | assumption | exact HDR.out) | fail)
            ((go_at_call 45; refine (HC.out _ _ _ _ (by first | exact .inl ⟨rfl, rfl, rfl, rfl⟩ | exact .inr ⟨rfl, rfl, rfl, rfl⟩) _ (by first | assumption | exact HDR.out)).mono ?_; rintro e w5 ⟨rfl, hb5⟩))
          go_wp2_with fail
          go_meet
          case rel => exact ⟨by simp, by assumption⟩
        · obtain ⟨s1, s3, s4⟩ := KS.out w4.drew HDR.out
          first
            | (go_region_law (first | (rw [if_pos (by rfl)]; go_simp; go_at_call 45; refine (HC.out _ _ _ _ (by first | exact .inl ⟨rfl, rfl, rfl, rfl⟩ | exact .inr ⟨rfl, rfl, rfl, rfl⟩) _ (by first | assumption | exact HDR.out)).mono ?_; rintro e w5 ⟨rfl, hb5⟩; obtain ⟨u1, u3, u4⟩ := KS.out w5 hb5) | fail))
            | fail
          all_goals
            go_wp2_with fail
            go_meet
            case rel => exact ⟨by simp, by assumption⟩
      case rest =>
        rename World => w5
        obtain ⟨rfl, hb5⟩ := hcut
        obtain ⟨s1, s3, s4⟩ := KS.out w5 hb5
        have T5 := H4.out.1.below hb5
        have hbq := H4.out.2.2.1.below' hb5
        obtain ⟨r, hr⟩ : ∃ r, (r1 || r2) = r := ⟨_, rfl⟩
        have HR : Hid (s.stops ⟨task, b, D⟩ = r) := Lib.hid (by unfold TS.stops; rw [← hr, ← Hr.out.1, ← Hr.out.2])
        rw [hr]
        have H5 := Lib.hid (And.intro T5 (And.intro hbq H4.out.2.2.2))
        clear hr hb5 HC KS HDR Hr H4 T5 hbq
        obtain ⟨i0, hi0, hz0, hz1, hz2⟩ := info_parts info86'
        obtain ⟨i1, hi1, hy0, hy1, hy2⟩ := info_parts info23
        rcases r with _ | _
        · have hba : Below w5.heap.size w5 (w5.drew.alloc (.cells #[.int .i64 task, .map (some b)] 86)) := (Below.refl _ _).drew.alloc (Nat.le_refl _) _
          have hTA := H5.out.1.below hba
          have hbq := H5.out.2.1.below' hba
          have hstore : ∀ w6, (w5.drew.alloc (.cells #[.int .i64 task, .map (some b)] 86)).grownBy w6 (Value.slice Ah nh ch).ownBlock → w6.cell? ⟨g, 1, none⟩ = some (.slice Ah nh ch) ∧ w6.frozen? ⟨g, 1, none⟩ = false := fun w6 hg => by
            have cg := row_chgd (hTA.mgr.has) hg
            have hb := (hTA.mgr.blk.chg cg (by omega)).1
            exact ⟨by rw [hb.cell]; rfl, hb.frozen 1⟩
          have hown : (w5.drew.alloc (.cells #[.int .i64 task, .map (some b)] 86)).ownsRow 0 86 2 (.slice Ah nh ch) nh (cvs s.has) := by
            have := hTA.mgr.has.1
            rw [show (Mgr.has ⟨M.m, s.has, M.queue⟩).length = nh from Hlen.out.1] at this
            exact this
          have hnew : Reads (w5.drew.alloc (.cells #[.int .i64 task, .map (some b)] 86)) (some ⟨w5.heap.size, 0, none⟩) [.int .i64 task, .map (some b)] := reads_new w5.drew #[.int .i64 task, .map (some b)] 86
          have x1 : (w5.alloc (.cells #[.int .i64 task, .map (some b)] 86)).cell? ⟨g, 1, none⟩ = some (.slice Ah nh ch) := hTA.mgr.c1
          have x3 : (w5.alloc (.cells #[.int .i64 task, .map (some b)] 86)).cell? ⟨q, 0, none⟩ = some (.int .i64 task) := by rw [(show Blk (w5.alloc (.cells #[.int .i64 task, .map (some b)] 86)) q _ _ from hbq).cell]; rfl
          have x4 : (w5.alloc (.cells #[.int .i64 task, .map (some b)] 86)).cell? ⟨q, 1, none⟩ = some (.map (some b)) := by rw [(show Blk (w5.alloc (.cells #[.int .i64 task, .map (some b)] 86)) q _ _ from hbq).cell]; rfl
          have HST := Lib.hid hstore
          have HOW := Lib.hid hown
          have HNW := Lib.hid hnew
          have HTA := Lib.hid (And.intro hTA (And.intro hbq H5.out.2.2))
          clear hstore hown hnew hTA hba hbq H5
          go_upto_region 8 with fail
          go_cut [] (fun w' => ∃ v' w6, (w5.drew.alloc (.cells #[.int .i64 task, .map (some b)] 86)).grownBy w6 (Value.slice Ah nh ch).ownBlock ∧ w6.ownsRow 0 86 2 v' (nh + 1) (cvs s.has ++ [.int .i64 task, .map (some b)]) ∧ (v'.ownBlock = (Value.slice Ah nh ch).ownBlock ∨ v'.ownBlock = some (w5.drew.alloc (.cells #[.int .i64 task, .map (some b)] 86)).heap.size) ∧ w' = w6.setCell ⟨g, 1, none⟩ v')
          case first =>
            go_region_law (first | (refine step_append_reads (by rfl) _ _ 75 (by rfl) 0 86 i0 _ 2 16 Try.underlying75 hi0 hz0 hz1 hz2 rfl (by omega) (.slice Ah nh ch) nh (cvs s.has) (by rfl) (by exact HOW.out) (some ⟨w5.heap.size, 0, none⟩) 1 1 [.int .i64 task, .map (some b)] (by rfl) rfl (by exact HNW.out) (by intro u hu; simp at hu; rcases hu with rfl | rfl <;> rfl) (by unfold maxLen; omega) (by omega) (Nat.zero_le _) ?_; intro v6 w6 ho6 hg6 hat6; obtain ⟨A6, c6, rfl⟩ := own_slice ho6; obtain ⟨st1, st2⟩ := HST.out w6 hg6) | fail)
            all_goals
              go_wp2_with fail
              go_meet
              case rel => exact ⟨_, w6, hg6, ho6, hat6, rfl⟩
          case rest =>
            rename World => w7
            obtain ⟨v', w6, hg6, ho6, hat6, rfl⟩ := hcut
            have hT7 := HTA.out.1.addHas (c := ⟨task, b, D⟩) (v' := v') HU.out Hsucc.out.2 (by rw [Hlen.out.1]; have := Hln.out.1; have := Hs.out; have := Hlen.out.1; omega) (by rw [Hlen.out.1]; exact ho6) hg6 hat6
            have hq6 : Blk w6 q 86 #[.int .i64 task, .map (some b)] := (hg6.block _ HTA.out.2.1.lt (fun e => by have := HTA.out.2.2.2 q e.symm; omega)).trans HTA.out.2.1
            have hq7 : Blk (w6.setCell ⟨g, 1, none⟩ v') q 86 #[.int .i64 task, .map (some b)] := hq6.far (by have := HTA.out.2.2.1; show q ≠ g; omega) v'
            have z0 : (w6.setCell ⟨g, 1, none⟩ v').cell? ⟨q, 0, none⟩ = some (.int .i64 task) := by rw [hq7.cell]; rfl
            have HT7 := Lib.hid hT7
            clear hT7 hq6 hq7 hg6 ho6 hat6 x1 x3 x4 s1 s3 s4 HST HOW HNW HTA
            generalize K.upd σr (w5.drew.alloc (.cells #[.int .i64 task, .map (some b)] 86)).heap.size (t + 1) = σ7 at HT7
            generalize w6.setCell ⟨g, 1, none⟩ v' = w7 at HT7 z0 ⊢
            go_wp2_with (first | (at_builtin; refine wpList_append_reads (by rfl) _ _ 23 (by rfl) 0 3 i1 _ 1 8 Try.underlying23 hi1 hy0 hy1 hy2 rfl (by omega) (.slice Ao no co) no (tasks s.out) (by rfl) ?c0 (some ⟨w7.heap.size, 0, none⟩) 1 1 [.int .i64 task] (by rfl) rfl ?c2 (by intro u hu; simp at hu; subst hu; rfl) ?c4 ?c5 (Nat.zero_le _) ?_) | fail)
            case c0 =>
              have := (HT7.out.out.below ((Below.refl w7.heap.size w7).alloc (Nat.le_refl _) (.cells #[.int .i64 task] 3))).1
              rw [Hlen.out.2.2] at this
              exact this
            case c2 => exact reads_new w7 #[.int .i64 task] 3
            case c4 => unfold maxLen; omega
            case c5 => omega
            intro v9 w9 hown9 hgrow hat
            have hTA := (HT7.out.below ((Below.refl w7.heap.size w7).alloc (Nat.le_refl _) (.cells #[.int .i64 task] 3))).addOut (c := ⟨task, b, D⟩) HU.out (by rw [Hlen.out.2.2]; exact hown9) hgrow (by rw [World.size_alloc]; exact hat)
            rw [show ({ has := s.has ++ [⟨task, b, D⟩], left := s.left, out := s.out ++ [⟨task, b, D⟩] } : TS) = s.step ⟨task, b, D⟩ from (TS.step_no HR.out).symm, ← Hsr.out, ← Hsucc.out.1] at hTA
            have HTA := Lib.hid hTA
            clear hTA hown9 hgrow hat z0 HT7 i0 hi0 hz0 hz1 hz2 i1 hi1 hy0 hy1 hy2
            go_wp2_with fail
            go_roundw
            case rel => exact ⟨k + 1, by omega, by go_num, _, _, HTA.out⟩
            case measure => simp [intOf]; omega
        · go_wp2_with (first | (at_builtin; refine wpList_append_reads (by rfl) _ _ 75 (by rfl) 0 86 i0 _ 2 16 Try.underlying75 hi0 hz0 hz1 hz2 rfl (by omega) (.slice Al nl cl) nl (cvs s.left) (by rfl) ?c0 (some ⟨w5.heap.size, 0, none⟩) 1 1 [.int .i64 task, .map (some b)] (by rfl) rfl ?c2 (by intro u hu; simp at hu; rcases hu with rfl | rfl <;> rfl) ?c4 ?c5 (Nat.zero_le _) ?_) | fail)
          case c0 =>
            have := (H5.out.1.left.below ((Below.refl w5.heap.size w5).alloc (Nat.le_refl _) (.cells #[.int .i64 task, .map (some b)] 86))).1
            rw [Hlen.out.2.1] at this
            exact this
          case c2 => exact reads_new w5 #[.int .i64 task, .map (some b)] 86
          case c4 => unfold maxLen; omega
          case c5 => omega
          intro v' w9 hown9 hgrow hat
          have hTA := (H5.out.1.below ((Below.refl w5.heap.size w5).alloc (Nat.le_refl _) (.cells #[.int .i64 task, .map (some b)] 86))).addLeft (c := ⟨task, b, D⟩) HU.out Hsucc.out.2 (by rw [Hlen.out.2.1]; exact hown9) hgrow (by rw [World.size_alloc]; exact hat)
          rw [← TS.step_yes HR.out, ← Hsr.out, ← Hsucc.out.1] at hTA
          have HTA := Lib.hid hTA
          clear hTA hown9 hgrow hat s1 s3 s4 i0 hi0 hz0 hz1 hz2 i1 hi1 hy0 hy1 hy2
          go_wp2_with fail
          go_roundw
          case rel => exact ⟨k + 1, by omega, by go_num, _, _, HTA.out⟩
          case measure => simp [intOf]; omega
    · have k1 : ¬ (k : Int) < (nq : Int) := by omega
      obtain rfl : nq = k := by omega
      have hf0 := hmg.blk.1.frozen 2
      have hc2 := hmg.c2
      obtain ⟨σ', hc1, hc3, hc4⟩ := HT.out.close HU.out (by rw [Hlen.out.2.1]; exact hl2)
      have HFIN := Lib.hid (And.intro hc1 (And.intro hc3 hc4))
      clear hc1 hc3 hc4 hmg
      rw [Hlen.out.2.2] at HFIN
      obtain rfl : S = s := by rw [← HTT.out, ← Hsr.out]; unfold Mgr.thr; rw [Hn.out]
      go_wp2
      go_ret
      exact ⟨_, rfl, σ', ⟨_, _, HFIN.out.1⟩, by rw [Hlen.out.2.2]; exact HFIN.out.2.1, HFIN.out.2.2⟩
end Go.Proofs.Ytgcnappgecdldaa.C
