/-
  Locks: Ask, of a set that may be asked for.
-/
import Derived.Test.YtgcnappgecdldaaL4
import Derived.Test.YtgcnappgecdldaaOpen
import Derived.Deep.RegionLaw
set_option linter.unusedVariables false
set_option linter.unusedSimpArgs false
namespace Go.Proofs.Ytgcnappgecdldaa.C
open Go.RowKit Go.Proofs.Ytgcnappgecdldaa.K Go.Maps

section
variable {w w' : World} {σ : Nat → Nat} {t e sz : Nat} {v v' : Value} {n m : Nat} {xs ys : List Value}
theorem row_chgd (h : Row w σ t e sz v n xs) (hg : w.grownBy w' v.ownBlock) : Chg (fun x => x = t) σ w (K.upd σ w.heap.size t) w' :=
  ((Chg.refl _ σ w).upd (Nat.le_refl _) t).grown hg (fun q hq => .inl (by
    show K.upd σ w.heap.size t q = t
    rw [upd_old (h.1.lt q hq).2]
    exact h.2 q hq))
theorem row_new (h : Row w σ t e sz v n xs) (ho : w'.ownsRow 0 e sz v' m ys) (hat : v'.ownBlock = v.ownBlock ∨ v'.ownBlock = some w.heap.size) : Row w' (K.upd σ w.heap.size t) t e sz v' m ys := by
  refine ⟨ho, fun b hb => ?_⟩
  rcases hat with h0 | h0
  · rw [h0] at hb
    rw [upd_old (h.1.lt b hb).2]
    exact h.2 b hb
  · rw [h0] at hb
    cases hb
    exact upd_new (Nat.le_refl _)
end
theorem wp_last {P : Program} {c : Code} {Q : Exit → Act → World → Prop} {a : Act} {w : World} (h : ∀ K : Act → World → Prop, (∀ a w, Q .normal a w → K a w) → c.wp P (Exit.then K Q) a w) : c.wp P Q a w :=
  wp_mono (h (Q .normal) (fun _ _ h => h)) (fun e a w hq => by cases e <;> exact hq)
theorem reads_new (w : World) (cs : Array Value) (t : TypeId) : Reads (w.alloc (.cells cs t)) (some ⟨w.heap.size, 0, none⟩) cs.toList := by
  intro j u hu
  refine ⟨_, rfl, ?_⟩
  rw [add_plain, Nat.zero_add, World.cell?_alloc_new]
  simpa using hu
theorem info86' : (Try.prog.info? 86).map (fun i => (i.zero, i.size, i.bytes)) = some (some (.agg #[.int .i64 0, .map none]), 2, 16) := by kernel_rfl
theorem info_parts {t : TypeId} {z : Value} {s b : Nat} (h : (Try.prog.info? t).map (fun i => (i.zero, i.size, i.bytes)) = some (some z, s, b)) : ∃ i, Try.prog.info? t = some i ∧ i.zero = some z ∧ i.size = s ∧ i.bytes = b := by
  rcases hi : Try.prog.info? t with _ | i
  · rw [hi] at h; cases h
  · rw [hi] at h
    simp at h
    exact ⟨i, rfl, h.1, h.2.1, h.2.2⟩
/-- A claim more among those that have theirs, or among those that wait. -/
def Mgr.put (M : Mgr) (q : Bool) (c : Clm) : Mgr := if q then { M with queue := M.queue ++ [c] } else { M with has := M.has ++ [c] }
noncomputable def Mgr.stops (M : Mgr) (c : Clm) : Bool := M.has.any (cf c.set) || M.queue.any (cf c.set)
section
variable {w w' : World} {σ : Nat → Nat} {t g : Nat} {M : Mgr} {vh vq v' : Value} {c : Clm}
theorem MgrIn.addHas (h : MgrIn w σ t g M vh vq) (hc : SetAt w c.blk c.set) (hm : σ c.blk = t + 3) (hl : M.has.length + 1 ≤ 100000)
    (ho : w'.ownsRow 0 86 2 v' (M.has.length + 1) (cvs M.has ++ cvs [c])) (hg : w.grownBy w' vh.ownBlock) (hat : v'.ownBlock = vh.ownBlock ∨ v'.ownBlock = some w.heap.size) :
    MgrAt (w'.setCell ⟨g, 1, none⟩ v') (K.upd σ w.heap.size (t + 1)) t g (M.put false c) ∧ Chg (Om t) σ w (K.upd σ w.heap.size (t + 1)) (w'.setCell ⟨g, 1, none⟩ v') := by
  have cg := row_chgd h.has hg
  have hb := h.blk.chg cg (by omega)
  have c2 : Chg (fun x => x = t) (K.upd σ w.heap.size (t + 1)) w' (K.upd σ w.heap.size (t + 1)) (w'.setCell ⟨g, 1, none⟩ v') := (Chg.refl _ _ w').setCell (p := ⟨g, 1, none⟩) (.inl hb.2) v'
  have hr := row_new h.has ho hat
  rw [← cvs_append] at hr
  refine ⟨⟨v', vq, hb.set_ 1 v', ?_, (h.queue.chg cg (by omega)).chg c2 (by omega), fun d hd => ?_, h.m1, h.m2, ?_, h.ql⟩, (cg.mono (fun x hx => by unfold Om; omega)).trans (c2.mono (fun x hx => by unfold Om; omega))⟩
  · have := hr.chg c2 (by omega)
    show Row _ _ _ _ _ _ (M.has ++ [c]).length _
    rw [List.length_append]
    exact this
  · have hd' : (d ∈ M.has ∨ d ∈ M.queue) ∨ d = c := by
      rcases hd with hd | hd
      · rcases List.mem_append.1 hd with hd | hd
        · exact .inl (.inl hd)
        · simp at hd; exact .inr hd
      · exact .inl (.inr hd)
    have key : SetAt w d.blk d.set ∧ σ d.blk = t + 3 := by
      rcases hd' with hd | rfl
      · exact h.sets d hd
      · exact ⟨hc, hm⟩
    have m1 := (cg.marks _ key.1.lt).trans key.2
    exact ⟨(key.1.chg cg (by rw [key.2]; omega)).chg c2 (by rw [m1]; omega), m1⟩
  · show (M.has ++ [c]).length ≤ _
    rw [List.length_append]
    exact hl
theorem MgrIn.addQueue (h : MgrIn w σ t g M vh vq) (hc : SetAt w c.blk c.set) (hm : σ c.blk = t + 3) (hl : M.queue.length + 1 ≤ 100000)
    (ho : w'.ownsRow 0 86 2 v' (M.queue.length + 1) (cvs M.queue ++ cvs [c])) (hg : w.grownBy w' vq.ownBlock) (hat : v'.ownBlock = vq.ownBlock ∨ v'.ownBlock = some w.heap.size) :
    MgrAt (w'.setCell ⟨g, 2, none⟩ v') (K.upd σ w.heap.size (t + 2)) t g (M.put true c) ∧ Chg (Om t) σ w (K.upd σ w.heap.size (t + 2)) (w'.setCell ⟨g, 2, none⟩ v') := by
  have cg := row_chgd h.queue hg
  have hb := h.blk.chg cg (by omega)
  have c2 : Chg (fun x => x = t) (K.upd σ w.heap.size (t + 2)) w' (K.upd σ w.heap.size (t + 2)) (w'.setCell ⟨g, 2, none⟩ v') := (Chg.refl _ _ w').setCell (p := ⟨g, 2, none⟩) (.inl hb.2) v'
  have hr := row_new h.queue ho hat
  rw [← cvs_append] at hr
  refine ⟨⟨vh, v', hb.set_ 2 v', (h.has.chg cg (by omega)).chg c2 (by omega), ?_, fun d hd => ?_, h.m1, h.m2, h.hl, ?_⟩, (cg.mono (fun x hx => by unfold Om; omega)).trans (c2.mono (fun x hx => by unfold Om; omega))⟩
  · have := hr.chg c2 (by omega)
    show Row _ _ _ _ _ _ (M.queue ++ [c]).length _
    rw [List.length_append]
    exact this
  · have hd' : (d ∈ M.has ∨ d ∈ M.queue) ∨ d = c := by
      rcases hd with hd | hd
      · exact .inl (.inl hd)
      · rcases List.mem_append.1 hd with hd | hd
        · exact .inl (.inr hd)
        · simp at hd; exact .inr hd
    have key : SetAt w d.blk d.set ∧ σ d.blk = t + 3 := by
      rcases hd' with hd | rfl
      · exact h.sets d hd
      · exact ⟨hc, hm⟩
    have m1 := (cg.marks _ key.1.lt).trans key.2
    exact ⟨(key.1.chg cg (by rw [key.2]; omega)).chg c2 (by rw [m1]; omega), m1⟩
  · show (M.queue ++ [c]).length ≤ _
    rw [List.length_append]
    exact hl
end

set_option maxRecDepth 100000 in
set_option maxHeartbeats 6400000 in
theorem ask_c (w : World) (σ : Nat → Nat) (t g : Nat) (M : Mgr) (h : MgrAt w σ t g M) (hs1 : M.has.length + 1 ≤ 100000) (hs2 : M.queue.length + 1 ≤ 100000) (task : Int) (ht : 0 ≤ task)
    (hnh : M.has.any (fun c => c.task == task) = false) (hnq : M.queue.any (fun c => c.task == task) = false) (A : Option Addr) (n cp : Nat) (L : List (Int × Bool)) (hl : L.length = n) (hn : n ≤ 2000) (hL : LksAt w A L) (hA : Asks M.m L) :
    Calls Try.prog 15 #[.pointer (some ⟨g, 0, none⟩), .int .i64 task, .slice A n cp] w fun e w' => ∃ c : Clm, c.task = task ∧ (∀ x, how c.set x = hw L x) ∧ e = .returned (.tuple #[.bool (!(M.stops c)), .nilIface]) ∧ ∃ σ', MgrAt w' σ' t g (M.put (M.stops c) c) ∧ Chg (Om t) σ w σ' w' := by
  obtain ⟨vh, vq, h⟩ := h
  obtain ⟨Ah, ch, rfl⟩ := h.has.slice
  obtain ⟨Aq, cq, rfl⟩ := h.queue.slice
  have hset := set_yes w g M.m h.c0 h.m2 A n cp L hl hn hL hA
  obtain ⟨i1, hi1⟩ : ∃ i, place M.has (fun c => c.task == task) = i := ⟨_, rfl⟩
  obtain ⟨i2, hi2⟩ : ∃ i, place M.queue (fun c => c.task == task) = i := ⟨_, rfl⟩
  have hd1 := place_any M.has (fun c => c.task == task)
  have hd2 := place_any M.queue (fun c => c.task == task)
  rw [hi1, hnh] at hd1
  rw [hi2, hnq] at hd2
  have hf1 := fun W (hb : Below w.heap.size w W) => find_c W Ah M.has.length ch M.has rfl (by have := h.hl; omega) ((row_claims h.has (fun c hc => (h.sets c (.inl hc)).1)).below hb) task i1 hi1
  have hf2 := fun W (hb : Below w.heap.size w W) => find_c W Aq M.queue.length cq M.queue rfl (by have := h.ql; omega) ((row_claims h.queue (fun c hc => (h.sets c (.inr hc)).1)).below hb) task i2 hi2
  have hj1 : ¬ 0 ≤ i1 := by simpa using hd1
  have hj2 : ¬ 0 ≤ i2 := by simpa using hd2
  have ht0 : ¬ task < 0 := by omega
  have H := Lib.hid h
  have Hset := Lib.hid hset
  have HF1 := Lib.hid hf1
  have HF2 := Lib.hid hf2
  have HM := Lib.hid (And.intro hs1 hs2)
  obtain ⟨nh, hnh'⟩ : ∃ x, M.has.length = x := ⟨_, rfl⟩
  obtain ⟨nq, hnq'⟩ : ∃ x, M.queue.length = x := ⟨_, rfl⟩
  rw [hnh'] at H HF1
  rw [hnq'] at H HF2
  have Hn := Lib.hid (And.intro hnh' hnq')
  clear h hset hf1 hf2 hi1 hi2 hd1 hd2 hnh hnq hL hA hs1 hs2 hnh' hnq' ht
  go_enter Try.func15, Try.ntmps15
  go_wp2_with fail
  refine Hset.out.mono ?_
  rintro e w1 ⟨b, D, rfl, hbw, hD, hhow, hb1⟩
  have H1 := Lib.hid (And.intro hb1 (And.intro hD (And.intro hhow hbw)))
  have c1 := (H.out.below hb1).c1
  have c2 := (H.out.below hb1).c2
  clear hb1 hD hhow hbw
  go_wp2_with fail
  refine (HF1.out _ H1.out.1).mono ?_
  rintro e w2 ⟨rfl, hb2⟩
  have HB2 := Lib.hid (And.intro (Below.then_ H1.out.1 H1.out.1.size hb2) (H1.out.2.1.below hb2))
  clear hb2 c1 c2
  have c2 := (H.out.below HB2.out.1).c2
  go_wp2_with fail
  refine (HF2.out _ HB2.out.1).mono ?_
  rintro e w3 ⟨rfl, hb3⟩
  have HB3 := Lib.hid (And.intro (Below.then_ HB2.out.1 HB2.out.1.size hb3) (HB2.out.2.below hb3))
  clear hb3 c2 HB2
  go_upto_region 9 with fail
  have hbA : Below w3.heap.size w3 (w3.alloc (.cells #[.int .i64 task, .map (some b)] 86)) := (Below.refl _ _).alloc (Nat.le_refl _) _
  have hbx := Blk.new w3 86 #[.int .i64 task, .map (some b)]
  have H4 := Lib.hid (And.intro (Below.then_ HB3.out.1 HB3.out.1.size hbA) (And.intro (HB3.out.2.below hbA) hbx))
  clear hbA hbx HB3
  generalize w3.alloc (.cells #[.int .i64 task, .map (some b)] 86) = w4 at H4 ⊢
  generalize w3.heap.size = q at H4 ⊢
  have hMW := H.out.below H4.out.1
  obtain ⟨r1, hr1⟩ : ∃ r, M.has.any (cf D) = r := ⟨_, rfl⟩
  obtain ⟨r2, hr2⟩ : ∃ r, M.queue.any (cf D) = r := ⟨_, rfl⟩
  have hq := H4.out.2.2
  have KS : Hid (∀ W, Below w4.heap.size w4 W → W.cell? ⟨g, 1, none⟩ = some (.slice Ah nh ch) ∧ W.cell? ⟨g, 2, none⟩ = some (.slice Aq nq cq) ∧ W.cell? ⟨q, 0, none⟩ = some (.int .i64 task) ∧ W.cell? ⟨q, 1, none⟩ = some (.map (some b))) := Lib.hid (fun W hb =>
    ⟨(hMW.below hb).c1, (hMW.below hb).c2, by rw [(hq.below' hb).cell]; rfl, by rw [(hq.below' hb).cell]; rfl⟩)
  have HC : Hid (∀ A' n' cp' r, ((A' = Ah ∧ n' = nh ∧ cp' = ch ∧ r = r1) ∨ (A' = Aq ∧ n' = nq ∧ cp' = cq ∧ r = r2)) → ∀ W, Below w4.heap.size w4 W → Calls Try.prog 45 #[.slice A' n' cp', .func (Fn.func 46) #[.agg #[.int .i64 task, .map (some b)]] #[]] W fun e w' => e = .returned (.bool r) ∧ Below w4.heap.size w4 w') := Lib.hid (fun A' n' cp' r hsel W hb => by
    have hm := hMW.below hb
    have hD := H4.out.2.1.below hb
    rcases hsel with ⟨rfl, rfl, rfl, rfl⟩ | ⟨rfl, rfl, rfl, rfl⟩
    · have hrow := hm.has
      refine (contains_c W A' n' cp' M.has Hn.out.1 (by have := hm.hl; have := Hn.out.1; omega) (row_claims hrow (fun c hc => (hm.sets c (.inl hc)).1)) task b D hD r hr1).mono (fun e w' ⟨he, h'⟩ => ⟨he, Below.then_ hb hb.size h'⟩)
    · have hrow := hm.queue
      refine (contains_c W A' n' cp' M.queue Hn.out.2 (by have := hm.ql; have := Hn.out.2; omega) (row_claims hrow (fun c hc => (hm.sets c (.inr hc)).1)) task b D hD r hr2).mono (fun e w' ⟨he, h'⟩ => ⟨he, Below.then_ hb hb.size h'⟩))
  have HDR : Hid (Below w4.heap.size w4 w4.drew) := Lib.hid (Below.refl _ _).drew
  have Hr := Lib.hid (And.intro hr1 hr2)
  clear hMW hq hr1 hr2
  go_cut [66] (fun z w' => z = .bool (r1 || r2) ∧ Below w4.heap.size w4 w')
  case first =>
    rcases r1 with _ | _
    · go_region_held3 (fun W => W.cell? ⟨g, 1, none⟩ = some (.slice Ah nh ch) ∧ W.cell? ⟨g, 2, none⟩ = some (.slice Aq nq cq) ∧ W.cell? ⟨q, 0, none⟩ = some (.int .i64 task) ∧ W.cell? ⟨q, 1, none⟩ = some (.map (some b))) (first | exact KS.out _ (by first | assumption | exact HDR.out) | fail)
        ((go_at_call 45; refine (HC.out _ _ _ _ (by first | exact .inl ⟨rfl, rfl, rfl, rfl⟩ | exact .inr ⟨rfl, rfl, rfl, rfl⟩) _ (by first | assumption | exact HDR.out)).mono ?_; rintro e w5 ⟨rfl, hb5⟩))
      go_wp2_with fail
      go_meet
      case rel => exact ⟨by simp, by assumption⟩
    · obtain ⟨s1, s2, s3, s4⟩ := KS.out w4.drew HDR.out
      first
        | (go_region_law (first | (rw [if_pos (by rfl)]; go_simp; go_at_call 45; refine (HC.out _ _ _ _ (by first | exact .inl ⟨rfl, rfl, rfl, rfl⟩ | exact .inr ⟨rfl, rfl, rfl, rfl⟩) _ (by first | assumption | exact HDR.out)).mono ?_; rintro e w5 ⟨rfl, hb5⟩; obtain ⟨u1, u2, u3, u4⟩ := KS.out w5 hb5) | fail))
        | fail
      all_goals
        go_wp2_with fail
        go_meet
        case rel => exact ⟨by simp, by assumption⟩
  case rest =>
    rename World => w5
    obtain ⟨rfl, hb5⟩ := hcut
    have hbw5 := Below.then_ H4.out.1 H4.out.1.size hb5
    have hS := KS.out w5 hb5
    have hMW := (H.out.upd (Nat.le_refl _) (t + 3)).below hbw5
    have hba : Below w5.heap.size w5 (w5.drew.alloc (.cells #[.int .i64 task, .map (some b)] 86)) := (Below.refl _ _).drew.alloc (Nat.le_refl _) _
    have hMA := hMW.below hba
    have HD5 := Lib.hid (And.intro (H4.out.2.1.below hb5) (And.intro (show K.upd σ w.heap.size (t + 3) b = t + 3 from upd_new H1.out.2.2.2) (((Chg.of_below (Om t) σ (Below.then_ hbw5 hbw5.size hba))).upd (Nat.le_refl _) (t + 3))))
    obtain ⟨r, hr⟩ : ∃ r, (r1 || r2) = r := ⟨_, rfl⟩
    have HR : Hid (M.stops ⟨task, b, D⟩ = r) := Lib.hid (by unfold Mgr.stops; rw [← hr, ← Hr.out.1, ← Hr.out.2])
    rw [hr]
    clear hr hb5 hbw5 HC KS HDR Hr
    rcases r with _ | _
    · have hrow := hMW.has
      have hstore : ∀ w6, (w5.drew.alloc (.cells #[.int .i64 task, .map (some b)] 86)).grownBy w6 (Value.slice Ah nh ch).ownBlock → w6.cell? ⟨g, 1, none⟩ = some (.slice Ah nh ch) ∧ w6.frozen? ⟨g, 1, none⟩ = false := fun w6 hg => by
        have cg := row_chgd (hMA.has) hg
        have hb := (hMA.blk.chg cg (by omega)).1
        exact ⟨by rw [hb.cell]; rfl, hb.frozen 1⟩
      have hown : (w5.drew.alloc (.cells #[.int .i64 task, .map (some b)] 86)).ownsRow 0 86 2 (.slice Ah nh ch) nh (cvs M.has) := by
        have := hMA.has.1
        rw [Hn.out.1] at this
        exact this
      have hnew : Reads (w5.drew.alloc (.cells #[.int .i64 task, .map (some b)] 86)) (some ⟨w5.heap.size, 0, none⟩) [.int .i64 task, .map (some b)] := reads_new w5.drew #[.int .i64 task, .map (some b)] 86
      obtain ⟨s1, s2, s3, s4⟩ := hS
      have x1 : (w5.alloc (.cells #[.int .i64 task, .map (some b)] 86)).cell? ⟨g, 1, none⟩ = some (.slice Ah nh ch) := hMA.c1
      have HST := Lib.hid hstore
      have HOW := Lib.hid hown
      have HNW := Lib.hid hnew
      have HMA := Lib.hid hMA
      have HBA := Lib.hid hba
      have hlen : nh + 1 ≤ 100000 := by have := HM.out.1; rw [Hn.out.1] at this; exact this
      obtain ⟨i0, hi, hz0, hz1, hz2⟩ := info_parts info86'
      clear hstore hown hnew hMA hMW hrow hba
      go_upto_region 12 with fail
      refine wp_last ?_
      intro Kq hKq
      go_cut [] (fun w' => ∃ v' w6, (w5.drew.alloc (.cells #[.int .i64 task, .map (some b)] 86)).grownBy w6 (Value.slice Ah nh ch).ownBlock ∧ w6.ownsRow 0 86 2 v' (nh + 1) (cvs M.has ++ [.int .i64 task, .map (some b)]) ∧ (v'.ownBlock = (Value.slice Ah nh ch).ownBlock ∨ v'.ownBlock = some (w5.drew.alloc (.cells #[.int .i64 task, .map (some b)] 86)).heap.size) ∧ w' = w6.setCell ⟨g, 1, none⟩ v')
      case first =>
        go_region_law (first | (refine step_append_reads (by rfl) _ _ 75 (by rfl) 0 86 i0 _ 2 16 Try.underlying75 hi hz0 hz1 hz2 rfl (by omega) (.slice Ah nh ch) nh (cvs M.has) (by rfl) (by exact HOW.out) (some ⟨w5.heap.size, 0, none⟩) 1 1 [.int .i64 task, .map (some b)] (by rfl) rfl (by exact HNW.out) (by intro u hu; simp at hu; rcases hu with rfl | rfl <;> rfl) (by unfold maxLen; omega) (by omega) (Nat.zero_le _) ?_; intro v6 w6 ho6 hg6 hat6; obtain ⟨A6, c6, rfl⟩ := own_slice ho6; obtain ⟨st1, st2⟩ := HST.out w6 hg6) | fail)
        all_goals
          go_wp2_with fail
          go_meet
          case rel => exact ⟨_, w6, hg6, ho6, hat6, rfl⟩
      case rest =>
        rename World => w7
        obtain ⟨v', w6, hg6, ho6, hat6, rfl⟩ := hcut
        have hfin := HMA.out.addHas (c := ⟨task, b, D⟩) (v' := v') (HD5.out.1.below HBA.out) HD5.out.2.1 HM.out.1 (by rw [Hn.out.1]; exact ho6) hg6 hat6
        have HFIN := Lib.hid (And.intro hfin.1 (HD5.out.2.2.trans hfin.2))
        clear hfin hg6 ho6 hat6
        refine hKq _ _ ?_
        go_wp2
        go_ret2
        exact ⟨⟨task, b, D⟩, rfl, H1.out.2.2.1, by rw [HR.out]; rfl, _, by rw [HR.out]; exact HFIN.out.1, HFIN.out.2⟩
    · have hrow := hMW.queue
      have hstore : ∀ w6, (w5.drew.alloc (.cells #[.int .i64 task, .map (some b)] 86)).grownBy w6 (Value.slice Aq nq cq).ownBlock → w6.cell? ⟨g, 2, none⟩ = some (.slice Aq nq cq) ∧ w6.frozen? ⟨g, 2, none⟩ = false := fun w6 hg => by
        have cg := row_chgd (hMA.queue) hg
        have hb := (hMA.blk.chg cg (by omega)).1
        exact ⟨by rw [hb.cell]; rfl, hb.frozen 2⟩
      have hown : (w5.drew.alloc (.cells #[.int .i64 task, .map (some b)] 86)).ownsRow 0 86 2 (.slice Aq nq cq) nq (cvs M.queue) := by
        have := hMA.queue.1
        rw [Hn.out.2] at this
        exact this
      have hnew : Reads (w5.drew.alloc (.cells #[.int .i64 task, .map (some b)] 86)) (some ⟨w5.heap.size, 0, none⟩) [.int .i64 task, .map (some b)] := reads_new w5.drew #[.int .i64 task, .map (some b)] 86
      obtain ⟨s1, s2, s3, s4⟩ := hS
      have x1 : (w5.alloc (.cells #[.int .i64 task, .map (some b)] 86)).cell? ⟨g, 2, none⟩ = some (.slice Aq nq cq) := hMA.c2
      have HST := Lib.hid hstore
      have HOW := Lib.hid hown
      have HNW := Lib.hid hnew
      have HMA := Lib.hid hMA
      have HBA := Lib.hid hba
      have hlen : nq + 1 ≤ 100000 := by have := HM.out.2; rw [Hn.out.2] at this; exact this
      obtain ⟨i0, hi, hz0, hz1, hz2⟩ := info_parts info86'
      clear hstore hown hnew hMA hMW hrow hba
      go_upto_region 10 with fail
      refine wp_last ?_
      intro Kq hKq
      go_cut [] (fun w' => ∃ v' w6, (w5.drew.alloc (.cells #[.int .i64 task, .map (some b)] 86)).grownBy w6 (Value.slice Aq nq cq).ownBlock ∧ w6.ownsRow 0 86 2 v' (nq + 1) (cvs M.queue ++ [.int .i64 task, .map (some b)]) ∧ (v'.ownBlock = (Value.slice Aq nq cq).ownBlock ∨ v'.ownBlock = some (w5.drew.alloc (.cells #[.int .i64 task, .map (some b)] 86)).heap.size) ∧ w' = w6.setCell ⟨g, 2, none⟩ v')
      case first =>
        go_region_law (first | (refine step_append_reads (by rfl) _ _ 75 (by rfl) 0 86 i0 _ 2 16 Try.underlying75 hi hz0 hz1 hz2 rfl (by omega) (.slice Aq nq cq) nq (cvs M.queue) (by rfl) (by exact HOW.out) (some ⟨w5.heap.size, 0, none⟩) 1 1 [.int .i64 task, .map (some b)] (by rfl) rfl (by exact HNW.out) (by intro u hu; simp at hu; rcases hu with rfl | rfl <;> rfl) (by unfold maxLen; omega) (by omega) (Nat.zero_le _) ?_; intro v6 w6 ho6 hg6 hat6; obtain ⟨A6, c6, rfl⟩ := own_slice ho6; obtain ⟨st1, st2⟩ := HST.out w6 hg6) | fail)
        all_goals
          go_wp2_with fail
          go_meet
          case rel => exact ⟨_, w6, hg6, ho6, hat6, rfl⟩
      case rest =>
        rename World => w7
        obtain ⟨v', w6, hg6, ho6, hat6, rfl⟩ := hcut
        have hfin := HMA.out.addQueue (c := ⟨task, b, D⟩) (v' := v') (HD5.out.1.below HBA.out) HD5.out.2.1 HM.out.2 (by rw [Hn.out.2]; exact ho6) hg6 hat6
        have HFIN := Lib.hid (And.intro hfin.1 (HD5.out.2.2.trans hfin.2))
        clear hfin hg6 ho6 hat6
        refine hKq _ _ ?_
        go_wp2
        go_ret2
        exact ⟨⟨task, b, D⟩, rfl, H1.out.2.2.1, by rw [HR.out]; rfl, _, by rw [HR.out]; exact HFIN.out.1, HFIN.out.2⟩
end Go.Proofs.Ytgcnappgecdldaa.C
