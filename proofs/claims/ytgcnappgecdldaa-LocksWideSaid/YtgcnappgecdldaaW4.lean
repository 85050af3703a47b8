/-
  Locks: LocksWide: the walk.
-/
import Derived.Test.YtgcnappgecdldaaW3
set_option linter.unusedVariables false
set_option linter.unusedSimpArgs false
namespace Go.Proofs.Ytgcnappgecdldaa.C
open Go.RowKit Go.Proofs.Ytgcnappgecdldaa.K Go.Maps

theorem Rw.frozen {w : World} {σ : Nat → Nat} {n g cap : Nat} {al : List Ak} {m : Int} (h : Rw w σ n al (.slice (some ⟨g, 0, none⟩) n cap) m) (j : Nat) : w.frozen? ⟨g, j, none⟩ = false := by
  rcases h.row.1.2 with ⟨h', _⟩ | ⟨g', cap', cur, h', _, hg, _⟩
  · cases h'
  · cases h'
    exact (show Blk w g 35 cur from hg).frozen j
theorem take_ex {al : List Ak} {P : Ak → Prop} (j : Nat) (hj : j < al.length) : (∃ a ∈ al.take (j + 1), P a) ↔ (∃ a ∈ al.take j, P a) ∨ P al[j] := by
  rw [take_next al j hj]
  constructor
  · rintro ⟨a, ha, hp⟩
    rcases List.mem_append.1 ha with ha | ha
    · exact .inl ⟨a, ha, hp⟩
    · simp at ha
      subst ha
      exact .inr hp
  · rintro (⟨a, ha, hp⟩ | hp)
    · exact ⟨a, List.mem_append_left _ ha, hp⟩
    · exact ⟨al[j], List.mem_append_right _ (List.mem_singleton.2 rfl), hp⟩
theorem WInv.fresh {M : Mgr} {al : List Ak} (h : WInv M al) (t : Int) (ht : ∀ a ∈ al, a.task < t) : M.has.any (fun c => c.task == t) = false ∧ M.queue.any (fun c => c.task == t) = false := by
  constructor
  · rw [List.any_eq_false]
    intro c hc
    have h1 := h.has.mem_iff.1 (List.mem_map_of_mem hc)
    obtain ⟨a, ha, hae⟩ := List.mem_map.1 h1
    have h2 : a.task = c.task := congrArg Prod.fst hae
    have := ht a (mem_yesL.1 ha).1
    simp
    omega
  · rw [List.any_eq_false]
    intro c hc
    have h1 : ckey c ∈ M.queue.map ckey := List.mem_map_of_mem hc
    rw [h.queue] at h1
    obtain ⟨a, ha, hae⟩ := List.mem_map.1 h1
    have h2 : a.task = c.task := congrArg Prod.fst hae
    have := ht a (mem_noL.1 ha).1
    simp
    omega

theorem first_yes {al : List Ak} (h : ∃ a ∈ al, a.yes = true) : ∃ i, ∃ hi : i < al.length, al[i].yes = true ∧ ∀ j (hj : j < al.length), j < i → al[j].yes = false := by
  induction al with
  | nil => obtain ⟨a, ha, _⟩ := h; simp at ha
  | cons a r ih =>
    rcases hy : a.yes with _ | _
    · obtain ⟨b, hb, hby⟩ := h
      have h2 : ∃ a ∈ r, a.yes = true := by
        rcases List.mem_cons.1 hb with rfl | hb
        · rw [hy] at hby; cases hby
        · exact ⟨b, hb, hby⟩
      obtain ⟨i, hi, h1, h3⟩ := ih h2
      refine ⟨i + 1, by simpa using hi, h1, fun j hj hji => ?_⟩
      rcases j with _ | j
      · exact hy
      · exact h3 j (by simpa using hj) (by omega)
    · exact ⟨0, by simp, hy, fun j _ h => by omega⟩
theorem stopped_zero (al : List Ak) (i : Nat) (hi : i < al.length) : ¬ Stopped al i hi 0 := fun ⟨j, _, h, _⟩ => by omega
theorem stopped_succ {al : List Ak} {i : Nat} {hi : i < al.length} (j : Nat) (hj : j < al.length) : Stopped al i hi (j + 1) ↔ Stopped al i hi j ∨ (j ≠ i ∧ (al[j].yes = true ∨ j < i) ∧ CL al[j].L al[i].L) := by
  constructor
  · rintro ⟨x, hx, h1, h2, h3, h4⟩
    by_cases e : x = j
    · subst e; exact .inr ⟨h2, h3, h4⟩
    · exact .inl ⟨x, hx, by omega, h2, h3, h4⟩
  · rintro (⟨x, hx, h1, h2, h3, h4⟩ | ⟨h2, h3, h4⟩)
    · exact ⟨x, hx, by omega, h2, h3, h4⟩
    · exact ⟨j, hj, by omega, h2, h3, h4⟩
theorem tasks_ints (l : List Clm) : tasks l = (l.map (·.task)).map (Value.int .i64) := by simp [tasks]

set_option maxRecDepth 100000 in
set_option maxHeartbeats 6400000 in
theorem wide_walk (w : World) (a0 : Int) (w0 : (Lit.int .i64 a0).wf = true)
    (v1 : Value) (o1 : ∃ (A : Option Addr) (n c : Nat) (f : Nat → Int), v1 = .slice A n c ∧ n ≤ c ∧ Flat1 w A n f ∧ n * 8 ≤ 140737488351232)
    (v2 : Value) (o2 : ∃ (A : Option Addr) (n c : Nat) (f : Nat → Int), v2 = .slice A n c ∧ n ≤ c ∧ Flat1 w A n f ∧ n * 8 ≤ 140737488351232)
    (v3 : Value) (o3 : ∃ (A : Option Addr) (n c : Nat) (f : Nat → Int), v3 = .slice A n c ∧ n ≤ c ∧ Flat1 w A n f ∧ n * 8 ≤ 140737488351232) :
    Calls Try.prog 4 #[.int .i64 a0, v1, v2, v3] w fun e w' => e = .returned (.bool true) ∧ Below w.heap.size w w' := by
  obtain ⟨A1, n1, c1, f1, rfl, hc1, hF1, hn1⟩ := o1
  obtain ⟨A2, n2, c2, f2, rfl, hc2, hF2, hn2⟩ := o2
  obtain ⟨A3, n3, c3, f3, rfl, hc3, hF3, hn3⟩ := o3
  have HF := Lib.hid (And.intro hF1 (And.intro hF2 hF3))
  have x1 : n1 ≤ 17592186043904 := by omega
  have x2 : n2 ≤ 17592186043904 := by omega
  have x3 : n3 ≤ 17592186043904 := by omega
  clear hF1 hF2 hF3 hc1 hc2 hc3 hn1 hn2 hn3
  go_enter Try.func4, Try.ntmps4
  go_wp2_with fail
  refine (known_c w).mono ?_
  rintro e w1 ⟨rfl, hb1⟩
  have HB := Lib.hid hb1
  clear hb1
  go_wp2_with fail
  refine (within_c w1 a0 1024 (by omega) (by omega)).mono ?_
  rintro e w1' ⟨r, rfl, hr, rfl⟩
  have hr1 : r ≤ 1023 := by omega
  go_wp2_with fail
  generalize hmi : 1 + (r : Int) = mi
  obtain ⟨m, rfl⟩ := Int.eq_ofNat_of_zero_le (show 0 ≤ mi by omega)
  have hm1 : 1 ≤ m := by omega
  have hm2 : m ≤ 1024 := by omega
  clear hmi hr hr1
  refine (new_mgr w1 m (by omega) (by omega) (fun _ => 0) 1000).mono ?_
  rintro e w2 ⟨g, rfl, hgw, hm, hb⟩
  have H2 := Lib.hid (show Wm w w2 (K.upd (fun _ => 0) w1.heap.size 1000) g m 0 [] ⟨m, [], []⟩ (.slice none 0 0) from
    ⟨Rw.nil _ _ _, hm, rfl, (((St.first w).below HB.out).upd HB.out.size 1000).below hb, ⟨List.Perm.refl _, rfl, List.Pairwise.nil, fun a ha => by simp at ha⟩, fun h => absurd rfl h⟩)
  clear hm hb hgw HB
  generalize K.upd (fun _ => 0) w1.heap.size 1000 = σ2 at H2
  by_cases z1 : n1 = 0
  · subst z1
    go_wp2_with fail
    go_ret
    exact ⟨rfl, H2.out.st.bel⟩
  by_cases z2 : n2 = 0
  · subst z2
    have y1 : ((n1 : Int) == 0) = false := by simp; omega
    go_wp2_with fail
    go_ret
    exact ⟨rfl, H2.out.st.bel⟩
  by_cases z3 : n3 = 0
  · subst z3
    have y1 : ((n1 : Int) == 0) = false := by simp; omega
    have y2 : ((n2 : Int) == 0) = false := by simp; omega
    go_wp2_with fail
    go_ret
    exact ⟨rfl, H2.out.st.bel⟩
  obtain ⟨b1, p1, rfl, hg1, hc1⟩ := HF.out.1.at_ (by omega)
  obtain ⟨b2, p2, rfl, hg2, hc2⟩ := HF.out.2.1.at_ (by omega)
  obtain ⟨b3, p3, rfl, hg3, hc3⟩ := HF.out.2.2.at_ (by omega)
  have H0 := Lib.hid (And.intro (And.intro hg1 hc1) (And.intro (And.intro hg2 hc2) (And.intro hg3 hc3)))
  clear HF hg1 hc1 hg2 hc2 hg3 hc3
  have y1 : ((n1 : Int) == 0) = false := by simp; omega
  have y2 : ((n2 : Int) == 0) = false := by simp; omega
  have y3 : ((n3 : Int) == 0) = false := by simp; omega
  go_wp2_with fail
  go_loopw [11, 12] (fun vl vi wr => ∃ (k : Nat) (al : List Ak) (M : Mgr) (σ : Nat → Nat), k ≤ 20 ∧ k ≤ n1 ∧ vi = .int .i64 k ∧ (∀ a ∈ al, a.task < 1000 + k) ∧ Wm w wr σ g m k al M vl) (fun _ vi _ => 20 - (intOf vi).toNat)
  case atStart => exact ⟨0, [], _, σ2, by omega, by omega, rfl, fun a ha => by simp at ha, H2.out⟩
  case round =>
    clear H2
    rename World => wa
    obtain ⟨k, al, M, σ, hk20, hkn, rfl, htk, hW⟩ := hrel
    obtain ⟨Al, cal, rfl⟩ := hW.row.row.slice
    have HW := Lib.hid (And.intro hW htk)
    clear hW htk
    have z2' : ¬ (n2 : Int) = 0 := by omega
    have z3' : ¬ (n3 : Int) = 0 := by omega
    by_cases hk : k < n1 ∧ k < 20
    · have k0 : (0 : Int) ≤ (k : Int) := by omega
      have k1 : (k : Int) < (n1 : Int) := by omega
      have k2 : (k : Int) < 20 := by omega
      obtain ⟨q2, hq2⟩ : ∃ q, k % n2 = q := ⟨_, rfl⟩
      have hq2l : q2 < n2 := by rw [← hq2]; exact Nat.mod_lt _ (by omega)
      have hq2i : Int.tmod (k : Int) (n2 : Int) = (q2 : Int) := by rw [← hq2]; exact (Int.ofNat_tmod ..)
      obtain ⟨q3, hq3⟩ : ∃ q, k % n3 = q := ⟨_, rfl⟩
      have hq3l : q3 < n3 := by rw [← hq3]; exact Nat.mod_lt _ (by omega)
      have hq3i : Int.tmod (k : Int) (n3 : Int) = (q3 : Int) := by rw [← hq3]; exact (Int.ofNat_tmod ..)
      have d1 : wa.cell? ⟨b1, p1 + k, none⟩ = some (.int .i64 (f1 k)) := (HW.out.1.st.bel.cell (p := ⟨b1, p1 + k, none⟩) H0.out.1.1).trans (H0.out.1.2 k (by omega))
      have d2 : wa.cell? ⟨b2, p2 + q2, none⟩ = some (.int .i64 (f2 q2)) := (HW.out.1.st.bel.cell (p := ⟨b2, p2 + q2, none⟩) H0.out.2.1.1).trans (H0.out.2.1.2 q2 (by omega))
      have e1 : (q2 : Int) < (n2 : Int) := by omega
      have e2 : (0 : Int) ≤ (q2 : Int) := by omega
      have e3 : (q3 : Int) < (n3 : Int) := by omega
      have e4 : (0 : Int) ≤ (q3 : Int) := by omega
      clear hq2 hq3
      go_wp2_with fail
      refine (within_c wa (f2 q2) 40 (by omega) (by omega)).mono ?_
      rintro e wx ⟨r2, rfl, hr2, rfl⟩
      have hr2n : r2 ≤ 39 := by omega
      go_wp2_with fail
      generalize hst : 1 + (r2 : Int) = sti
      obtain ⟨stp, rfl⟩ := Int.eq_ofNat_of_zero_le (show 0 ≤ sti by omega)
      have hst1 : 1 ≤ stp := by omega
      have hst2 : stp ≤ 40 := by omega
      clear hst hr2 hr2n d2
      refine (within_c wa (f1 k) m (by omega) (by omega)).mono ?_
      rintro e wx ⟨k0', rfl, hk0, rfl⟩
      have hk0n : k0' < m := by omega
      clear d1 hk0
      obtain ⟨i1, hi1, hy0, hy1, hy2⟩ := info_parts info32'
      have HI := Lib.hid (And.intro hi1 (And.intro hy0 (And.intro hy1 hy2)))
      clear hi1 hy0 hy1 hy2
      go_wp2_with fail
      go_loopw [14, 15] (fun vs vk wz => ∃ (j : Nat) (L : List (Int × Bool)), vk = .int .i64 j ∧ j ≤ 2000 ∧ wz.ownsRow wa.heap.size 32 2 vs L.length (lks L) ∧ Below wa.heap.size wa wz ∧ Rise L ∧ (∀ p ∈ L, 0 ≤ p.1 ∧ p.1 < j ∧ p.1 < m) ∧ L.length ≤ j ∧ L.length ≤ m ∧ (L = [] → j < m)) (fun _ vk _ => m - (intOf vk).toNat)
      case atStart => exact ⟨k0', [], rfl, by omega, World.ownsRow_nil _ _ _ _, Below.refl _ _, List.Pairwise.nil, fun p hp => by simp at hp, Nat.zero_le _, Nat.zero_le _, fun _ => hk0n⟩
      case round =>
        rename World => wz
        obtain ⟨j, L, rfl, hj, ho, hbz, hri, hL, hlj, hlm, hne⟩ := hrel
        obtain ⟨As, cs, rfl⟩ := own_slice ho
        obtain ⟨ln, hln⟩ : ∃ n, L.length = n := ⟨_, rfl⟩
        rw [hln] at ho
        simp only [hln]
        have HL := Lib.hid (And.intro ho (And.intro hbz (And.intro hri (And.intro hL (And.intro hlj (And.intro hlm (And.intro hne hln)))))))
        have hln2 : ln ≤ 1024 := by omega
        clear ho hbz hri hL hlj hlm hne hln
        by_cases hjm : j < m
        · have g0 : (j : Int) < (m : Int) := by omega
          have d3 : wz.cell? ⟨b3, p3 + q3, none⟩ = some (.int .i64 (f3 q3)) := ((Below.then_ HW.out.1.st.bel HW.out.1.st.size HL.out.2.1).cell (p := ⟨b3, p3 + q3, none⟩) H0.out.2.2.1).trans (H0.out.2.2.2 q3 (by omega))
          go_wp2_with fail
          refine (within_c wz (f3 q3) 2 (by omega) (by omega)).mono ?_
          rintro e wx ⟨r3, rfl, hr3, rfl⟩
          obtain ⟨sb, hsb⟩ : ∃ b : Bool, ((r3 : Int) == 1) = b := ⟨_, rfl⟩
          obtain ⟨hi1, hy0, hy1, hy2⟩ := HI.out
          clear hr3 d3
          go_wp2_with (first | (at_builtin; refine wpList_append_reads (by rfl) _ _ 30 (by rfl) wa.heap.size 32 i1 _ 2 16 Try.underlying30 hi1 hy0 hy1 hy2 rfl (by omega) (.slice As ln cs) ln (lks L) (by rfl) ?c0 (some ⟨wz.heap.size, 0, none⟩) 1 1 [.int .i64 (j : Int), .bool sb] (by rfl) rfl ?c2 (by intro u hu; simp at hu; rcases hu with rfl | rfl <;> rfl) ?c4 ?c5 ?c6 ?_) | fail)
          case c0 => exact own_below HL.out.1 ((Below.refl _ _).alloc (Nat.le_refl _) _)
          case c2 => exact reads_new2 wz #[.int .i64 (j : Int), .bool sb] 32
          case c4 => unfold maxLen; omega
          case c5 => omega
          case c6 => have := HL.out.2.1.size; simp; omega
          intro v' w9 hown9 hgrow hat
          have hb9 : Below wa.heap.size wa w9 := (HL.out.2.1.alloc HL.out.2.1.size _).grown hgrow (by have := HL.out.2.1.size; simp; omega) (fun x e => (HL.out.1.lt x e).1)
          have HR := Lib.hid (And.intro (show w9.ownsRow wa.heap.size 32 2 v' (L ++ [((j : Int), sb)]).length (lks (L ++ [((j : Int), sb)])) from by rw [List.length_append, HL.out.2.2.2.2.2.2.2, lks_append]; exact hown9) hb9)
          clear hat hgrow hown9 hb9 hi1 hy0 hy1 hy2
          go_wp2
          go_roundw
          case rel => exact ⟨j + stp, L ++ [((j : Int), sb)], by go_num, by omega, HR.out.1, HR.out.2, rise_snoc HL.out.2.2.1 _ _ (fun p hp => (HL.out.2.2.2.1 p hp).2.1), fun p hp => by
              rcases List.mem_append.1 hp with hp | hp
              · have := HL.out.2.2.2.1 p hp
                exact ⟨this.1, by omega, this.2.2⟩
              · simp at hp
                subst hp
                exact ⟨by show (0 : Int) ≤ (j : Int); omega, by show (j : Int) < ((j + stp : Nat) : Int); omega, by show (j : Int) < (m : Int); omega⟩,
              by have := HL.out.2.2.2.2.1; simp; omega, by have := HL.out.2.2.2.2.1; simp; omega, fun h => absurd h (by simp)⟩
          case measure => simp [intOf]; omega
        · have g0 : ¬ (j : Int) < (m : Int) := by omega
          have HS := Lib.hid (And.intro (show Asks (m : Int) L from ⟨fun e => absurd (HL.out.2.2.2.2.2.2.1 e) hjm, fun p hp => (HL.out.2.2.2.1 p hp).1, fun p hp => (HL.out.2.2.2.1 p hp).2.2, fun i j hi hj e => rise_once HL.out.2.2.1 i j hi hj e⟩) (And.intro HL.out.2.2.1 HL.out.2.2.2.2.2.2.2))
          have HV := Lib.hid (And.intro ((HW.out.1.upd (Nat.le_refl wa.heap.size) 6).below HL.out.2.1) (show Row wz (K.upd σ wa.heap.size 6) 6 32 2 (.slice As ln cs) ln (lks L) from by have := Row.fresh HL.out.1 (σ := σ) 6; exact this))
          have Ht := Lib.hid HW.out.2
          clear HL HW HI
          generalize K.upd σ wa.heap.size 6 = σz at HV
          go_wp2_with fail
          clear hjm g0 hj
          go_loopw [16, 17] (fun vb vj wq => ∃ (j : Nat) (b : Bool), vj = .int .i64 j ∧ j ≤ k ∧ vb = .bool b ∧ (b = true ↔ ∃ a ∈ al.take j, CL a.L L) ∧ Below wz.heap.size wz wq) (fun _ vj _ => k - (intOf vj).toNat)
          case atStart => exact ⟨0, false, rfl, Nat.zero_le _, rfl, by simp, Below.refl _ _⟩
          case round =>
            rename World => wq
            obtain ⟨j, b, rfl, hjk, rfl, hbj, hbq⟩ := hrel
            have HQ := Lib.hid (And.intro hbj hbq)
            clear hbj hbq
            by_cases hjlt : j < k
            · have g1 : (j : Int) < (k : Int) := by omega
              have g2 : (0 : Int) ≤ (j : Int) := by omega
              have hjl : j < al.length := by rw [HV.out.1.row.len]; exact hjlt
              have HX := Lib.hid (take_ex (P := fun a => CL a.L L) j hjl)
              rcases b with _ | _
              · have hVq := HV.out.1.row.below HQ.out.2
                obtain ⟨ga, rfl, hga, u0, u1, u2, Bv, cv, hv, hlk, hrw⟩ := hVq.at_ j hjl
                have hset := hVq.sets al[j] (List.getElem_mem hjl)
                have hris := HV.out.1.inv.rise al[j] (List.getElem_mem hjl)
                rw [hv] at u1
                obtain ⟨rb, hrb⟩ : ∃ b : Bool, b = true ↔ CL al[j].L L := by
                  rcases Classical.em (CL al[j].L L) with h | h
                  · exact ⟨true, by simp [h]⟩
                  · exact ⟨false, by simp [h]⟩
                have hmt := meets_c wq Bv As al[j].n ln cv cs al[j].L L hset.2.1 HS.out.2.2 (by omega) (by omega) hlk ((row_lks HV.out.2 HS.out.2.2).below HQ.out.2) hris HS.out.2.1 rb hrb
                have HM := Lib.hid (And.intro hmt hrb)
                clear hmt hrb hset hris hlk hrw hVq hv u0 u2
                generalize al[j].n = na at u1 HM
                go_wp2_with fail
                refine HM.out.1.mono ?_
                rintro e wn ⟨rfl, hbn⟩
                have HN := Lib.hid (Below.then_ HQ.out.2 HQ.out.2.size hbn)
                clear hbn u1
                go_wp2_with fail
                go_roundw
                case rel => exact ⟨j + 1, rb, by go_num, by omega, rfl, by
                  rw [HX.out, ← HM.out.2]
                  constructor
                  · exact .inr
                  · rintro (h | h)
                    · exact absurd (HQ.out.1.2 h) (by simp)
                    · exact h, HN.out⟩
                case measure => simp [intOf]; omega
              · go_wp2_with fail
                go_roundw
                case rel => exact ⟨j + 1, true, by go_num, by omega, rfl, by
                  rw [HX.out]
                  exact ⟨fun _ => .inl (HQ.out.1.1 rfl), fun _ => rfl⟩, HQ.out.2⟩
                case measure => simp [intOf]; omega
            · have g1 : ¬ (j : Int) < (k : Int) := by omega
              obtain rfl : j = k := by omega
              have hlenk := HV.out.1.row.len
              have hall : b = true ↔ ∃ a ∈ al, CL a.L L := by
                have h := HQ.out.1
                rw [List.take_of_length_le (by rw [hlenk]; exact Nat.le_refl _)] at h
                exact h
              have hVq := HV.out.1.below HQ.out.2
              have hVr := HV.out.2.below HQ.out.2
              have hfr := HV.out.1.inv.fresh (1000 + (j : Int)) Ht.out
              have hln' := HV.out.1.inv.len
              have hask := ask_c wq σz 1000 g M hVq.mgr (by omega) (by omega) (1000 + (j : Int)) (by omega) hfr.1 hfr.2 As ln cs L HS.out.2.2 (by omega) (row_lks hVr HS.out.2.2) (by rw [HV.out.1.mm]; exact HS.out.1)
              have HA := Lib.hid (And.intro hask (And.intro hVq (And.intro hVr hall)))
              have HLn := Lib.hid (And.intro HS.out.2.2 (fun p (hp : p ∈ L) => And.intro (HS.out.1.low p hp) (HS.out.1.high p hp)))
              clear hask hVq hVr hall hfr hln' hlenk HQ HV
              go_wp2_with fail
              refine HA.out.1.mono ?_
              rintro e w4 ⟨c, hct, hch, rfl, σ4, hm4, hc4⟩
              have hav := HA.out.2.1.inv.ask HA.out.2.1.some_ c L (.slice As ln cs) ln hch HS.out.2.1 (fun a ha => by have := Ht.out a ha; omega)
              obtain ⟨ob, hob⟩ : ∃ b, M.stops c = b := ⟨_, rfl⟩
              rw [hob, hct] at hav
              rw [hob] at hm4 ⊢
              have hbo : ob = b := by
                rcases hb1 : b with _ | _
                · rcases hb2 : ob with _ | _
                  · rfl
                  · exact absurd (HA.out.2.2.2.2 (hav.1.1 hb2)) (by simp [hb1])
                · exact hav.1.2 (HA.out.2.2.2.1 hb1)
              subst hbo
              have hMm : (M.put ob c).m = (m : Int) := by
                unfold Mgr.put
                split <;> exact HA.out.2.1.mm
              have H4 := Lib.hid (And.intro hm4 (And.intro (HA.out.2.1.row.chg hc4 (by unfold Om; omega) (by unfold Om; omega)) (And.intro (HA.out.2.2.1.chg hc4 (by unfold Om; omega)) (And.intro (HA.out.2.1.st.chg hc4 (by unfold Om; omega)) (And.intro hav.2 (And.intro hMm (And.intro hct Ht.out)))))))
              clear hm4 hav hMm hct hch hc4 hob HA
              have hbb : ((!ob) == ob) = false := by cases ob <;> rfl
              generalize hoo : (!ob) = oo at H4 hbb ⊢
              obtain ⟨i0, hi0, hz0, hz1, hz2⟩ := info_parts info35
              clear HS
              go_wp2_with (first | (at_builtin; refine wpList_append_reads (by rfl) _ _ 29 (by rfl) 0 35 i0 _ 3 40 Try.underlying29 hi0 hz0 hz1 hz2 rfl (by omega) (.slice Al j cal) j (avs al) (by rfl) ?c0 (some ⟨w4.heap.size, 0, none⟩) 1 1 [.int .i64 (1000 + (j : Int)), .slice As ln cs, .bool oo] (by rfl) rfl ?c2 (by intro u hu; simp at hu; rcases hu with rfl | rfl | rfl <;> rfl) ?c4 ?c5 (Nat.zero_le _) ?_) | fail)
              case c0 => exact own_below H4.out.2.1.row.1 ((Below.refl _ _).alloc (Nat.le_refl _) _)
              case c2 => exact reads_new2 w4 #[.int .i64 (1000 + (j : Int)), .slice As ln cs, .bool oo] 35
              case c4 => unfold maxLen; omega
              case c5 => omega
              intro v' w9 ho9 hg9 hat9
              have hba := (Below.refl w4.heap.size w4).alloc (Nat.le_refl _) (.cells #[.int .i64 (1000 + (j : Int)), .slice As ln cs, .bool oo] 35)
              have hR := (H4.out.2.1.below hba).add (⟨1000 + (j : Int), .slice As ln cs, ln, L, oo⟩ : Ak) (H4.out.2.2.1.below hba) HLn.out.1 hln2 HLn.out.2 ho9 hg9 (by simpa using hat9)
              have H9 := Lib.hid (And.intro (show Wm w w9 _ g m (j + 1) (al ++ [(⟨1000 + (j : Int), .slice As ln cs, ln, L, oo⟩ : Ak)]) (M.put ob c) v' from ⟨hR.1, (H4.out.1.below hba).chg hR.2 (by unfold Om; omega), H4.out.2.2.2.2.2.1, (H4.out.2.2.2.1.below hba).chg hR.2 (by omega), H4.out.2.2.2.2.1.1, H4.out.2.2.2.2.1.2⟩) H4.out.2.2.2.2.2.2.2)
              clear hR hba ho9 hg9 hat9 H4 hi0 hz0 hz1 hz2
              go_wp2_with fail
              go_roundw
              case rel => exact ⟨j + 1, _, _, _, by omega, by omega, by go_num, fun a ha => by
                rcases List.mem_append.1 ha with ha | ha
                · have := H9.out.2 a ha
                  omega
                · simp at ha
                  subst ha
                  show 1000 + (j : Int) < _
                  omega, H9.out.1⟩
              case measure => simp [intOf]; omega
    · have H5 := Lib.hid HW.out.1
      clear HW
      go_upto_region 11 with fail
      go_cut [60] (fun z w' => z = .bool false ∧ w' = wa)
      case first =>
        by_cases hk1 : (k : Int) < (n1 : Int)
        · have hk2 : ¬ (k : Int) < 20 := by omega
          go_wp2_with fail
          go_meet
          case rel => exact ⟨rfl, rfl⟩
        · go_wp2_with fail
          go_meet
          case rel => exact ⟨rfl, rfl⟩
      case rest =>
        rename World => wb
        obtain ⟨rfl, rfl⟩ := hcut
        clear y1 y2 y3 z1 z2 z3 z2' z3' H0 hk
        go_wp2_with fail
        go_loopw [11, 20] (fun vl vt wr => ∃ (t n : Nat) (al : List Ak) (M : Mgr) (σ : Nat → Nat), vt = .int .i64 t ∧ t + n ≤ 20 ∧ Wm w wr σ g m n al M vl) (fun _ vt _ => 20 - (intOf vt).toNat)
        case atStart => exact ⟨0, k, al, M, σ, rfl, by omega, H5.out⟩
        case round =>
          rename World => wc
          clear H5
          obtain ⟨t, n, al, M, σ, rfl, htn, hW⟩ := hrel
          obtain ⟨Al, cal, rfl⟩ := hW.row.row.slice
          have HW := Lib.hid hW
          clear hW
          by_cases hn0 : n = 0
          · subst hn0
            have hq0 : M.queue.length = 0 := by
              have := HW.out.inv.len
              have := HW.out.row.len
              omega
            go_wp2_with fail
            refine (queue_c wc σ 1000 g M HW.out.mgr).mono ?_
            rintro e w5 ⟨v, rfl, ho, hb⟩
            rw [hq0] at ho
            obtain ⟨Av, cv, rfl⟩ := own_slice ho
            have hbw := (HW.out.st.below hb).bel
            clear ho hb
            go_wp2_with fail
            go_ret
            exact ⟨rfl, hbw⟩
          · have n0 : (0 : Int) < (n : Int) := by omega
            have t0 : (t : Int) < 50 := by omega
            have hall := HW.out.row.len
            obtain ⟨i0, hi0, hy0, hno⟩ := first_yes (HW.out.some_ (by intro e; rw [e] at hall; exact hn0 hall.symm))
            have HY := Lib.hid (And.intro hy0 hno)
            have hi0n : i0 < n := by omega
            clear hy0 hno
            go_wp2_with fail
            go_loopw [21] (fun vk wq => ∃ j : Nat, vk = .int .i64 j ∧ j ≤ i0 ∧ wq = wc) (fun vk _ => i0 - (intOf vk).toNat)
            case atStart => exact ⟨0, rfl, Nat.zero_le _, rfl⟩
            case round =>
              rename World => wq
              obtain ⟨j, rfl, hji, rfl⟩ := hrel
              have hjl : j < al.length := by omega
              obtain ⟨ga, rfl, hga, u0, u1, u2, Bv, cv, hv, hlk, hrw⟩ := HW.out.row.at_ j hjl
              have q0 : (0 : Int) ≤ (j : Int) := by omega
              have q1 : (j : Int) < (n : Int) := by omega
              clear u0 u1 hv hlk hrw
              by_cases hji0 : j = i0
              · subst hji0
                rw [HY.out.1] at u2
                have q2 : n ≤ 20 := by omega
                obtain ⟨B0, c0, hv0, hlk0, hrw0⟩ := (HW.out.row.at_ j hjl).choose_spec.2.2.2.2.2
                have hca : ∀ W, Below wq.heap.size wq W → W.cell? ⟨ga, j * 3, none⟩ = some (.int .i64 al[j].task) ∧ W.cell? ⟨ga, j * 3 + 1, none⟩ = some (.slice B0 al[j].n c0) := fun W hb => by
                  obtain ⟨g2, e, _, u0, u1, _⟩ := (HW.out.row.below hb).at_ j hjl
                  cases e
                  rw [hv0] at u1
                  exact ⟨u0, u1⟩
                obtain ⟨ip, hip, hpl, hke⟩ := HW.out.inv.at_ j hjl HY.out.1
                have hlow := HW.out.row.low al[j] (List.getElem_mem hjl)
                have hst := HW.out.row.sets al[j] (List.getElem_mem hjl)
                have hheld : held (M.has[ip]).set M.m.toNat = al[j].L := held_eq _ _ (HW.out.inv.rise al[j] (List.getElem_mem hjl)) (fun x => congrFun (congrArg Prod.snd hke) x) (fun p hp => (hlow p hp).1) M.m (fun p hp => by rw [HW.out.mm]; exact (hlow p hp).2)
                have hlen17 : M.has.length + M.queue.length ≤ 100000 := by
                  have := HW.out.inv.len
                  omega
                have HC17 : Hid (∀ W, Below wq.heap.size wq W → Calls Try.prog 17 #[.pointer (some ⟨g, 0, none⟩), .int .i64 al[j].task] W fun e w' => ∃ v, e = .returned v ∧ w'.ownsRow W.heap.size 32 2 v al[j].n (lks al[j].L) ∧ Below wq.heap.size wq w') := Lib.hid (fun W hb => by
                  refine (has_c W σ 1000 g M (HW.out.mgr.below hb) al[j].task ip hip hpl).mono ?_
                  rintro e w' ⟨v, he, ho, h'⟩
                  rw [hheld, hst.2.1] at ho
                  exact ⟨v, he, ho, Below.then_ hb hb.size h'⟩)
                have HC16 : Hid (∀ W v B, Below wq.heap.size wq W → W.ownsRow B 32 2 v al[j].n (lks al[j].L) → Calls Try.prog 16 #[v, .slice B0 al[j].n c0] W fun e w' => e = .returned (.bool true) ∧ Below wq.heap.size wq w') := Lib.hid (fun W v B hb ho => by
                  refine (same_locks W B 0 v (.slice B0 al[j].n c0) al[j].L al[j].n hst.2.1 (by omega) ho (hrw0.below hb).1).mono ?_
                  rintro e w' ⟨he, h'⟩
                  exact ⟨he, Below.then_ hb hb.size h'⟩)
                have HC18 : Hid (∀ W, Below wq.heap.size wq W → Calls Try.prog 18 #[.pointer (some ⟨g, 0, none⟩), .int .i64 al[j].task] W fun e w' => ∃ v, e = .returned (.tuple #[v, .nilIface]) ∧ ∃ σ', MgrAt w' σ' 1000 g (M.delHas ip).pass ∧ Row w' σ' 8 3 1 v (M.delHas ip).thr.out.length (tasks (M.delHas ip).thr.out) ∧ Chg (Om 1000) σ wq σ' w') := Lib.hid (fun W hb => by
                  refine (free_yes W σ 1000 g 8 (.inl (by omega)) M (HW.out.mgr.below hb) hlen17 al[j].task ip hip hpl).mono ?_
                  rintro e w' ⟨v, he, σ', h1, h2, h3⟩
                  exact ⟨v, he, σ', h1, h2, (Chg.of_below (Om 1000) σ hb).trans h3⟩)
                have HP := Lib.hid (And.intro (HW.out.inv.del j hjl HY.out.1 ip hip hke) hca)
                have HDR : Hid (Below wq.heap.size wq wq.drew) := Lib.hid (Below.refl _ _).drew
                clear hca hst hlow hheld hlen17 hke hpl hv0 hlk0 hrw0
                generalize al[j].task = tk at HC17 HC18 HP
                go_upto_region 36 with fail
                clear u2
                go_cut [171] (fun z w' => z = .bool false ∧ Below wq.heap.size wq w')
                case first =>
                  obtain ⟨s1, s2⟩ := HP.out.2 wq.drew HDR.out
                  go_region_held3 (fun W => W.cell? ⟨ga, j * 3, none⟩ = some (.int .i64 tk) ∧ W.cell? ⟨ga, j * 3 + 1, none⟩ = some (.slice B0 al[j].n c0)) (first | exact HP.out.2 _ (by first | assumption | exact HDR.out) | fail)
                    ((first | (go_at_call 17; refine (HC17.out _ (by first | assumption | exact HDR.out)).mono ?_; rintro e w5 ⟨v5, rfl, ho5, hb5⟩) | (go_at_call 16; refine (HC16.out _ _ _ (by first | assumption | exact HDR.out) (by assumption)).mono ?_; rintro e w6 ⟨rfl, hb6⟩) | fail))
                  go_wp2_with fail
                  go_meet
                  case rel => exact ⟨by simp, by assumption⟩
                case rest =>
                  rename World => wd
                  obtain ⟨rfl, hbd⟩ := hcut
                  obtain ⟨s1, s2⟩ := HP.out.2 wd hbd
                  have HBD := Lib.hid hbd
                  clear hbd HC17 HC16 s2
                  go_wp2_with fail
                  refine (HC18.out _ HBD.out).mono ?_
                  rintro e w5 ⟨vt, rfl, σ5, hm5, hr5, hc5⟩
                  obtain ⟨MD, hMD⟩ : ∃ M2, M.delHas ip = M2 := ⟨_, rfl⟩
                  have hinv5 := HP.out.1
                  rw [hMD] at hm5 hr5 hinv5
                  have hmm5 : MD.pass.m = (m : Int) := by rw [← hMD]; exact HW.out.mm
                  have H5 := Lib.hid (And.intro hm5 (And.intro hr5 (And.intro (HW.out.row.chg hc5 (by unfold Om; omega) (by unfold Om; omega)) (And.intro (HW.out.st.chg hc5 (by unfold Om; omega)) (And.intro hinv5 hmm5)))))
                  clear hm5 hr5 hc5 hinv5 hmm5 hMD s1 HC18 HP HDR HBD
                  have hwo := without_c w5 0 ga n cal al H5.out.2.2.1.len (by omega) H5.out.2.2.1.row.1 H5.out.2.2.1.one j (by omega)
                  go_wp2_with fail
                  refine hwo.mono ?_
                  rintro e w6 ⟨v6, rfl, ho6, hb6⟩
                  have hR6 := H5.out.2.2.1.del j (by omega) hb6 ho6
                  have H6 := Lib.hid (And.intro ((H5.out.1.chg ((Chg.refl (fun _ => False) σ5 w5).upd (Nat.le_refl _) 5) (fun _ _ h => h)).below hb6) (And.intro ((H5.out.2.1.upd (Nat.le_refl _) 5).below hb6) (And.intro hR6 (And.intro ((H5.out.2.2.2.1.upd H5.out.2.2.2.1.size 5).below hb6) (And.intro H5.out.2.2.2.2.1.start H5.out.2.2.2.2.2)))))
                  clear hR6 hb6 ho6 hwo H5
                  generalize K.upd σ5 w5.heap.size 5 = σ6 at H6
                  generalize hd1 : al.eraseIdx j = ad at H6
                  generalize hd2 : n - 1 = nd at H6
                  obtain ⟨A6, cap6, rfl⟩ := H6.out.2.2.1.row.slice
                  have hnd : t + 1 + nd ≤ 20 := by omega
                  obtain ⟨Pt, ct, rfl⟩ := H6.out.2.1.slice
                  generalize hno : MD.thr.out.length = no at H6
                  have HNO := Lib.hid hno
                  clear hd1 hd2 hno HW HY hall hi0 hi0n hjl hga hn0 hji
                  obtain ⟨i3, hi3, hy0, hy1, hy2⟩ := info_parts2 info3p
                  have HI3 := Lib.hid (And.intro hi3 (And.intro hy0 (And.intro hy1 hy2)))
                  clear hi3 hy0 hy1 hy2
                  have hnd2 : nd ≤ 20 := by omega
                  have Hmm := Lib.hid H6.out.2.2.2.2.2
                  go_wp2_with fail
                  go_loopw [24, 25] (fun vw vi wr => ∃ (i q : Nat) (al2 : List Ak) (σ : Nat → Nat), vi = .int .i64 i ∧ i ≤ nd ∧ Rw wr σ nd al2 (.slice A6 nd cap6) m ∧ MgrAt wr σ 1000 g MD.pass ∧ St w σ wr ∧ PInv MD al2 i q ∧ q ≤ MD.queue.length ∧ (MD.run q).out.length ≤ i ∧ Row wr σ 8 3 1 (.slice Pt no ct) no (tasks MD.thr.out) ∧ Row wr σ 9 3 1 vw (MD.run q).out.length (tasks (MD.run q).out)) (fun _ vi _ => nd - (intOf vi).toNat)
                  case atStart => exact ⟨0, 0, ad, σ6, rfl, Nat.zero_le _, H6.out.2.2.1, H6.out.1, H6.out.2.2.2.1, H6.out.2.2.2.2.1, Nat.zero_le _, Nat.le_refl _, H6.out.2.1, Row.nil _ _ _ _ _⟩
                  case round =>
                    rename World => wf
                    obtain ⟨i, q, al2, σ7, rfl, hind, hR, hM7, hS7, hP7, hq7, hol, hT7, hW7⟩ := hrel
                    obtain ⟨qn, hqn⟩ : ∃ x, (MD.run q).out.length = x := ⟨_, rfl⟩
                    rw [hqn] at hW7 hol
                    obtain ⟨Aw, cw, rfl⟩ := hW7.slice
                    have hqn20 : qn ≤ 20 := by omega
                    have H7 := Lib.hid (And.intro hR (And.intro hM7 (And.intro hS7 (And.intro hP7 (And.intro hq7 (And.intro hT7 (And.intro hW7 hol)))))))
                    have hlen2 := hR.len
                    clear hR hM7 hS7 hP7 hq7 hT7 hW7 hol H6
                    by_cases hin : i < nd
                    · have i0' : (i : Int) < (nd : Int) := by omega
                      have i1' : (0 : Int) ≤ (i : Int) := by omega
                      have hil : i < al2.length := by omega
                      obtain ⟨gb, rfl, hgb, u0, u1, u2, Bv, cv, hv, hlk, hrw⟩ := H7.out.1.at_ i hil
                      clear u0 u1 hv hlk hrw
                      rcases hyy : al2[i].yes with _ | _
                      · rw [hyy] at u2
                        obtain ⟨hql, hqk⟩ := H7.out.2.2.2.1.no hil hyy
                        have HK := Lib.hid (And.intro hqk (And.intro hyy (H7.out.2.2.2.1.stops hil hyy hql hqk)))
                        clear hyy hqk
                        go_wp2_with fail
                        go_loopw [26, 27] (fun vb vj wg => ∃ (j : Nat) (b : Bool), vj = .int .i64 j ∧ j ≤ nd ∧ vb = .bool b ∧ (b = true ↔ Stopped al2 i hil j) ∧ Below wf.heap.size wf wg) (fun _ vj _ => nd - (intOf vj).toNat)
                        case atStart => exact ⟨0, false, rfl, Nat.zero_le _, rfl, by simp [stopped_zero], Below.refl _ _⟩
                        case round =>
                          rename World => wg
                          obtain ⟨j, b, rfl, hjn, rfl, hbs, hbg⟩ := hrel
                          have HG := Lib.hid (And.intro hbs hbg)
                          clear hbs hbg
                          by_cases hjlt : j < nd
                          · have j0 : (j : Int) < (nd : Int) := by omega
                            have j1 : (0 : Int) ≤ (j : Int) := by omega
                            have hjl : j < al2.length := by omega
                            have HX := Lib.hid (stopped_succ (al := al2) (i := i) (hi := hil) j hjl)
                            rcases b with _ | _
                            · have hRg := H7.out.1.below HG.out.2
                              obtain ⟨g2, e2, _, y0, a1, y2, Bi, ci, hvi, hki, y3⟩ := hRg.at_ i hil
                              cases e2
                              obtain ⟨g3, e3, _, y4, b1, b2, Bj, cj, hvj, hkj, y5⟩ := hRg.at_ j hjl
                              cases e3
                              rw [hvi] at a1
                              rw [hvj] at b1
                              clear y0 y2 y3 y4 y5 hvi hvj
                              have si := H7.out.1.sets al2[i] (List.getElem_mem hil)
                              have sj := H7.out.1.sets al2[j] (List.getElem_mem hjl)
                              have ri := H7.out.2.2.2.1.rise al2[i] (List.getElem_mem hil)
                              have rj := H7.out.2.2.2.1.rise al2[j] (List.getElem_mem hjl)
                              obtain ⟨rb, hrb⟩ : ∃ b : Bool, b = true ↔ CL al2[j].L al2[i].L := by
                                rcases Classical.em (CL al2[j].L al2[i].L) with h | h
                                · exact ⟨true, by simp [h]⟩
                                · exact ⟨false, by simp [h]⟩
                              have HC14 : Hid (∀ z, Calls Try.prog 14 #[.slice Bj al2[j].n cj, .slice Bi al2[i].n ci] (wg.drewN z) fun e w' => e = .returned (.bool rb) ∧ ∃ m, w' = (wg.drewN z).drewN m) := Lib.hid (fun z =>
                                meets_q (wg.drewN z) Bj Bi al2[j].n al2[i].n cj ci al2[j].L al2[i].L sj.2.1 si.2.1 (by omega) (by omega) (hkj.below (below_drewN (Below.refl _ _) z)) (hki.below (below_drewN (Below.refl _ _) z)) rj ri rb hrb)
                              have HR := Lib.hid hrb
                              clear hki hkj si sj ri rj hrb hRg
                              generalize al2[i].n = ni at a1 HC14
                              generalize al2[j].n = nj at b1 HC14
                              obtain ⟨yj, hyj⟩ : ∃ y, al2[j].yes = y := ⟨_, rfl⟩
                              rw [hyj] at b2
                              have HYJ := Lib.hid hyj
                              clear hyj u2
                              by_cases hji : j = i
                              · subst hji
                                go_wp2_with fail
                                go_quiet (fail)
                                go_wp2_with fail
                                go_roundw
                                case rel => exact ⟨j + 1, false, by go_num, by omega, rfl, by
                                  rw [HX.out]
                                  constructor
                                  · intro h; cases h
                                  · rintro (h | h)
                                    · exact HG.out.1.2 h
                                    · exact absurd rfl h.1, below_drewN HG.out.2 _⟩
                                case measure => simp [intOf]; omega
                              · have e0 : ¬ (i : Int) = (j : Int) := by omega
                                have e0' : ((i : Int) != (j : Int)) = true := by simpa using e0
                                by_cases hor : yj = true ∨ j < i
                                · have hrel7 : (rb = true ↔ Stopped al2 i hil (j + 1)) := by
                                    rw [HX.out, HR.out, HYJ.out]
                                    constructor
                                    · intro h; exact .inr ⟨hji, hor, h⟩
                                    · rintro (h | h)
                                      · exact absurd (HG.out.1.2 h) (by simp)
                                      · exact h.2.2
                                  have HR7 := Lib.hid hrel7
                                  clear hrel7 HX
                                  rcases yj with _ | _
                                  · have hji2 : (j : Int) < (i : Int) := by have := hor.resolve_left (by simp); omega
                                    clear hor
                                    go_upto_region 51 with fail
                                    go_quiet ((go_at_call 14; exact Calls.quiet_of (HC14.out _)))
                                    go_wp2_with fail
                                    go_roundw
                                    case rel => exact ⟨j + 1, rb, by go_num, by omega, rfl, HR7.out, below_drewN HG.out.2 _⟩
                                    case measure => simp [intOf]; omega
                                  · clear hor
                                    go_upto_region 51 with fail
                                    go_quiet ((go_at_call 14; exact Calls.quiet_of (HC14.out _)))
                                    go_wp2_with fail
                                    go_roundw
                                    case rel => exact ⟨j + 1, rb, by go_num, by omega, rfl, HR7.out, below_drewN HG.out.2 _⟩
                                    case measure => simp [intOf]; omega
                                · have hyf : yj = false := by
                                    rcases yj with _ | _
                                    · rfl
                                    · exact absurd (.inl rfl) hor
                                  subst hyf
                                  have hji2 : ¬ (j : Int) < (i : Int) := by omega
                                  go_upto_region 51 with fail
                                  go_quiet (fail)
                                  go_wp2_with fail
                                  go_roundw
                                  case rel => exact ⟨j + 1, false, by go_num, by omega, rfl, by
                                    rw [HX.out, HYJ.out]
                                    constructor
                                    · intro h; cases h
                                    · rintro (h | h)
                                      · exact HG.out.1.2 h
                                      · exact absurd h.2.1 (by simp; omega), below_drewN HG.out.2 _⟩
                                  case measure => simp [intOf]; omega
                            · go_wp2_with fail
                              go_quiet (fail)
                              go_wp2_with fail
                              go_roundw
                              case rel => exact ⟨j + 1, true, by go_num, by omega, rfl, by
                                rw [HX.out]
                                exact ⟨fun _ => .inl (HG.out.1.1 (by first | rfl | trivial)), fun _ => by first | rfl | trivial⟩, below_drewN HG.out.2 _⟩
                              case measure => simp [intOf]; omega
                          · have j0 : ¬ (j : Int) < (nd : Int) := by omega
                            obtain rfl : j = nd := by omega
                            have hsto : b = true ↔ (MD.run q).stops MD.queue[q] = true := by
                              rw [HK.out.2.2, hlen2]
                              exact HG.out.1
                            have HSt := Lib.hid hsto
                            clear hsto
                            rcases b with _ | _
                            · have hgr := H7.out.2.2.2.1.grant hil HK.out.2.1 hql HK.out.1 (by
                                rcases h : (MD.run q).stops MD.queue[q] with _ | _
                                · rfl
                                · exact absurd (HSt.out.2 h) (by simp))
                              have htk : MD.queue[q].task = al2[i].task := congrArg Prod.fst HK.out.1
                              have hRg := H7.out.1.below HG.out.2
                              have hgc := hRg.grant i hil
                              have fz := hRg.frozen (i * 3 + 2)
                              have u3 : wg.cell? ⟨gb, i * 3 + 2, none⟩ = some (.bool false) := (HG.out.2.cell (p := ⟨gb, i * 3 + 2, none⟩) hgb).trans u2
                              have hu0 : (wg.setCell ⟨gb, i * 3 + 2, none⟩ (.bool true)).cell? ⟨gb, i * 3, none⟩ = some (.int .i64 al2[i].task) := by
                                obtain ⟨g2, e2, _, y0, _⟩ := hgc.1.at_ i (by simp [granted]; exact hil)
                                cases e2
                                rw [y0]
                                simp [granted]
                              have H8 := Lib.hid (And.intro hgr (And.intro hgc (And.intro ((H7.out.2.1.below HG.out.2).chg hgc.2 (by unfold Om; omega)) (And.intro ((H7.out.2.2.1.below HG.out.2).chg hgc.2 (by omega)) (And.intro ((H7.out.2.2.2.2.2.1.below HG.out.2).chg hgc.2 (by omega)) ((H7.out.2.2.2.2.2.2.1.below HG.out.2).chg hgc.2 (by omega)))))))
                              have Hu := Lib.hid (And.intro hu0 htk)
                              have Hq := Lib.hid (And.intro H7.out.2.2.2.2.1 (And.intro H7.out.2.2.2.2.2.2.2 hqn))
                              clear hgr hRg hgc hu0 htk HK HSt u2
                              go_upto_region 54 with fail
                              have d8 := Hu.out.1
                              clear u3 fz
                              generalize wg.setCell ⟨gb, i * 3 + 2, none⟩ (.bool true) = w8 at d8 H8 Hu ⊢
                              clear H7 HG
                              generalize al2[i].task = tki at d8 Hu
                              obtain ⟨hi3, hy0, hy1, hy2⟩ := HI3.out
                              go_wp2_with (first | (at_builtin; refine wpList_append_reads (by rfl) _ _ 23 (by rfl) 0 3 i3 _ 1 8 Try.underlying23 hi3 hy0 hy1 hy2 rfl (by omega) (.slice Aw qn cw) qn (tasks (MD.run q).out) (by rfl) ?c0 (some ⟨w8.heap.size, 0, none⟩) 1 1 [.int .i64 tki] (by rfl) rfl ?c2 (by intro u hu; simp at hu; subst hu; rfl) ?c4 ?c5 (Nat.zero_le _) ?_) | fail)
                              case c0 => exact own_below H8.out.2.2.2.2.2.1 ((Below.refl _ _).alloc (Nat.le_refl _) _)
                              case c2 => exact reads_new2 w8 #[.int .i64 tki] 3
                              case c4 => unfold maxLen; omega
                              case c5 => omega
                              intro v' w9 ho9 hg9 hat9
                              have hba := (Below.refl w8.heap.size w8).alloc (Nat.le_refl _) (.cells #[.int .i64 tki] 3)
                              have hat9' : v'.ownBlock = (Value.slice Aw qn cw).ownBlock ∨ v'.ownBlock = some (w8.alloc (.cells #[.int .i64 tki] 3)).heap.size := by simpa using hat9
                              have hrw := H8.out.2.2.2.2.2.below hba
                              have cg := row_chgd hrw hg9
                              have hrn := row_new hrw ho9 hat9'
                              have hout : tasks (MD.run q).out ++ [.int .i64 tki] = tasks (MD.run (q + 1)).out := by
                                rw [H8.out.1.2, tasks_append, ← Hu.out.2]
                                rfl
                              rw [hout] at hrn
                              have hol9 : (MD.run (q + 1)).out.length = qn + 1 := by rw [H8.out.1.2, List.length_append, Hq.out.2.2]; rfl
                              have H9 := Lib.hid (And.intro ((H8.out.2.1.1.below hba).chg cg (by omega) (by omega)) (And.intro ((H8.out.2.2.1.below hba).chg cg (by unfold Om; omega)) (And.intro ((H8.out.2.2.2.1.below hba).chg cg (by omega)) (And.intro ((H8.out.2.2.2.2.1.below hba).chg cg (by omega)) hrn))))
                              have HP9 := Lib.hid H8.out.1.1
                              clear hrw cg hrn hout hba hat9 hat9' ho9 hg9 H8 Hu d8 hi3 hy0 hy1 hy2
                              go_wp2_with fail
                              go_roundw
                              case rel => exact ⟨i + 1, q + 1, granted al2 i hil, _, by go_num, by omega, H9.out.1, H9.out.2.1, H9.out.2.2.1, HP9.out, by omega, by have := Hq.out.2.1; omega, H9.out.2.2.2.1, by rw [hol9]; exact H9.out.2.2.2.2⟩
                              case measure => simp [intOf]; omega
                            · have hst9 := H7.out.2.2.2.1.stay hil HK.out.2.1 hql HK.out.1 (HSt.out.1 rfl)
                              have H9 := Lib.hid hst9
                              clear hst9
                              go_wp2_with fail
                              go_roundw
                              case rel => exact ⟨i + 1, q + 1, al2, σ7, by go_num, by omega, H7.out.1.below HG.out.2, H7.out.2.1.below HG.out.2, H7.out.2.2.1.below HG.out.2, H9.out.1, by omega, by rw [H9.out.2, hqn]; have := H7.out.2.2.2.2.2.2.2; omega, H7.out.2.2.2.2.2.1.below HG.out.2, by rw [H9.out.2, hqn]; exact H7.out.2.2.2.2.2.2.1.below HG.out.2⟩
                              case measure => simp [intOf]; omega
                      · rw [hyy] at u2
                        go_wp2_with fail
                        go_roundw
                        case rel => exact ⟨i + 1, q, al2, σ7, by go_num, by omega, H7.out.1, H7.out.2.1, H7.out.2.2.1, H7.out.2.2.2.1.yes hil hyy, H7.out.2.2.2.2.1, by have := H7.out.2.2.2.2.2.2.2; omega, H7.out.2.2.2.2.2.1, by rw [hqn]; exact H7.out.2.2.2.2.2.2.1⟩
                        case measure => simp [intOf]; omega
                    · have i0' : ¬ (i : Int) < (nd : Int) := by omega
                      obtain rfl : i = nd := by omega
                      have hd := H7.out.2.2.2.1
                      rw [show (i : Nat) = al2.length from hlen2.symm] at hd
                      obtain ⟨hqe, hWI, hSO⟩ := hd.done H7.out.2.2.2.2.1
                      subst hqe
                      have hno2 : no = qn := by rw [← HNO.out, ← hqn]; rfl
                      subst hno2
                      have hsi := same_ints wf 0 0 (.slice Pt no ct) (.slice Aw no cw) (MD.thr.out.map (·.task)) no (by rw [List.length_map]; exact HNO.out) (by omega) (by rw [← tasks_ints]; exact H7.out.2.2.2.2.2.1.1) (by rw [← tasks_ints]; exact H7.out.2.2.2.2.2.2.1.1)
                      have HSI := Lib.hid (And.intro hsi (show Wm w wf σ7 g m i al2 MD.pass (.slice A6 i cap6) from ⟨H7.out.1, H7.out.2.1, Hmm.out, H7.out.2.2.1, hWI, hSO⟩))
                      clear hsi hWI hSO hd H7 hqn HNO
                      go_wp2_with fail
                      refine HSI.out.1.mono ?_
                      rintro e wk ⟨rfl, hbk⟩
                      have HF := Lib.hid (HSI.out.2.below hbk)
                      clear hbk HSI
                      go_wp2_with fail
                      go_roundw
                      case rel => exact ⟨t + 1, i, al2, MD.pass, σ7, by go_num, by omega, HF.out⟩
                      case measure => simp [intOf]; omega
              · have hnj := HY.out.2 j hjl (by omega)
                rw [hnj] at u2
                have q2 : ¬ ((j : Int) + 1 = (n : Int)) := by omega
                go_wp2_with fail
                go_roundw
                case rel => exact ⟨j + 1, by go_num, by omega, by first | rfl | trivial⟩
                case measure => simp [intOf]; omega
end Go.Proofs.Ytgcnappgecdldaa.C
