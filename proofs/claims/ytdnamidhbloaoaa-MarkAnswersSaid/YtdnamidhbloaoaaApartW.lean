/-
  Are the answers apart: the call of 'apart'.
-/
import Derived.Test.YtdnamidhbloaoaaOpens
import Derived.Test.YtdnamidhbloaoaaApart
set_option linter.unusedVariables false
set_option linter.unusedSimpArgs false
namespace Go.Proofs.Ytdnamidhbloaoaa.Mark
open Go.RowKit Go.Proofs.Ytdnamidhbloaoaa.K
attribute [local go_sem ↓] Go.wp_at_zero Go.wp_at_succ

theorem info47' : (Try.prog.info? 47).map (fun i => (i.zero, i.size, i.bytes)) = some (some (.slice none 0 0), 1, 24) := by kernel_rfl
theorem set_of_get' {α : Type} (l : List α) (x : Nat) (a : α) (h : l[x]? = some a) : l.set x a = l := by
  obtain ⟨hl, rfl⟩ := List.getElem?_eq_some_iff.1 h
  exact List.set_getElem_self hl
theorem grown_set1' (w : World) (g i : Nat) (a : Value) : w.grownBy (w.setCell ⟨g, i, none⟩ a) (some g) := by
  refine ⟨rfl, rfl, rfl, by simp [World.setCell], fun q hq hne => ?_⟩
  exact Below.heap_setCell _ _ _ _ (fun e => hne (by rw [e]))
theorem grown_set3' (w : World) (g i j k : Nat) (a b c : Value) : w.grownBy (((w.setCell ⟨g, i, none⟩ a).setCell ⟨g, j, none⟩ b).setCell ⟨g, k, none⟩ c) (some g) := by
  refine ⟨rfl, rfl, rfl, by simp [World.setCell], fun q hq hne => ?_⟩
  have : q ≠ g := fun e => hne (by rw [e])
  rw [Below.heap_setCell _ _ _ _ this, Below.heap_setCell _ _ _ _ this, Below.heap_setCell _ _ _ _ this]

/-- What a row tells, beside its value. -/
def tells (p : TRow) : Nat × List Value := (p.n, p.xs)
def telling (L : List (Nat × Int)) : Nat × List Value := (L.length, cellVs L)
theorem telling_at {rs : List TRow} {Ls : List (List (Nat × Int))} (h : rs.map tells = Ls.map telling) {j : Nat} {p : TRow} (hp : rs[j]? = some p) : ∃ L, Ls[j]? = some L ∧ p.n = L.length ∧ p.xs = cellVs L := by
  have := congrArg (fun l => l[j]?) h
  simp only [List.getElem?_map, hp, Option.map_some] at this
  rcases hL : Ls[j]? with _ | L
  · rw [hL] at this; cases this
  · rw [hL] at this
    simp only [Option.map_some, Option.some.injEq, tells, telling, Prod.mk.injEq] at this
    exact ⟨L, rfl, this.1, this.2⟩
theorem cellVs_at3 (L : List (Nat × Int)) (y : Nat) (h : y < L.length) : ∃ a b : Int, (cellVs L)[y * 3]? = some (.int .i64 a) ∧ (cellVs L)[y * 3 + 1]? = some (.string ⟨#[]⟩) ∧ (cellVs L)[y * 3 + 2]? = some (.int .i64 b) := by
  induction L generalizing y with
  | nil => simp at h
  | cons c L ih =>
    have e : cellVs (c :: L) = .int .i64 c.1 :: .string ⟨#[]⟩ :: .int .i64 c.2 :: cellVs L := rfl
    rw [e]
    cases y with
    | zero => exact ⟨c.1, c.2, rfl, rfl, rfl⟩
    | succ y =>
      obtain ⟨a, b, h1, h2, h3⟩ := ih y (by simpa using h)
      refine ⟨a, b, ?_, ?_, ?_⟩
      · rw [show (y + 1) * 3 = y * 3 + 1 + 1 + 1 by omega]; exact h1
      · rw [show (y + 1) * 3 + 1 = (y * 3 + 1) + 1 + 1 + 1 by omega]; exact h2
      · rw [show (y + 1) * 3 + 2 = (y * 3 + 2) + 1 + 1 + 1 by omega]; exact h3

/-- Row i written over up to y. -/
def marked2 (i y : Nat) : List Value := (List.range y).flatMap fun j : Nat => [.int .i64 (100 + (i : Int)), .string ⟨#[]⟩, .int .i64 (j : Int)]
theorem marked2_succ (i y : Nat) : marked2 i (y + 1) = marked2 i y ++ [.int .i64 (100 + (i : Int)), .string ⟨#[]⟩, .int .i64 y] := by
  unfold marked2
  rw [List.range_succ, List.flatMap_append]
  simp
theorem marked2_length (i y : Nat) : (marked2 i y).length = 3 * y := by
  induction y with
  | zero => rfl
  | succ y ih => rw [marked2_succ, List.length_append, ih]; simp; omega
theorem marked2_set (i y n : Nat) (xs : List Value) (hx : xs.length = n * 3) (hy : y < n) :
    ((((marked2 i y ++ xs.drop (y * 3)).set (y * 3) (.int .i64 (100 + (i : Int)))).set (y * 3 + 1) (.string ⟨#[]⟩)).set (y * 3 + 2) (.int .i64 y)) = marked2 i (y + 1) ++ xs.drop ((y + 1) * 3) := by
  have hl := marked2_length i y
  obtain ⟨a, b, c, tl, htl⟩ : ∃ a b c tl, xs.drop (y * 3) = a :: b :: c :: tl := by
    rcases h : xs.drop (y * 3) with _ | ⟨a, _ | ⟨b, _ | ⟨c, tl⟩⟩⟩
    · have := congrArg List.length h; simp at this; omega
    · have := congrArg List.length h; simp at this; omega
    · have := congrArg List.length h; simp at this; omega
    · exact ⟨a, b, c, tl, rfl⟩
  have h3 : xs.drop ((y + 1) * 3) = tl := by
    rw [show (y + 1) * 3 = y * 3 + 3 by omega, ← List.drop_drop, htl]; rfl
  rw [h3, htl, marked2_succ, List.append_assoc]
  rw [List.set_append_right _ _ (by omega), List.set_append_right _ _ (by omega), List.set_append_right _ _ (by omega), hl, show y * 3 - 3 * y = 0 by omega, show y * 3 + 1 - 3 * y = 1 by omega, show y * 3 + 2 - 3 * y = 2 by omega]
  rfl
theorem marked2_at (i n y : Nat) (h : y < n) :
    (marked2 i n)[y * 3]? = some (.int .i64 (100 + (i : Int))) ∧ (marked2 i n)[y * 3 + 1]? = some (.string ⟨#[]⟩) ∧ (marked2 i n)[y * 3 + 2]? = some (.int .i64 y) := by
  induction n with
  | zero => omega
  | succ n ih =>
    rw [marked2_succ]
    have hl := marked2_length i n
    by_cases h1 : y < n
    · obtain ⟨h1, h2, h3⟩ := ih h1
      rw [List.getElem?_append_left (by omega), List.getElem?_append_left (by omega), List.getElem?_append_left (by omega)]
      exact ⟨h1, h2, h3⟩
    · obtain rfl : y = n := by omega
      rw [List.getElem?_append_right (by omega), List.getElem?_append_right (by omega), List.getElem?_append_right (by omega), hl, show y * 3 - 3 * y = 0 by omega, show y * 3 + 1 - 3 * y = 1 by omega, show y * 3 + 2 - 3 * y = 2 by omega]
      exact ⟨rfl, rfl, rfl⟩
/-- What is laid behind row j. -/
def grew (j : Nat) : List Value := [.int .i64 (100 + (j : Int)), .string ⟨#[]⟩, .int .i64 (-1), .int .i64 (100 + (j : Int)), .string ⟨#[]⟩, .int .i64 (-2)]

set_option maxRecDepth 100000 in
set_option maxHeartbeats 3200000 in
theorem apart_c (w : World) (B : Nat) (hB : B ≤ w.heap.size) (ks ws : List TRow) (Ls : List (List (Nat × Int))) (m : Nat) (hm : ks.length = m) (hwm : ws.length = m) (hm60 : m ≤ 60) (hks : ks.map tells = Ls.map telling) (hws : ws.map tells = Ls.map telling) (hn64 : ∀ L ∈ Ls, L.length ≤ 1000)
    (Ak : Option Addr) (ck : Nat) (Aw : Option Addr) (cw : Nat) (hku : w.ownsRow B 47 1 (.slice Ak m ck) m (ks.map TRow.v)) (hwu : w.ownsRow B 47 1 (.slice Aw m cw) m (ws.map TRow.v)) (hT : TRows w B 63 3 (ks ++ ws)) :
    Calls Try.prog 31 #[.slice Ak m ck, .slice Aw m cw] w fun e w' => e = .returned (.bool true) ∧ Below B w w' ∧ w'.ownsRow B 47 1 (.slice Aw m cw) m (ws.map TRow.v) ∧ TRows w' B 63 3 ws := by
  obtain ⟨i0, hi, hz0, hz1, hz2⟩ := info_parts info47'
  obtain ⟨i1, hi1, hy0, hy1, hy2⟩ := info_parts info63
  have hmk := run_make_rowN (P := Try.prog) 59 47 i0 _ Try.underlying59 hi hz0 .i64 .i64 m m (Nat.le_refl _) (by rw [hz2]; omega) (by omega) w
  rw [hz1, Nat.mul_one] at hmk
  have hnb := Blk.new w 47 (madeCells (Value.slice none 0 0).cells m)
  have hms : madeCells (Value.slice none 0 0).cells m = (List.replicate m (Value.slice none 0 0)).toArray := by
    apply Array.ext_getElem?
    intro i
    by_cases hi : i < m
    · rw [show madeCells (Value.slice none 0 0).cells m = madeCells #[Value.slice none 0 0] m from rfl]
      simp [madeCells, hi, Nat.mod_one]
    · rw [Array.getElem?_eq_none (by rw [show madeCells (Value.slice none 0 0).cells m = madeCells #[Value.slice none 0 0] m from rfl, size_madeCells]; omega), Array.getElem?_eq_none (by simp; omega)]
  rw [hms] at hmk hnb
  have HK0 := Lib.hid (And.intro (fun e => absurd (hku.lt w.heap.size e).2 (by omega)) (fun e => absurd (hwu.lt w.heap.size e).2 (by omega)) : Value.ownBlock (.slice Ak m ck) ≠ some w.heap.size ∧ Value.ownBlock (.slice Aw m cw) ≠ some w.heap.size)
  go_enter Try.func31, Try.ntmps31
  go_wp2_with fail
  go_loopw [6] (fun i wr => ∃ (x : Nat) (ms : List Value), x ≤ m ∧ i = .int .i64 x ∧ ms.length = x ∧ Blk wr w.heap.size 47 (ms ++ List.replicate (m - x) (Value.slice none 0 0)).toArray ∧
    wr.ownsRow B 47 1 (.slice Ak m ck) m (ks.map TRow.v) ∧ wr.ownsRow B 47 1 (.slice Aw m cw) m (ws.map TRow.v) ∧ TRows wr B 63 3 (ks ++ ws) ∧ MRows wr B 63 3 2 (ks ++ ws) grew ms ∧ Below B w wr ∧ w.heap.size ≤ wr.heap.size) (fun i _ => m - (intOf i).toNat)
  case atStart =>
    have hba : Below w.heap.size w (w.alloc (.cells (List.replicate m (Value.slice none 0 0)).toArray 47)) := (Below.refl _ _).alloc (Nat.le_refl _) _
    refine ⟨0, [], Nat.zero_le _, rfl, rfl, by simpa using hnb, ?_, ?_, ?_, MRows.nil _ _ _ _ _ _ _, ?_, by simp⟩
    · have := own_below hku hba; simpa using this
    · have := own_below hwu hba; simpa using this
    · have := hT.below hba; simpa using this
    · have := (Below.refl B w).alloc hB (.cells (List.replicate m (Value.slice none 0 0)).toArray 47); simpa using this
  case round =>
    clear hku hwu hT hmk hnb
    obtain ⟨x, ms, hx, rfl, hml, hbm, hku, hwu, hT, hM, hbel, hsz⟩ := hrel
    by_cases hxm : x < m
    · obtain ⟨gu, cu', e, hgu, hgl⟩ := own_form hku (by omega)
      cases e
      obtain ⟨p, hp⟩ : ∃ p, ks[x]? = some p := ⟨_, List.getElem?_eq_getElem (by omega)⟩
      have hpo := hT.own p (List.mem_append_left _ (List.mem_of_getElem? hp))
      have hpv : (ks.map TRow.v)[x]? = some p.v := by rw [List.getElem?_map, hp]; rfl
      obtain ⟨L, hL, hpn, hpx⟩ := telling_at hks hp
      have hL64 := hn64 L (List.mem_of_getElem? hL)
      obtain ⟨pv, pn, pxs⟩ := p
      simp only at hpo hpv hpn hpx
      obtain ⟨Ap, cp, rfl⟩ := own_slice hpo
      have cx : wr.cell? ⟨gu, x, none⟩ = some (.slice Ap pn cp) := by
        have := hku.cells (g := gu) rfl x _ hpv
        rwa [add_plain, Nat.zero_add] at this
      have hx0 : (0 : Int) ≤ (x : Int) := by omega
      have hx1 : (x : Int) < (m : Int) := by omega
      have HH := Lib.hid (And.intro hbm (And.intro hku (And.intro hwu (And.intro hT hM))))
      have HP := Lib.hid (And.intro hp (And.intro hpo (And.intro hpn (And.intro hpx hml))))
      have HK := Lib.hid (And.intro hks (And.intro hws (And.intro hn64 (And.intro hm hwm))))
      clear hbm hku hwu hT hM hp hpo hpn hpx hks hws hn64 hpv hL hm hwm hml hms
      go_wp2_with (at_builtin; refine wpList_append_keeps2 (by rfl) _ _ 47 (by rfl) B 63 i1 _ 3 32 Try.underlying47 hi1 hy0 hy1 hy2 rfl (by omega) (.slice Ap pn cp) pn pxs (by rfl) ?c0 ⟨wr.heap.size, 0, none⟩ 2 2 (grew x) (by rfl) rfl ?c2 ?c3 ?c4 ?c5 ?c6 ?_)
      case c0 => exact own_below HP.out.2.1 ((Below.refl _ _).alloc (Nat.le_refl _) _)
      case c2 =>
        intro j u hu
        rw [add_plain, Nat.zero_add, World.cell?_alloc_new]
        simpa [grew] using hu
      case c3 =>
        intro u hu
        simp [grew] at hu
        rcases hu with rfl | rfl | rfl | rfl | rfl | rfl <;> rfl
      case c4 => have := HP.out.2.2.1; unfold maxLen; omega
      case c5 => have := HP.out.2.2.1; omega
      case c6 => simp; omega
      intro v' w3 hnew hold hgrow hat
      obtain ⟨A', c', rfl⟩ := own_slice hnew
      have hba : Below wr.heap.size wr (wr.alloc (.cells #[.int .i64 (100 + (x : Int)), .string ⟨#[]⟩, .int .i64 (-1), .int .i64 (100 + (x : Int)), .string ⟨#[]⟩, .int .i64 (-2)] 63)) := (Below.refl _ _).alloc (Nat.le_refl _) _
      have hbm3 : Blk w3 w.heap.size 47 (ms ++ List.replicate (m - x) (Value.slice none 0 0)).toArray := (hgrow.block w.heap.size (HH.out.1.below' hba).lt (by
        rcases own_ne_blk HP.out.2.1 HH.out.1 (by decide) with h0 | h0
        · rw [h0]; simp
        · exact fun e => h0 e.symm)).trans (HH.out.1.below' hba)
      have cm : w3.cell? ⟨w.heap.size, x, none⟩ = some (.slice none 0 0) := by
        rw [hbm3.cell, List.getElem?_toArray, List.getElem?_append_right (by rw [HP.out.2.2.2.2]; exact Nat.le_refl _), HP.out.2.2.2.2, Nat.sub_self, List.getElem?_replicate, if_pos (by omega)]
      have fm := hbm3.frozen x
      have Hgr := Lib.hid (And.intro hgrow (And.intro hnew (And.intro hold (And.intro hat (And.intro hba hbm3)))))
      clear hgrow hnew hold hat hba hbm3
      go_wp2_with fail
      go_roundw
      case rel =>
        obtain ⟨hgrow, hnew, hold, hat, hba, hbm3⟩ := Hgr.out
        obtain ⟨hbm, hku, hwu, hT, hM⟩ := HH.out
        obtain ⟨hp, hpo, hpn, hpx, hml⟩ := HP.out
        have hget : (ks ++ ws)[x]? = some ⟨.slice Ap pn cp, pn, pxs⟩ := by rw [List.getElem?_append_left (by have := (List.getElem?_eq_some_iff.1 hp).1; exact this)]; exact hp
        have hT3 := (hT.below hba).write x ⟨.slice Ap pn cp, pn, pxs⟩ ⟨.slice Ap pn cp, pn, pxs⟩ hget rfl hold hgrow
        rw [set_of_get' _ _ _ hget] at hT3
        have hxl : pxs.length = pn * 3 := by rw [hpx, cellVs_length, hpn, Nat.mul_comm]
        have hM3 := (hM.below hba).snoc (hT.below hba) (x := x) hml hget (mv := .slice A' (pn + 2) c') (xs := pxs) rfl (by exact hnew) hxl hgrow (by simpa using hat)
        have hku3 := (own_below hku hba).kept hgrow (own_ne_kind hku hpo (by decide))
        have hwu3 := (own_below hwu hba).kept hgrow (own_ne_kind hwu hpo (by decide))
        have hs3 : w.heap.size < w3.heap.size := hbm3.lt
        have hset := hbm3.set_ x (.slice A' (pn + 2) c')
        have hgs := grown_set1' w3 w.heap.size x (.slice A' (pn + 2) c')
        have e1 : (ms ++ List.replicate (m - x) (Value.slice none 0 0)).toArray.setIfInBounds x (.slice A' (pn + 2) c') = ((ms ++ [Value.slice A' (pn + 2) c']) ++ List.replicate (m - (x + 1)) (Value.slice none 0 0)).toArray := by
          rw [List.setIfInBounds_toArray, List.set_append_right _ _ (by rw [hml]; exact Nat.le_refl _), hml, Nat.sub_self, show m - x = (m - (x + 1)) + 1 by omega, List.replicate_succ, List.set_cons_zero, List.append_assoc]
          rfl
        rw [e1] at hset
        have hmg : ∀ {v : Value} {n : Nat} {xs : List Value}, w3.ownsRow B 63 3 v n xs → v.ownBlock = none ∨ v.ownBlock ≠ some w.heap.size := fun h => own_ne_blk h hbm3 (by decide)
        refine ⟨x + 1, ms ++ [.slice A' (pn + 2) c'], by omega, by go_num, by rw [List.length_append, hml]; rfl, hset, ?_, ?_, ?_, ?_, ?_, ?_⟩
        · refine hku3.kept hgs ?_
          exact .inr HK0.out.1
        · refine hwu3.kept hgs ?_
          exact .inr HK0.out.2
        · exact ⟨fun q hq => (hT3.own q hq).kept hgs (hmg (hT3.own q hq)), hT3.apart⟩
        · exact hM3.other hgs (fun j mv hj e => by
            rcases Nat.lt_or_ge j (ks ++ ws).length with hjl | hjl
            · obtain ⟨ys, _, _, h3, _⟩ := hM3 j _ mv (List.getElem?_eq_getElem hjl) hj
              rcases hmg h3 with h0 | h0
              · rw [h0] at e; cases e
              · exact h0 e
            · have h1 := (List.getElem?_eq_some_iff.1 hj).1
              have h2 := (List.getElem?_eq_some_iff.1 hp).1
              simp only [List.length_append, List.length_singleton] at h1 hjl
              omega)
        · exact ((hbel.alloc (by omega) _).grown hgrow (by simp; omega) (fun q e => (hpo.lt q e).1)).setCell hB _
        · simp [World.setCell]; omega
      case measure => simp [intOf]; omega
    · obtain rfl : x = m := by omega
      have hbm1 : Blk wr w.heap.size 47 ms.toArray := by have h1 := hbm; rw [Nat.sub_self, List.replicate_zero, List.append_nil] at h1; exact h1
      have HK := Lib.hid (And.intro hks (And.intro hws (And.intro hn64 (And.intro hm (And.intro hwm hml)))))
      obtain ⟨gm, hgm⟩ : ∃ gm, gm = w.heap.size := ⟨_, rfl⟩
      rw [← hgm] at hbm1
      simp only [← hgm]
      have Hgm := Lib.hid hgm
      clear hbm hks hws hn64 hm hwm hml hms hgm
      generalize wr = wq at hbm1 hku hwu hT hM hbel hsz ⊢
      go_wp2_with fail
      go_loopw [7] (fun i wy => ∃ z : Nat, z ≤ x ∧ i = .int .i64 z ∧ Below wq.heap.size wq wy) (fun i _ => x - (intOf i).toNat)
      case atStart => exact ⟨0, Nat.zero_le _, rfl, Below.refl _ _⟩
      case round =>
        obtain ⟨z, hz, rfl, hbz⟩ := hrel
        by_cases hzx : z < x
        · obtain ⟨gu, cu', e, hgu, hgl⟩ := own_form hku (by omega)
          cases e
          obtain ⟨gv, cv', e, hgv, hgvl⟩ := own_form hwu (by omega)
          cases e
          obtain ⟨p, hp⟩ : ∃ p, ks[z]? = some p := ⟨_, List.getElem?_eq_getElem (by have := HK.out.2.2.2.1; omega)⟩
          obtain ⟨q, hq⟩ : ∃ q, ws[z]? = some q := ⟨_, List.getElem?_eq_getElem (by have := HK.out.2.2.2.2.1; omega)⟩
          have hpo := hT.own p (List.mem_append_left _ (List.mem_of_getElem? hp))
          have hqo := hT.own q (List.mem_append_right _ (List.mem_of_getElem? hq))
          have hpv : (ks.map TRow.v)[z]? = some p.v := by rw [List.getElem?_map, hp]; rfl
          have hqv : (ws.map TRow.v)[z]? = some q.v := by rw [List.getElem?_map, hq]; rfl
          obtain ⟨L, hL, hpn, hpx⟩ := telling_at HK.out.1 hp
          obtain ⟨L', hL', hqn, hqx⟩ := telling_at HK.out.2.1 hq
          rw [hL] at hL'
          obtain rfl := Option.some.inj hL'
          obtain ⟨pv, pn, pxs⟩ := p
          obtain ⟨qv, qn, qxs⟩ := q
          simp only at hpo hpv hqo hqv hpn hqn hpx hqx
          subst hpx hqx
          obtain rfl : pn = qn := by omega
          obtain ⟨Ap, cp, rfl⟩ := own_slice hpo
          obtain ⟨Aq, cq, rfl⟩ := own_slice hqo
          have cx0 : wq.cell? ⟨gu, z, none⟩ = some (.slice Ap pn cp) := by
            have := hku.cells (g := gu) rfl z _ hpv
            rwa [add_plain, Nat.zero_add] at this
          have cy0 : wq.cell? ⟨gv, z, none⟩ = some (.slice Aq pn cq) := by
            have := hwu.cells (g := gv) rfl z _ hqv
            rwa [add_plain, Nat.zero_add] at this
          have cx := (hbz.cell (p := ⟨gu, z, none⟩) hgl).trans cx0
          have cy := (hbz.cell (p := ⟨gv, z, none⟩) hgvl).trans cy0
          have hz0 : (0 : Int) ≤ (z : Int) := by omega
          have hz1 : (z : Int) < (x : Int) := by omega
          have hp64 : pn ≤ 1000 := by rw [hpn]; exact HK.out.2.2.1 L (List.mem_of_getElem? hL)
          have HpL := Lib.hid hpn
          clear hp hq hpv hqv hL hL' hpn hqn
          go_wp2_with fail
          go_region
          go_wp2_with fail
          have hbz1 := below_drewN hbz 1
          go_loopw [8] (fun j wy => ∃ y : Nat, y ≤ pn ∧ j = .int .i64 y ∧ Below wq.heap.size wq wy) (fun j _ => pn - (intOf j).toNat)
          case atStart => exact ⟨0, Nat.zero_le _, rfl, hbz1⟩
          case round =>
            clear hbz hbz1 cx cy
            obtain ⟨y, hy, rfl, hbz⟩ := hrel
            have cx := (hbz.cell (p := ⟨gu, z, none⟩) hgl).trans cx0
            have cy := (hbz.cell (p := ⟨gv, z, none⟩) hgvl).trans cy0
            by_cases hyp : y < pn
            · obtain ⟨gp, cp', e, hgp, hgpl⟩ := own_form hpo (by omega)
              cases e
              obtain ⟨gq, cq', e, hgq, hgql⟩ := own_form hqo (by omega)
              cases e
              obtain ⟨ya, yb, e0, e1, e2⟩ := cellVs_at3 L y (by have := HpL.out; omega)
              have d0 : wr.cell? ⟨gp, y * 3, none⟩ = some (.int .i64 ya) := (hbz.cell (p := ⟨gp, y * 3, none⟩) hgpl).trans ((World.ownsRow.cellAt hpo (y * 3) (by omega)).trans e0)
              have d1 : wr.cell? ⟨gp, y * 3 + 1, none⟩ = some (.string ⟨#[]⟩) := (hbz.cell (p := ⟨gp, y * 3 + 1, none⟩) hgpl).trans ((World.ownsRow.cellAt hpo (y * 3 + 1) (by omega)).trans e1)
              have d2 : wr.cell? ⟨gp, y * 3 + 2, none⟩ = some (.int .i64 yb) := (hbz.cell (p := ⟨gp, y * 3 + 2, none⟩) hgpl).trans ((World.ownsRow.cellAt hpo (y * 3 + 2) (by omega)).trans e2)
              have d3 : wr.cell? ⟨gq, y * 3, none⟩ = some (.int .i64 ya) := (hbz.cell (p := ⟨gq, y * 3, none⟩) hgql).trans ((World.ownsRow.cellAt hqo (y * 3) (by omega)).trans e0)
              have d4 : wr.cell? ⟨gq, y * 3 + 1, none⟩ = some (.string ⟨#[]⟩) := (hbz.cell (p := ⟨gq, y * 3 + 1, none⟩) hgql).trans ((World.ownsRow.cellAt hqo (y * 3 + 1) (by omega)).trans e1)
              have d5 : wr.cell? ⟨gq, y * 3 + 2, none⟩ = some (.int .i64 yb) := (hbz.cell (p := ⟨gq, y * 3 + 2, none⟩) hgql).trans ((World.ownsRow.cellAt hqo (y * 3 + 2) (by omega)).trans e2)
              clear e0 e1 e2
              have y0 : (0 : Int) ≤ (y : Int) := by omega
              have y1 : (y : Int) < (pn : Int) := by omega
              go_wp2_with fail
              go_region
              go_wp2_with fail
              go_roundw
              case rel => exact ⟨y + 1, by omega, by go_num, below_drewN hbz 1⟩
              case measure => simp [intOf]; omega
            · obtain rfl : y = pn := by omega
              go_wp2_with fail
              go_roundw
              case rel => exact ⟨z + 1, by omega, by go_num, hbz⟩
              case measure => simp [intOf]; omega
        · obtain rfl : z = x := by omega
          have hb1 := hbm1.below' hbz
          have hku1 := own_below hku hbz
          have hwu1 := own_below hwu hbz
          have hT1 := hT.below hbz
          have hM1 := hM.below hbz
          have hbel1 := Below.then_ hbel (Nat.le_trans hB hsz) hbz
          have hsz1 := Nat.le_trans hsz hbz.size
          clear hbm1 hku hwu hT hM hbel hsz hbz
          generalize wr = wo at hb1 hku1 hwu1 hT1 hM1 hbel1 hsz1 ⊢
          go_wp2_with fail
          have hrn : ∀ p ∈ ks, p.n ≤ 1000 := by
            intro p hp
            obtain ⟨j, hj, rfl⟩ := List.mem_iff_getElem.1 hp
            obtain ⟨L, hL, hn, _⟩ := telling_at HK.out.1 (List.getElem?_eq_getElem hj)
            rw [hn]
            exact HK.out.2.2.1 L (List.mem_of_getElem? hL)
          have hkl : ks.length = z := HK.out.2.2.2.1
          have hml : ms.length = z := HK.out.2.2.2.2.2
          generalize hvs : ks.map TRow.v = vs at hku1
          have hvl : vs.length = z := by rw [← hvs, ← hkl]; simp
          have Hvl := Lib.hid (And.intro hvl hml)
          clear hvl hml
          go_loopw [9] (fun i wx => ∃ (x : Nat) (kt : List TRow), x ≤ z ∧ i = .int .i64 x ∧ kt.map TRow.v = vs ∧ (∀ p ∈ kt, p.n ≤ 1000) ∧ (∀ j p, kt[j]? = some p → j < x → p.xs = marked2 j p.n) ∧
            wx.ownsRow B 47 1 (.slice Ak z ck) z vs ∧ wx.ownsRow B 47 1 (.slice Aw z cw) z (ws.map TRow.v) ∧ TRows wx B 63 3 (kt ++ ws) ∧ MRows wx B 63 3 2 (kt ++ ws) grew ms ∧ Blk wx gm 47 ms.toArray ∧ Below B w wx) (fun i _ => z - (intOf i).toNat)
          case atStart => exact ⟨0, ks, Nat.zero_le _, rfl, hvs, hrn, fun _ _ _ h => absurd h (by omega), hku1, hwu1, hT1, hM1, hb1, hbel1⟩
          case round =>
            clear hku1 hwu1 hT1 hM1 hb1 hbel1 hsz1 hvs hrn hkl
            obtain ⟨x, kt, hx, rfl, hvs, hrn, hmk, hku, hwu, hT, hM, hbm, hbel⟩ := hrel
            have hrl : kt.length = z := by rw [← Hvl.out.1, ← hvs]; simp
            have Hvs := Lib.hid hvs
            have Hrl := Lib.hid hrl
            clear hvs hrl
            by_cases hxm : x < z
            · obtain ⟨gu, cu', e, hgu, hgl⟩ := own_form hku (by omega)
              cases e
              obtain ⟨p, hp⟩ : ∃ p, kt[x]? = some p := ⟨_, List.getElem?_eq_getElem (by have := Hrl.out; omega)⟩
              have hpn := hrn p (List.mem_of_getElem? hp)
              have hpo := hT.own p (List.mem_append_left _ (List.mem_of_getElem? hp))
              have hpv : vs[x]? = some p.v := by rw [← Hvs.out, List.getElem?_map, hp]; rfl
              obtain ⟨pv, pn, pxs⟩ := p
              simp only at hpn hpo hpv
              obtain ⟨Ap, cp, rfl⟩ := own_slice hpo
              have hx0 : (0 : Int) ≤ (x : Int) := by omega
              have hx1 : (x : Int) < (z : Int) := by omega
              have hpl : pxs.length = pn * 3 := hpo.1
              have Hp := Lib.hid hp
              have Hpv := Lib.hid hpv
              have Hpl := Lib.hid hpl
              have hget : (kt ++ ws)[x]? = some ⟨.slice Ap pn cp, pn, pxs⟩ := by rw [List.getElem?_append_left (by have := Hrl.out; omega)]; exact hp
              have hTs : TRows wr B 63 3 (kt.set x ⟨.slice Ap pn cp, pn, marked2 x 0 ++ pxs.drop (0 * 3)⟩ ++ ws) := by
                rw [show marked2 x 0 ++ pxs.drop (0 * 3) = pxs from rfl, set_of_get' _ _ _ hp]
                exact hT
              have hMs : MRows wr B 63 3 2 (kt.set x ⟨.slice Ap pn cp, pn, marked2 x 0 ++ pxs.drop (0 * 3)⟩ ++ ws) grew ms := by
                rw [show marked2 x 0 ++ pxs.drop (0 * 3) = pxs from rfl, set_of_get' _ _ _ hp]
                exact hM
              clear hp hpv hpl hpo hget hT hM
              go_wp2_with fail
              go_loopw [10] (fun j wy => ∃ y : Nat, y ≤ pn ∧ j = .int .i64 y ∧ wy.ownsRow B 47 1 (.slice (some ⟨gu, 0, none⟩) z ck) z vs ∧ wy.ownsRow B 47 1 (.slice Aw z cw) z (ws.map TRow.v) ∧
                TRows wy B 63 3 (kt.set x ⟨.slice Ap pn cp, pn, marked2 x y ++ pxs.drop (y * 3)⟩ ++ ws) ∧ MRows wy B 63 3 2 (kt.set x ⟨.slice Ap pn cp, pn, marked2 x y ++ pxs.drop (y * 3)⟩ ++ ws) grew ms ∧ Blk wy gm 47 ms.toArray ∧ Below B w wy) (fun j _ => pn - (intOf j).toNat)
              case atStart => exact ⟨0, Nat.zero_le _, rfl, hku, hwu, hTs, hMs, hbm, hbel⟩
              case round =>
                clear hku hwu hTs hMs hbm hbel
                obtain ⟨y, hy, rfl, hku, hwu, hT, hM, hbm, hbel⟩ := hrel
                have cx : wr.cell? ⟨gu, x, none⟩ = some (.slice Ap pn cp) := by
                  have := hku.cells (g := gu) rfl x _ Hpv.out
                  rwa [add_plain, Nat.zero_add] at this
                have hgt : (kt.set x ⟨.slice Ap pn cp, pn, marked2 x y ++ pxs.drop (y * 3)⟩ ++ ws)[x]? = some ⟨.slice Ap pn cp, pn, marked2 x y ++ pxs.drop (y * 3)⟩ := by
                  rw [List.getElem?_append_left (by have := Hrl.out; simp; omega)]; exact List.getElem?_set_self (by have := Hrl.out; omega)
                have hq : wr.ownsRow B 63 3 (.slice Ap pn cp) pn (marked2 x y ++ pxs.drop (y * 3)) := hT.get x _ hgt
                have Hgt := Lib.hid hgt
                clear hgt
                by_cases hyp : y < pn
                · obtain ⟨gp, cp', e, hgp, hgpl⟩ := own_form hq (by omega)
                  cases e
                  have hxl : (marked2 x y ++ pxs.drop (y * 3)).length = pn * 3 := hq.1
                  have cell : ∀ j, j < pn * 3 → ∃ a, wr.cell? ⟨gp, j, none⟩ = some a := fun j hj => ⟨_, (World.ownsRow.cellAt hq j hj).trans (List.getElem?_eq_getElem (by omega))⟩
                  obtain ⟨a0, c0⟩ := cell (y * 3) (by omega)
                  obtain ⟨a1, c1⟩ := cell (y * 3 + 1) (by omega)
                  obtain ⟨a2, c2⟩ := cell (y * 3 + 2) (by omega)
                  have f0 := World.ownsRow.frozenAt hq (y * 3)
                  have f1 := World.ownsRow.frozenAt hq (y * 3 + 1)
                  have f2 := World.ownsRow.frozenAt hq (y * 3 + 2)
                  clear cell
                  have y0 : (0 : Int) ≤ (y : Int) := by omega
                  have y1 : (y : Int) < (pn : Int) := by omega
                  clear hxl
                  go_wp2_with fail
                  go_roundw
                  case rel =>
                    have hq3 := (World.ownsRow.stored (World.ownsRow.stored (World.ownsRow.stored hq (y * 3) (.int .i64 (100 + (x : Int)))).1 (y * 3 + 1) (.string ⟨#[]⟩)).1 (y * 3 + 2) (.int .i64 y)).1
                    rw [marked2_set x y pn pxs Hpl.out hyp] at hq3
                    have hgr := grown_set3' wr gp (y * 3) (y * 3 + 1) (y * 3 + 2) (.int .i64 (100 + (x : Int))) (.string ⟨#[]⟩) (.int .i64 y)
                    have hT3 := hT.write x _ ⟨.slice (some ⟨gp, 0, none⟩) pn cp, pn, marked2 x (y + 1) ++ pxs.drop ((y + 1) * 3)⟩ Hgt.out rfl hq3 hgr
                    have hMa := hM.write (q := _) Hgt.out rfl rfl (g := gp) (y := y * 3) rfl (by simp; omega) (.int .i64 (100 + (x : Int))) (grown_set1' _ _ _ _)
                    rw [set_of_get' _ _ _ Hgt.out] at hMa
                    have hMb := hMa.write (q := _) Hgt.out rfl rfl (g := gp) (y := y * 3 + 1) rfl (by simp; omega) (.string ⟨#[]⟩) (grown_set1' _ _ _ _)
                    rw [set_of_get' _ _ _ Hgt.out] at hMb
                    have hM3 := hMb.write (q := ⟨.slice (some ⟨gp, 0, none⟩) pn cp, pn, marked2 x (y + 1) ++ pxs.drop ((y + 1) * 3)⟩) Hgt.out rfl rfl (g := gp) (y := y * 3 + 2) rfl (by simp; omega) (.int .i64 y) (grown_set1' _ _ _ _)
                    rw [List.set_append_left _ _ (by have := Hrl.out; simp; omega), List.set_set] at hT3 hM3
                    have hng : gm ≠ gp := by
                      rcases own_ne_blk hq hbm (by decide) with h0 | h0
                      · cases h0
                      · intro e; exact h0 (by rw [e]; rfl)
                    have hbm3 := (((hbm.far (p := ⟨gp, y * 3, none⟩) hng (.int .i64 (100 + (x : Int)))).far (p := ⟨gp, y * 3 + 1, none⟩) hng (.string ⟨#[]⟩)).far (p := ⟨gp, y * 3 + 2, none⟩) hng (.int .i64 y))
                    exact ⟨y + 1, by omega, by go_num, hku.kept hgr (own_ne_kind hku hq (by decide)), hwu.kept hgr (own_ne_kind hwu hq (by decide)), hT3, hM3, hbm3, ((hbel.setCell hgp _).setCell hgp _).setCell hgp _⟩
                  case measure => simp [intOf]; omega
                · obtain rfl : y = pn := by omega
                  go_wp2_with fail
                  go_roundw
                  case rel =>
                    have hd : pxs.drop (y * 3) = [] := List.drop_of_length_le (by rw [Hpl.out]; omega)
                    refine ⟨x + 1, kt.set x ⟨.slice Ap y cp, y, marked2 x y ++ pxs.drop (y * 3)⟩, by omega, by go_num, ?_, ?_, ?_, hku, hwu, hT, hM, hbm, hbel⟩
                    · rw [List.map_set, Hvs.out]
                      exact set_of_get' _ _ _ Hpv.out
                    · intro p hp
                      rcases List.mem_or_eq_of_mem_set hp with hp | rfl
                      · exact hrn p hp
                      · exact hpn
                    · intro j p hp hj
                      by_cases hjx : j = x
                      · subst hjx
                        rw [List.getElem?_set_self (by have := Hrl.out; omega)] at hp
                        obtain rfl := Option.some.inj hp
                        show marked2 j y ++ pxs.drop (y * 3) = marked2 j y
                        rw [hd, List.append_nil]
                      · rw [List.getElem?_set_ne (fun e => hjx e.symm)] at hp
                        exact hmk j p hp (by omega)
                  case measure => simp [intOf]; omega
            · obtain rfl : x = z := by omega
              generalize wr = wc at hku hwu hT hM hbm hbel ⊢
              go_wp2_with fail
              go_loopw [11] (fun i wy => ∃ t : Nat, t ≤ x ∧ i = .int .i64 t ∧ Below wc.heap.size wc wy) (fun i _ => x - (intOf i).toNat)
              case atStart => exact ⟨0, Nat.zero_le _, rfl, Below.refl _ _⟩
              case round =>
                obtain ⟨t, ht, rfl, hbz⟩ := hrel
                by_cases htx : t < x
                · obtain ⟨gu, cu', e, hgu, hgl⟩ := own_form hku (by omega)
                  cases e
                  obtain ⟨p, hp⟩ : ∃ p, kt[t]? = some p := ⟨_, List.getElem?_eq_getElem (by have := Hrl.out; omega)⟩
                  have hpn := hrn p (List.mem_of_getElem? hp)
                  have hpo := hT.own p (List.mem_append_left _ (List.mem_of_getElem? hp))
                  have hpm := hmk t p hp htx
                  have hpv : vs[t]? = some p.v := by rw [← Hvs.out, List.getElem?_map, hp]; rfl
                  have hgt : (kt ++ ws)[t]? = some p := by rw [List.getElem?_append_left (by have := Hrl.out; omega)]; exact hp
                  obtain ⟨mv, hmv⟩ : ∃ mv, ms[t]? = some mv := ⟨_, List.getElem?_eq_getElem (by have := Hvl.out.2; omega)⟩
                  obtain ⟨ys, hyl, _, hmo, _⟩ := hM t p mv hgt hmv
                  obtain ⟨pv, pn, pxs⟩ := p
                  simp only at hpn hpo hpv hpm hyl hmo
                  subst hpm
                  obtain ⟨Ap, cp, rfl⟩ := own_slice hpo
                  obtain ⟨gq, cq, rfl, hgq, hgql⟩ := own_form hmo (by omega)
                  have cx0 : wc.cell? ⟨gu, t, none⟩ = some (.slice Ap pn cp) := by
                    have := hku.cells (g := gu) rfl t _ hpv
                    rwa [add_plain, Nat.zero_add] at this
                  have cx := (hbz.cell (p := ⟨gu, t, none⟩) hgl).trans cx0
                  have cm : wr.cell? ⟨gm, t, none⟩ = some (.slice (some ⟨gq, 0, none⟩) (pn + 2) cq) := (hbz.cell (p := ⟨gm, t, none⟩) hbm.lt).trans (by rw [hbm.cell, List.getElem?_toArray]; exact hmv)
                  have dq : ∀ r u, (grew t)[r]? = some u → r < 6 → wr.cell? ⟨gq, pn * 3 + r, none⟩ = some u := fun r u hu hr => (hbz.cell (p := ⟨gq, pn * 3 + r, none⟩) hgql).trans ((World.ownsRow.cellAt hmo (pn * 3 + r) (by omega)).trans (by rw [List.getElem?_append_right (by omega), hyl, show pn * 3 + r - pn * 3 = r by omega]; exact hu))
                  have d0 := dq 0 _ rfl (by omega)
                  have d1 := dq 1 _ rfl (by omega)
                  have d2 := dq 2 _ rfl (by omega)
                  have d3 := dq 3 _ rfl (by omega)
                  have d4 := dq 4 _ rfl (by omega)
                  have d5 := dq 5 _ rfl (by omega)
                  rw [Nat.add_zero] at d0
                  rw [show pn * 3 + 3 = (pn + 1) * 3 by omega] at d3
                  rw [show pn * 3 + 4 = (pn + 1) * 3 + 1 by omega] at d4
                  rw [show pn * 3 + 5 = (pn + 1) * 3 + 2 by omega] at d5
                  clear dq
                  have hz0 : (0 : Int) ≤ (t : Int) := by omega
                  have hz1 : (t : Int) < (x : Int) := by omega
                  have p2 : (((pn + 2 : Nat)) : Int) = (pn : Int) + 2 := by omega
                  have p3 : (0 : Int) ≤ (pn : Int) := by omega
                  have p4 : (pn : Int) < (pn : Int) + 2 := by omega
                  have p5 : (pn : Int) + 1 < (pn : Int) + 2 := by omega
                  have p6 : ((pn : Int) + 1).toNat = pn + 1 := by omega
                  have p7 : (0 : Int) ≤ (pn : Int) + 1 := by omega
                  clear hp hpv hgt hmv
                  go_wp2_with fail
                  go_loopw [13] (fun j wy => ∃ y : Nat, y ≤ pn ∧ j = .int .i64 y ∧ Below wc.heap.size wc wy) (fun j _ => pn - (intOf j).toNat)
                  case atStart => exact ⟨0, Nat.zero_le _, rfl, hbz⟩
                  case round =>
                    clear hbz cx cm d0 d1 d2 d3 d4 d5
                    obtain ⟨y, hy, rfl, hbz⟩ := hrel
                    have cx := (hbz.cell (p := ⟨gu, t, none⟩) hgl).trans cx0
                    by_cases hyp : y < pn
                    · obtain ⟨gp, cp', e, hgp, hgpl⟩ := own_form hpo (by omega)
                      cases e
                      obtain ⟨e0, e1, e2⟩ := marked2_at t pn y hyp
                      have c0 : wr.cell? ⟨gp, y * 3, none⟩ = some (.int .i64 (100 + (t : Int))) := (hbz.cell (p := ⟨gp, y * 3, none⟩) hgpl).trans ((World.ownsRow.cellAt hpo (y * 3) (by omega)).trans e0)
                      have c1 : wr.cell? ⟨gp, y * 3 + 1, none⟩ = some (.string ⟨#[]⟩) := (hbz.cell (p := ⟨gp, y * 3 + 1, none⟩) hgpl).trans ((World.ownsRow.cellAt hpo (y * 3 + 1) (by omega)).trans e1)
                      have c2 : wr.cell? ⟨gp, y * 3 + 2, none⟩ = some (.int .i64 y) := (hbz.cell (p := ⟨gp, y * 3 + 2, none⟩) hgpl).trans ((World.ownsRow.cellAt hpo (y * 3 + 2) (by omega)).trans e2)
                      clear e0 e1 e2
                      have y0 : (0 : Int) ≤ (y : Int) := by omega
                      have y1 : (y : Int) < (pn : Int) := by omega
                      go_wp2_with fail
                      go_roundw
                      case rel => exact ⟨y + 1, by omega, by go_num, hbz⟩
                      case measure => simp [intOf]; omega
                    · obtain rfl : y = pn := by omega
                      go_wp2_with fail
                      go_roundw
                      case rel => exact ⟨t + 1, by omega, by go_num, hbz⟩
                      case measure => simp [intOf]; omega
                · go_wp2_with fail
                  go_wp2
                  go_ret
                  refine ⟨rfl, Below.then_ hbel (by have := hbm.lt; have := Hgm.out; omega) hbz, own_below hwu hbz, ?_⟩
                  have hT2 := hT.below hbz
                  exact ⟨fun p hp => hT2.own p (List.mem_append_right _ hp), (List.pairwise_append.1 hT2.apart).2.1⟩
end Go.Proofs.Ytdnamidhbloaoaa.Mark
