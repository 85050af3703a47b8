/-
  Locks: find and ContainsFunc (slices.IndexFunc over claims).
-/
import Derived.Test.YtgcnappgecdldaaL1
import Derived.LoopTactic
set_option linter.unusedVariables false
set_option linter.unusedSimpArgs false
namespace Go.Proofs.Ytgcnappgecdldaa.C
open Go.RowKit Go.Proofs.Ytgcnappgecdldaa.K Go.Maps

/-- A claim: its task, its set's block, its set. -/
structure Clm where
  task : Int
  blk : Nat
  set : Dt
/-- Claims that can be read, one behind the other. -/
structure ClmsAt (w : World) (A : Option Addr) (l : List Clm) : Prop where
  at_ : 0 < l.length → ∃ g off, A = some ⟨g, off, none⟩ ∧ g < w.heap.size ∧ ∀ i (h : i < l.length), w.cell? ⟨g, off + i * 2, none⟩ = some (.int .i64 l[i].task) ∧ w.cell? ⟨g, off + i * 2 + 1, none⟩ = some (.map (some l[i].blk))
  sets : ∀ c ∈ l, SetAt w c.blk c.set
theorem ClmsAt.below {w w' : World} {A : Option Addr} {l : List Clm} (h : ClmsAt w A l) (hb : Below w.heap.size w w') : ClmsAt w' A l :=
  ⟨fun h0 => by
    obtain ⟨g, off, e, hg, hc⟩ := h.at_ h0
    exact ⟨g, off, e, Nat.lt_of_lt_of_le hg hb.size, fun i hi => ⟨(hb.cell (p := ⟨g, off + i * 2, none⟩) hg).trans (hc i hi).1, (hb.cell (p := ⟨g, off + i * 2 + 1, none⟩) hg).trans (hc i hi).2⟩⟩, fun c hc => (h.sets c hc).below hb⟩
/-- A task's place among claims; -1: none. -/
def place (l : List Clm) (p : Clm → Bool) : Int := match l.findIdx? p with | some i => i | none => -1
def Before (l : List Clm) (p : Clm → Bool) (k : Nat) : Prop := ∀ j (h : j < l.length), j < k → p l[j] = false
theorem place_none {l : List Clm} {p : Clm → Bool} (h : ∀ c ∈ l, p c = false) : place l p = -1 := by
  unfold place
  rw [List.findIdx?_eq_none_iff.2 (fun c hc => by rw [h c hc])]
theorem place_at {l : List Clm} {p : Clm → Bool} {k : Nat} (hk : k < l.length) (hp : p l[k] = true) (hb : ∀ i (h : i < l.length), i < k → p l[i] = false) : place l p = (k : Int) := by
  unfold place
  have : l.findIdx? p = some k := by
    rw [List.findIdx?_eq_some_iff_getElem]
    exact ⟨hk, hp, fun j hj => by simpa using hb j (by omega) hj⟩
  rw [this]
theorem place_any (l : List Clm) (p : Clm → Bool) : decide (0 ≤ place l p) = l.any p := by
  unfold place
  rcases h : l.findIdx? p with _ | i
  · have := List.findIdx?_eq_none_iff.1 h
    rw [Bool.eq_iff_iff]
    simp
    intro c hc
    simpa using this c hc
  · obtain ⟨hi, hp, _⟩ := List.findIdx?_eq_some_iff_getElem.1 h
    rw [Bool.eq_iff_iff]
    simp
    exact ⟨l[i], List.getElem_mem hi, hp⟩
open Classical in
/-- Does it conflict with that set? -/
noncomputable def cf (D : Dt) (c : Clm) : Bool := decide (conf D c.set)

set_option maxRecDepth 100000 in
theorem task_c (w : World) (ct : Int) (cb : Nat) (q : Nat) (t : Int) (hq : w.cell? ⟨q, 0, none⟩ = some (.int .i64 t)) (r : Bool) (hr : (ct == t) = r) :
    Calls Try.prog 57 #[.agg #[.int .i64 ct, .map (some cb)], .pointer (some ⟨q, 0, none⟩)] w fun e w' => e = .returned (.bool r) ∧ Below w.heap.size w w' := by
  have hql := World.block_lt_of_cell? w _ hq
  have hbA : Below w.heap.size w (w.alloc (.cells #[.int .i64 ct, .map (some cb)] 86)) := (Below.refl _ _).alloc (Nat.le_refl _) _
  have hq2 : (w.alloc (.cells #[.int .i64 ct, .map (some cb)] 86)).cell? ⟨q, 0, none⟩ = some (.int .i64 t) := (hbA.cell (p := ⟨q, 0, none⟩) hql).trans hq
  go_enter Try.func57, Try.ntmps57
  go_wp2
  go_ret
  exact ⟨rfl, hbA⟩

set_option maxRecDepth 100000 in
theorem index_find (w : World) (A : Option Addr) (n cp : Nat) (l : List Clm) (hl : l.length = n) (hn : n ≤ 1000000) (h : ClmsAt w A l) (q : Nat) (t : Int) (hq : w.cell? ⟨q, 0, none⟩ = some (.int .i64 t)) (r : Int) (hr : place l (fun c => c.task == t) = r) :
    Calls Try.prog 56 #[.slice A n cp, .func (Fn.func 57) #[] #[.pointer (some ⟨q, 0, none⟩)]] w fun e w' => e = .returned (.int .i64 r) ∧ Below w.heap.size w w' := by
  have H := Lib.hid h
  have Hl := Lib.hid hl
  have Hr := Lib.hid hr
  have hql := World.block_lt_of_cell? w _ hq
  have Hq := Lib.hid (And.intro hq hql)
  clear hq hql
  clear h hl hr
  go_enter Try.func56, Try.ntmps56
  go_wp2_with fail
  go_loopw [8] (fun i wr => ∃ k : Nat, k ≤ n ∧ i = .int .i64 k ∧ Before l (fun c => c.task == t) k ∧ Below w.heap.size w wr) (fun i _ => n - (intOf i).toNat)
  case atStart => exact ⟨0, Nat.zero_le _, rfl, fun j _ h => absurd h (by omega), Below.refl _ _⟩
  case round =>
    obtain ⟨k, hk, rfl, hno, hb⟩ := hrel
    have Hno := Lib.hid hno
    have HB := Lib.hid hb
    clear hno hb
    by_cases hkn : k < n
    · have k0 : (0 : Int) ≤ (k : Int) := by omega
      have k1 : (k : Int) < (n : Int) := by omega
      obtain ⟨g, off, rfl, hg, hc⟩ := (H.out.below HB.out).at_ (by rw [Hl.out]; omega)
      have hkl : k < l.length := by rw [Hl.out]; exact hkn
      obtain ⟨c0, c1⟩ := hc k hkl
      clear hc
      obtain ⟨c, hcc⟩ : ∃ c, l[k] = c := ⟨_, rfl⟩
      rw [hcc] at c0 c1
      have hset : SetAt wr c.blk c.set := (H.out.below HB.out).sets c (by rw [← hcc]; exact List.getElem_mem hkl)
      have Hcc := Lib.hid hcc
      clear hcc
      obtain ⟨ct, cb, cd⟩ := c
      dsimp only at c0 c1 hset
      have Hset := Lib.hid hset
      clear hset
      obtain ⟨pb, hpb⟩ : ∃ b, (fun c => c.task == t) (⟨ct, cb, cd⟩ : Clm) = b := ⟨_, rfl⟩
      have Hpb := Lib.hid hpb
      clear hpb
      go_wp2_with fail
      refine (task_c wr ct cb q t ((HB.out.cell (p := ⟨q, 0, none⟩) Hq.out.2).trans Hq.out.1) pb Hpb.out).mono ?_
      rintro e w2 ⟨rfl, hb2⟩
      have HB2 := Lib.hid (Below.then_ HB.out HB.out.size hb2)
      clear hb2 c0 c1
      rcases pb with _ | _
      · go_wp2_with fail
        go_roundw
        case rel => exact ⟨k + 1, by omega, by go_num, fun j hj h => by
          by_cases e : j = k
          · subst e
            rw [Hcc.out]
            exact Hpb.out
          · exact Hno.out j hj (by omega), HB2.out⟩
        case measure => simp [intOf]; omega
      · obtain rfl : (k : Int) = r := by
          rw [← Hr.out]
          exact (place_at hkl (by rw [Hcc.out]; exact Hpb.out) (fun j hj h => Hno.out j hj h)).symm
        go_wp2
        go_ret
        exact ⟨rfl, HB2.out⟩
    · have k1 : ¬ (k : Int) < (n : Int) := by omega
      obtain rfl : -1 = r := by
        rw [← Hr.out]
        exact (place_none (fun c hc => by
          obtain ⟨j, hj, rfl⟩ := List.mem_iff_getElem.1 hc
          exact Hno.out j hj (by have := Hl.out; omega))).symm
      go_wp2
      go_ret
      exact ⟨rfl, HB.out⟩

set_option maxRecDepth 100000 in
theorem index_against (w : World) (A : Option Addr) (n cp : Nat) (l : List Clm) (hl : l.length = n) (hn : n ≤ 1000000) (h : ClmsAt w A l) (t : Int) (b : Nat) (D : Dt) (hD : SetAt w b D) (r : Int) (hr : place l (cf D) = r) :
    Calls Try.prog 56 #[.slice A n cp, .func (Fn.func 46) #[.agg #[.int .i64 t, .map (some b)]] #[]] w fun e w' => e = .returned (.int .i64 r) ∧ Below w.heap.size w w' := by
  have H := Lib.hid h
  have Hl := Lib.hid hl
  have Hr := Lib.hid hr
  have HD := Lib.hid hD
  clear hD
  clear h hl hr
  go_enter Try.func56, Try.ntmps56
  go_wp2_with fail
  go_loopw [8] (fun i wr => ∃ k : Nat, k ≤ n ∧ i = .int .i64 k ∧ Before l (cf D) k ∧ Below w.heap.size w wr) (fun i _ => n - (intOf i).toNat)
  case atStart => exact ⟨0, Nat.zero_le _, rfl, fun j _ h => absurd h (by omega), Below.refl _ _⟩
  case round =>
    obtain ⟨k, hk, rfl, hno, hb⟩ := hrel
    have Hno := Lib.hid hno
    have HB := Lib.hid hb
    clear hno hb
    by_cases hkn : k < n
    · have k0 : (0 : Int) ≤ (k : Int) := by omega
      have k1 : (k : Int) < (n : Int) := by omega
      obtain ⟨g, off, rfl, hg, hc⟩ := (H.out.below HB.out).at_ (by rw [Hl.out]; omega)
      have hkl : k < l.length := by rw [Hl.out]; exact hkn
      obtain ⟨c0, c1⟩ := hc k hkl
      clear hc
      obtain ⟨c, hcc⟩ : ∃ c, l[k] = c := ⟨_, rfl⟩
      rw [hcc] at c0 c1
      have hset : SetAt wr c.blk c.set := (H.out.below HB.out).sets c (by rw [← hcc]; exact List.getElem_mem hkl)
      have Hcc := Lib.hid hcc
      clear hcc
      obtain ⟨ct, cb, cd⟩ := c
      dsimp only at c0 c1 hset
      have Hset := Lib.hid hset
      clear hset
      obtain ⟨pb, hpb⟩ : ∃ b, (cf D) (⟨ct, cb, cd⟩ : Clm) = b := ⟨_, rfl⟩
      have Hpb := Lib.hid hpb
      clear hpb
      go_wp2_with fail
      refine (against_c wr t ct b cb D cd (HD.out.below HB.out) Hset.out pb (by rw [← Hpb.out]; unfold cf; simp)).mono ?_
      rintro e w2 ⟨rfl, hb2⟩
      have HB2 := Lib.hid (Below.then_ HB.out HB.out.size hb2)
      clear hb2 c0 c1
      rcases pb with _ | _
      · go_wp2_with fail
        go_roundw
        case rel => exact ⟨k + 1, by omega, by go_num, fun j hj h => by
          by_cases e : j = k
          · subst e
            rw [Hcc.out]
            exact Hpb.out
          · exact Hno.out j hj (by omega), HB2.out⟩
        case measure => simp [intOf]; omega
      · obtain rfl : (k : Int) = r := by
          rw [← Hr.out]
          exact (place_at hkl (by rw [Hcc.out]; exact Hpb.out) (fun j hj h => Hno.out j hj h)).symm
        go_wp2
        go_ret
        exact ⟨rfl, HB2.out⟩
    · have k1 : ¬ (k : Int) < (n : Int) := by omega
      obtain rfl : -1 = r := by
        rw [← Hr.out]
        exact (place_none (fun c hc => by
          obtain ⟨j, hj, rfl⟩ := List.mem_iff_getElem.1 hc
          exact Hno.out j hj (by have := Hl.out; omega))).symm
      go_wp2
      go_ret
      exact ⟨rfl, HB.out⟩

set_option maxRecDepth 100000 in
theorem find_c (w : World) (A : Option Addr) (n cp : Nat) (l : List Clm) (hl : l.length = n) (hn : n ≤ 1000000) (h : ClmsAt w A l) (t : Int) (r : Int) (hr : place l (fun c => c.task == t) = r) :
    Calls Try.prog 44 #[.slice A n cp, .int .i64 t] w fun e w' => e = .returned (.int .i64 r) ∧ Below w.heap.size w w' := by
  have hb : Below w.heap.size w (w.alloc (.cells #[.int .i64 t] 3)) := (Below.refl _ _).alloc (Nat.le_refl _) _
  have hc := index_find (w.alloc (.cells #[.int .i64 t] 3)) A n cp l hl hn (h.below hb) w.heap.size t (by rw [(Blk.new w 3 #[.int .i64 t]).cell]; rfl) r hr
  have Hc := Lib.hid (And.intro hc hb)
  clear h hl hr hb hc
  go_enter Try.func44, Try.ntmps44
  go_wp2_with fail
  refine Hc.out.1.mono ?_
  rintro e w2 ⟨rfl, hb2⟩
  go_wp2
  go_ret
  exact ⟨rfl, Below.then_ Hc.out.2 Hc.out.2.size hb2⟩

set_option maxRecDepth 100000 in
theorem contains_c (w : World) (A : Option Addr) (n cp : Nat) (l : List Clm) (hl : l.length = n) (hn : n ≤ 1000000) (h : ClmsAt w A l) (t : Int) (b : Nat) (D : Dt) (hD : SetAt w b D) (r : Bool) (hr : l.any (cf D) = r) :
    Calls Try.prog 45 #[.slice A n cp, .func (Fn.func 46) #[.agg #[.int .i64 t, .map (some b)]] #[]] w fun e w' => e = .returned (.bool r) ∧ Below w.heap.size w w' := by
  obtain ⟨i, hi⟩ : ∃ i, place l (cf D) = i := ⟨_, rfl⟩
  have hc := index_against w A n cp l hl hn h t b D hD i hi
  have hd := place_any l (cf D)
  rw [hi, hr] at hd
  have Hc := Lib.hid hc
  have Hd := Lib.hid hd
  clear h hl hr hc hD hi hd
  go_enter Try.func45, Try.ntmps45
  go_wp2_with fail
  refine Hc.out.mono ?_
  rintro e w2 ⟨rfl, hb2⟩
  go_wp2
  go_ret
  exact ⟨by rw [← Hd.out]; rfl, hb2⟩
end Go.Proofs.Ytgcnappgecdldaa.C
