/-
  A box's put and take.
-/
import Derived.Test.YtapninpdjccglaaF3
import Derived.Deep.DeepCutAuto
set_option linter.unusedVariables false
set_option linter.unusedSimpArgs false
namespace Go.Proofs.Ytapninpdjccglaa.C
open Go.RowKit Go.Proofs.Ytapninpdjccglaa.K

theorem mod_two {a m : Nat} (hm : 0 < m) (h : a < 2 * m) : a % m = if a < m then a else a - m := by
  by_cases hl : a < m
  · rw [if_pos hl, Nat.mod_eq_of_lt hl]
  · rw [if_neg hl, Nat.mod_eq_sub_mod (by omega), Nat.mod_eq_of_lt (by omega)]
theorem mod_ne {f k l m : Nat} (hf : f < m) (hk : k < l) (hl : l < m) : (f + k) % m ≠ (f + l) % m := by
  rw [mod_two (by omega) (by omega), mod_two (by omega) (by omega)]
  split <;> split <;> omega

theorem far_cell (W : World) (G o : Nat) (vs : List Value) (a : Addr) (hne : ¬ a.block = G) : ((W.setCells G o vs).drew).cell? a = W.cell? a := by
  rw [World.cell?_drew]
  exact World.cell?_setCells_out _ _ _ _ _ (fun e => absurd e hne)
theorem far_frozen (W : World) (G o : Nat) (vs : List Value) (a : Addr) : ((W.setCells G o vs).drew).frozen? a = W.frozen? a := by
  rw [World.frozen?_drew]
  exact World.frozen?_setCells _ _ _ _ _
theorem setCells5 (W : World) (G o : Nat) (a b c d e : Value) : W.setCells G o [a, b, c, d, e] = ((((W.setCell ⟨G, o, none⟩ a).setCell ⟨G, o + 1, none⟩ b).setCell ⟨G, o + 2, none⟩ c).setCell ⟨G, o + 3, none⟩ d).setCell ⟨G, o + 4, none⟩ e := by
  simp only [World.setCells, Nat.add_assoc, Nat.reduceAdd]
theorem setCells4 (W : World) (G o : Nat) (a b c d : Value) : W.setCells G o [a, b, c, d] = (((W.setCell ⟨G, o, none⟩ a).setCell ⟨G, o + 1, none⟩ b).setCell ⟨G, o + 2, none⟩ c).setCell ⟨G, o + 3, none⟩ d := by
  simp only [World.setCells, Nat.add_assoc, Nat.reduceAdd]
def over (o : Nat) (vs : List Value) (f : Nat → Value) : Nat → Value := fun k => if o ≤ k ∧ k < o + vs.length then vs.getD (k - o) undef else f k
theorem over_in {o k : Nat} {vs : List Value} {f : Nat → Value} {v : Value} (h : vs[k]? = some v) : over o vs f (o + k) = v := by
  have hl := (List.getElem?_eq_some_iff.1 h).1
  unfold over
  rw [if_pos (by omega), Nat.add_sub_cancel_left, List.getD_eq_getElem?_getD, h]
  rfl
theorem over_out {o k : Nat} {vs : List Value} {f : Nat → Value} (h : k < o ∨ o + vs.length ≤ k) : over o vs f k = f k := by
  unfold over
  rw [if_neg (by omega)]
theorem row_setCells {b : Nat} {ty : TypeId} {n : Nat} : ∀ (vs : List Value) (o : Nat) (w : World) (f : Nat → Value), w.rowIs b ty n f → (w.setCells b o vs).rowIs b ty n (over o vs f)
  | [], o, w, f, h => h.congr fun i _ => by unfold over; rw [if_neg (by simp)]
  | v :: r, o, w, f, h => by
    rw [World.setCells]
    refine (row_setCells r (o + 1) _ _ (h.set o v)).congr fun i _ => ?_
    unfold over
    simp only [List.length_cons]
    by_cases h1 : i = o
    · subst h1
      rw [if_neg (by omega), if_pos rfl, if_pos (by omega), Nat.sub_self]
      rfl
    · by_cases h2 : o + 1 ≤ i ∧ i < o + 1 + r.length
      · rw [if_pos h2, if_pos (by omega), show i - o = (i - (o + 1)) + 1 by omega, List.getD_cons_succ]
      · rw [if_neg h2, if_neg h1, if_neg (by omega)]

/-- One queue, one box told anew. -/
def FS.putq (F : FS) (i : Nat) (L : List It) : FS := { F with q := fun k => if k = i then L else F.q k }
def FS.putto (F : FS) (i : Nat) (n : Nat) : FS := ⟨F.s, F.o, F.m, F.q, fun k => if k = i then n else F.to k, F.b⟩
def FS.putb (F : FS) (j : Nat) (L : List Ms) : FS := { F with b := fun k => if k = j then L else F.b k }

section
variable {w w' : World} {σ σ' : Nat → Nat} {t g : Nat} {F : FS} {gq gb : Nat} {qv : Nat → Value} {fi gr : Nat → Nat} {rc : Nat → Nat → Value} {S : Nat → Prop}
theorem FlowIn.ne_b (h : FlowIn w σ t g F gq gb qv fi gr rc) {j : Nat} (hj : j < F.o) : gr j ≠ gb := by
  intro e
  have h1 := h.tr j hj
  have h2 := h.tb
  rw [e] at h1
  omega
theorem FlowIn.ring_at (h : FlowIn w σ t g F gq gb qv fi gr rc) {j : Nat} (hj : j < F.o) {r c : Nat} (hr : r < F.m) (hc : c < 5) : w.cell? ⟨gr j, r * 5 + c, none⟩ = some (rc j (r * 5 + c)) := (h.ring j hj).cell (by omega)

/-- What changes when a box is told anew: its ring, its two numbers. -/
theorem FlowIn.box (h : FlowIn w σ t g F gq gb qv fi gr rc) {j : Nat} (hj : j < F.o) (o : Nat) (vs : List Value) (f n : Nat) (hf : f < F.m) (L : List Ms) (hL : L.length = n) (hn : n ≤ F.m)
    (hb : w'.rowIs gb 62 (3 * F.o) (bCells F.m (fun k => if k = j then n else (F.b k).length) (fun k => if k = j then f else fi k) gr)) (hr : w'.rowIs (gr j) 83 (5 * F.m) (over o vs (rc j)))
    (c : Chg (fun x => x = t + 3 + j ∨ x = t + 2) σ w σ w')
    (has : ∀ k x, L[k]? = some x → ∀ c v, (ms x)[c]? = some v → over o vs (rc j) ((f + k) % F.m * 5 + c) = v) :
    FlowIn w' σ t g (F.putb j L) gq gb qv (fun k => if k = j then f else fi k) gr (fun k => if k = j then over o vs (rc j) else rc k) := by
  have hg := h.good
  have ho := hg.o2
  refine ⟨⟨hg.s1, hg.s2, hg.o1, hg.o2, hg.m1, hg.m2, hg.to, hg.q, fun k hk => ?_⟩, h.blk.chg c (by omega), row_chg h.rq c (by rw [h.tq]; omega), h.tq, ?_, h.tb, fun k hk => ?_, h.tr, fun i hi => (h.qs i hi).chg c (by omega), fun k hk => ?_, fun k hk i x hx => ?_⟩
  · show ((if k = j then L else F.b k).length) ≤ F.m
    split
    · omega
    · exact hg.b k hk
  · refine hb.congr fun i _ => ?_
    have e : (fun k => if k = j then n else (F.b k).length) = fun k => ((F.putb j L).b k).length := by
      funext k
      show (if k = j then n else (F.b k).length) = (if k = j then L else F.b k).length
      split
      · exact hL.symm
      · rfl
    rw [e]
    rfl
  · by_cases hkj : k = j
    · subst hkj
      simp only [if_true]
      exact hr
    · simp only [hkj, if_false]
      exact row_chg (h.ring k hk) c (by rw [h.tr k hk]; omega)
  · show (if k = j then f else fi k) < F.m
    split
    · exact hf
    · exact h.fim k hk
  · by_cases hkj : k = j
    · subst hkj
      have hx' : L[i]? = some x := by simpa [FS.putb] using hx
      simp only [if_true]
      exact has i x hx'
    · have hx' : (F.b k)[i]? = some x := by simpa [FS.putb, hkj] using hx
      simp only [hkj, if_false]
      exact h.has k hk i x hx'
end

theorem ms_lt {x : Ms} {c : Nat} {v : Value} (h : (ms x)[c]? = some v) : c < 5 := by
  have := (List.getElem?_eq_some_iff.1 h).1
  simpa [ms, it] using this
theorem bCells_len {m : Nat} {len fi gr : Nat → Nat} {j n f i : Nat} (hf : fi j = f) :
    (fun k => if k = j * 3 + 2 then Value.int .i64 ((n : Nat) : Int) else bCells m len fi gr k) i = bCells m (fun k => if k = j then n else len k) (fun k => if k = j then f else fi k) gr i := by
  unfold bCells
  by_cases h0 : i % 3 = 0
  · simp only [h0, if_true]
    rw [if_neg (by omega)]
  · by_cases h1 : i % 3 = 1
    · simp only [h1, if_true]
      rw [if_neg (by omega)]
      simp only [Nat.one_ne_zero, if_false]
      by_cases hj : i / 3 = j
      · rw [if_pos hj, hj, hf]
      · rw [if_neg hj]
    · simp only [h0, h1, if_false]
      by_cases hj : i / 3 = j
      · rw [if_pos hj, if_pos (by omega)]
      · rw [if_neg hj, if_neg (by omega)]
theorem row_below {w w' : World} {b : Nat} {ty : TypeId} {n : Nat} {f : Nat → Value} (h : w.rowIs b ty n f) (hb : Below w.heap.size w w') : w'.rowIs b ty n f := h.of_block (hb.block b h.lt)
theorem row_far {w : World} {b : Nat} {ty : TypeId} {n : Nat} {f : Nat → Value} (h : w.rowIs b ty n f) {G o : Nat} {vs : List Value} (hne : b ≠ G) : (w.setCells G o vs).rowIs b ty n f := h.of_block ((grown_setCells w G o vs).block b h.lt (by simpa using hne))

set_option maxRecDepth 100000 in
set_option maxHeartbeats 1600000 in
theorem put_c (w : World) (σ : Nat → Nat) (t g : Nat) (F : FS) (gq gb : Nat) (qv : Nat → Value) (fi gr : Nat → Nat) (rc : Nat → Nat → Value) (h : FlowIn w σ t g F gq gb qv fi gr rc) (j : Nat) (hj : j < F.o) (hroom : (F.b j).length < F.m) (x : Ms) :
    Calls Try.prog 35 #[.pointer (some ⟨gb, j * 3, none⟩), .agg #[.int .i64 x.src, .bool x.item.mark, .string x.item.key, .int .i64 x.item.time, .int .i64 x.item.value]] w fun e w' => e = .returned (.tuple #[]) ∧
      (∃ fi' rc', FlowIn w' σ t g (F.putb j (F.b j ++ [x])) gq gb qv fi' gr rc') ∧ Chg (fun x => x = t + 3 + j ∨ x = t + 2) σ w σ w' := by
  have hb0 := h.b0 hj
  have hb1 := h.b1 hj
  have hb2 := h.b2 hj
  have hfm := h.fim j hj
  have hm2 := h.good.m2
  obtain ⟨n, hn⟩ : ∃ n, (F.b j).length = n := ⟨_, rfl⟩
  obtain ⟨f, hf⟩ : ∃ f, fi j = f := ⟨_, rfl⟩
  obtain ⟨m, hm⟩ : ∃ m, F.m = m := ⟨_, rfl⟩
  obtain ⟨r, hr⟩ : ∃ r, (f + n) % m = r := ⟨_, rfl⟩
  obtain ⟨G, hG⟩ : ∃ G, gr j = G := ⟨_, rfl⟩
  rw [hn] at hb2 hroom
  rw [hf] at hb1 hfm
  rw [hm] at hb0 hroom hfm hm2
  rw [hG] at hb0
  have hrm : r < m := by rw [← hr]; exact Nat.mod_lt _ (by omega)
  have c0 := h.ring_at hj (r := r) (c := 0) (by omega) (by omega)
  have c1 := h.ring_at hj (r := r) (c := 1) (by omega) (by omega)
  have c2 := h.ring_at hj (r := r) (c := 2) (by omega) (by omega)
  have c3 := h.ring_at hj (r := r) (c := 3) (by omega) (by omega)
  have c4 := h.ring_at hj (r := r) (c := 4) (by omega) (by omega)
  have fr := (h.ring j hj).frozen
  have fb := h.rb.frozen (j * 3 + 2)
  have hne := h.ne_b hj
  rw [hG] at c0 c1 c2 c3 c4 fr hne
  rw [Nat.add_zero] at c0
  have f0 := fr (r * 5)
  have f1 := fr (r * 5 + 1)
  have f2 := fr (r * 5 + 2)
  have f3 := fr (r * 5 + 3)
  have f4 := fr (r * 5 + 4)
  have hlt := h.rb.lt
  have hltr := (h.ring j hj).lt
  rw [hG] at hltr
  have hne' : ¬ gb = G := fun e => hne e.symm
  have hne2 : ¬ G = gb := hne
  have hw1 : IntKind.i64.wrap ((f : Int) + (n : Int)) = (f : Int) + (n : Int) := by rw [IntKind.wrap_i64]; omega
  have hmod : ((f : Int) + (n : Int)).tmod (m : Int) = (r : Int) := by
    rw [Int.tmod_eq_emod_of_nonneg (by omega), ← hr, Int.natCast_emod, Int.natCast_add]
  have r0 : (0 : Int) ≤ (r : Int) := by omega
  have r1 : (r : Int) < (m : Int) := by omega
  have m0 : ¬ ((m : Int) = 0) := by omega
  have H := Lib.hid h
  have Hq := Lib.hid (And.intro hn (And.intro hf (And.intro hm (And.intro hr hG))))
  have hn64 : n ≤ 64 := by omega
  have Hj := Lib.hid (And.intro hj (And.intro hfm (show n + 1 ≤ m by omega)))
  clear h hn hf hm hr hG hne fr hj hroom hfm hm2 hrm
  go_enter Try.func35, Try.ntmps35
  go_upto_region 1 with fail
  obtain ⟨gm, hgm⟩ : ∃ gm, w.heap.size = gm := ⟨_, rfl⟩
  have e := Blk.new w 83 #[.int .i64 x.src, .bool x.item.mark, .string x.item.key, .int .i64 x.item.time, .int .i64 x.item.value]
  have hB : Below w.heap.size w (w.alloc (.cells #[.int .i64 x.src, .bool x.item.mark, .string x.item.key, .int .i64 x.item.time, .int .i64 x.item.value] 83)) := (Below.refl _ _).alloc (Nat.le_refl _) _
  rw [hgm] at e
  have e0 := e.cell 0
  have e1 := e.cell 1
  have e2 := e.cell 2
  have e3 := e.cell 3
  have e4 := e.cell 4
  rw [show (#[Value.int .i64 x.src, .bool x.item.mark, .string x.item.key, .int .i64 x.item.time, .int .i64 x.item.value] : Array Value)[0]? = some (.int .i64 x.src) from rfl] at e0
  rw [show (#[Value.int .i64 x.src, .bool x.item.mark, .string x.item.key, .int .i64 x.item.time, .int .i64 x.item.value] : Array Value)[1]? = some (.bool x.item.mark) from rfl] at e1
  rw [show (#[Value.int .i64 x.src, .bool x.item.mark, .string x.item.key, .int .i64 x.item.time, .int .i64 x.item.value] : Array Value)[2]? = some (.string x.item.key) from rfl] at e2
  rw [show (#[Value.int .i64 x.src, .bool x.item.mark, .string x.item.key, .int .i64 x.item.time, .int .i64 x.item.value] : Array Value)[3]? = some (.int .i64 x.item.time) from rfl] at e3
  rw [show (#[Value.int .i64 x.src, .bool x.item.mark, .string x.item.key, .int .i64 x.item.time, .int .i64 x.item.value] : Array Value)[4]? = some (.int .i64 x.item.value) from rfl] at e4
  rw [hgm]
  generalize w.alloc (.cells #[.int .i64 x.src, .bool x.item.mark, .string x.item.key, .int .i64 x.item.time, .int .i64 x.item.value] 83) = W at *
  have hb0 := (hB.cell (p := ⟨gb, j * 3, none⟩) hlt).trans hb0
  have hb1 := (hB.cell (p := ⟨gb, j * 3 + 1, none⟩) hlt).trans hb1
  have hb2 := (hB.cell (p := ⟨gb, j * 3 + 2, none⟩) hlt).trans hb2
  have c0 := (hB.cell (p := ⟨G, r * 5, none⟩) hltr).trans c0
  have c1 := (hB.cell (p := ⟨G, r * 5 + 1, none⟩) hltr).trans c1
  have c2 := (hB.cell (p := ⟨G, r * 5 + 2, none⟩) hltr).trans c2
  have c3 := (hB.cell (p := ⟨G, r * 5 + 3, none⟩) hltr).trans c3
  have c4 := (hB.cell (p := ⟨G, r * 5 + 4, none⟩) hltr).trans c4
  have fb := (hB.frozen (p := ⟨gb, j * 3 + 2, none⟩) hlt).trans fb
  have f0 := (hB.frozen (p := ⟨G, r * 5, none⟩) hltr).trans f0
  have f1 := (hB.frozen (p := ⟨G, r * 5 + 1, none⟩) hltr).trans f1
  have f2 := (hB.frozen (p := ⟨G, r * 5 + 2, none⟩) hltr).trans f2
  have f3 := (hB.frozen (p := ⟨G, r * 5 + 3, none⟩) hltr).trans f3
  have f4 := (hB.frozen (p := ⟨G, r * 5 + 4, none⟩) hltr).trans f4
  clear e
  have hgm1 : ¬ gm = G := by omega
  have hgm2 : ¬ G = gm := by omega
  have HB := Lib.hid hB
  have Hgm := Lib.hid hgm
  clear hB hgm
  have m0n : ¬ m = 0 := by omega
  have m0b : ((m : Int) == 0) = false := by simpa using m0n
  go_cut [] (fun w' => Hid (w' = (W.setCells G (r * 5) (ms x)).drew) ∧ w'.cell? ⟨gb, j * 3 + 2, none⟩ = some (.int .i64 n) ∧ w'.frozen? ⟨gb, j * 3 + 2, none⟩ = false)
  case first =>
    go_region_held3 (fun w' => w'.cell? ⟨gb, j * 3, none⟩ = some (.slice (some ⟨G, 0, none⟩) m m) ∧ w'.cell? ⟨gb, j * 3 + 1, none⟩ = some (.int .i64 f) ∧ w'.cell? ⟨gb, j * 3 + 2, none⟩ = some (.int .i64 n) ∧
        w'.cell? ⟨gm, 0, none⟩ = some (.int .i64 x.src) ∧ w'.cell? ⟨gm, 1, none⟩ = some (.bool x.item.mark) ∧ w'.cell? ⟨gm, 2, none⟩ = some (.string x.item.key) ∧ w'.cell? ⟨gm, 3, none⟩ = some (.int .i64 x.item.time) ∧ w'.cell? ⟨gm, 4, none⟩ = some (.int .i64 x.item.value)) (go_keep) (fail)
    go_wp2_with fail
    go_meet
    case rel =>
      have z1 := (far_cell W G (r * 5) (ms x) ⟨gb, j * 3 + 2, none⟩ hne').trans hb2
      have z2 := (far_frozen W G (r * 5) (ms x) ⟨gb, j * 3 + 2, none⟩).trans fb
      simp only [ms, it, setCells5] at z1 z2
      exact ⟨Lib.hid (by rw [ms, it, setCells5]), z1, z2⟩
  case rest =>
    obtain ⟨hwc, k1, k2⟩ := hcut
    have hwn : IntKind.i64.wrap ((n : Int) + 1) = (n : Int) + 1 := by rw [IntKind.wrap_i64]; omega
    clear hb0 hb1 hb2 c0 c1 c2 c3 c4 fb f0 f1 f2 f3 f4 e0 e1 e2 e3 e4
    go_wp2
    go_end0
    obtain ⟨hn, hf, hm, hr, hG⟩ := Hq.out
    have h := H.out
    have hjo : j < F.o := Hj.out.1
    have hbl := HB.out
    have hchg : Chg (fun x => x = t + 3 + j ∨ x = t + 2) σ w σ (wc.setCell ⟨gb, j * 3 + 2, none⟩ (.int .i64 ((n : Int) + 1))) := by
      have h1 := (Chg.of_below (fun x => x = t + 3 + j ∨ x = t + 2) σ hbl).grown (grown_setCells W G (r * 5) (ms x)) (fun q hq => by cases hq; left; left; rw [← hG]; exact h.tr j hjo)
      have h2 := (h1.drewN 1).setCell (p := ⟨gb, j * 3 + 2, none⟩) (.inl (.inr h.tb)) (.int .i64 ((n : Int) + 1))
      have h3 : (W.setCells G (r * 5) (ms x)).drewN 1 = wc := by rw [hwc.out]; rfl
      rw [h3] at h2
      exact h2
    refine ⟨rfl, ⟨_, _, FlowIn.box h hjo (r * 5) (ms x) f (n + 1) (by rw [hm]; exact Hj.out.2.1) _ (by rw [List.length_append, hn]; rfl) (by rw [hm]; exact Hj.out.2.2) ?_ ?_ ?_ ?_⟩, ?_⟩
    · have h1 := row_far (row_below h.rb hbl) (G := G) (o := r * 5) (vs := ms x) hne'
      have h2 := (h1.drew).set (j * 3 + 2) (.int .i64 (((n + 1 : Nat)) : Int))
      rw [← hwc.out] at h2
      have h3 := h2.congr (fun i _ => bCells_len (m := F.m) (len := fun j => (F.b j).length) (fi := fi) (gr := gr) (j := j) (n := n + 1) (f := f) (i := i) hf)
      exact h3
    · have h1 := row_setCells (ms x) (r * 5) W (rc j) (by have := row_below (h.ring j hjo) hbl; rw [hG] at this; exact this)
      have h2 := (h1.drew).setOther (a := ⟨gb, j * 3 + 2, none⟩) hne2 (.int .i64 ((n : Int) + 1))
      rw [← hwc.out] at h2
      rw [hG]
      exact h2
    · exact hchg
    · intro k x' hx' c v hv
      have hc5 := ms_lt hv
      rw [hm]
      by_cases hk : k < n
      · rw [List.getElem?_append_left (by omega)] at hx'
        have h1 := h.has j hjo k x' hx' c v hv
        rw [hf, hm] at h1
        have h2 : (f + k) % m ≠ r := by rw [← hr]; exact mod_ne Hj.out.2.1 hk (by have := Hj.out.2.2; omega)
        rw [over_out (by simp [ms, it]; omega)]
        exact h1
      · rw [List.getElem?_append_right (by omega), hn] at hx'
        obtain rfl : k = n := by
          have := (List.getElem?_eq_some_iff.1 hx').1
          simp at this
          omega
        rw [Nat.sub_self] at hx'
        obtain rfl : x = x' := by simpa using hx'
        rw [hr]
        exact over_in hv
    · exact hchg
end Go.Proofs.Ytapninpdjccglaa.C
