/-
  NetMany: the net, the rows taken and the numbers written, in memory.
-/
import Derived.Test.YtalabfbnbiagiaaM2
import Derived.Test.YtalabfbnbiagiaaCarL
set_option linter.unusedVariables false
set_option linter.unusedSimpArgs false
namespace Go.Proofs.Ytalabfbnbiagiaa.C
open Go.RowKit Go.Proofs.Ytalabfbnbiagiaa.K

/-- Behind the first loop's k - 1 rounds. -/
structure Opn (N : NS) (long k : Nat) : Prop where
  i : N.i = 7
  o : N.o = 5
  mv : N.mv = 0
  cs : ∀ c, 1 ≤ c → c < k → N.cs c = some (cnv (byt c long) (byt (c + 100) long) 0 0 0)
  no : ∀ c, k ≤ c → N.cs c = none
theorem cnv0 (X Y : List Int) : cnv X Y 0 0 0 = ⟨X, [], [], [], false, false⟩ := by simp [cnv]
theorem Opn.new (long : Nat) : Opn (NS.new 7 5) long 1 := ⟨rfl, rfl, rfl, fun c h1 h2 => absurd h2 (by omega), fun c _ => rfl⟩
theorem Opn.open_ {N : NS} {long k : Nat} (O : Opn N long k) (h1 : 1 ≤ k) (h2 : k ≤ 64) : N.open_ (k : Int) = (0, N.put k ⟨[], [], [], [], false, false⟩) := by
  unfold NS.open_
  have e : err N (k : Int) false = 44 := by unfold err; rw [if_neg (by omega), Int.toNat_natCast, O.no k (Nat.le_refl _)]
  rw [if_pos e, Int.toNat_natCast]
theorem Opn.send_ {N : NS} {long k : Nat} (O : Opn N long k) (h1 : 1 ≤ k) (h2 : k ≤ 64) (hl : long ≤ 60) : ((N.put k ⟨[], [], [], [], false, false⟩).send (k : Int) (byt k long)).1 = 0 ∧ Opn ((N.put k ⟨[], [], [], [], false, false⟩).send (k : Int) (byt k long)).2 long (k + 1) := by
  have hC : (N.put k ⟨[], [], [], [], false, false⟩).cs k = some ⟨[], [], [], [], false, false⟩ := NS.put_same _ _ _
  have e : (N.put k ⟨[], [], [], [], false, false⟩).send (k : Int) (byt k long) = (0, (N.put k ⟨[], [], [], [], false, false⟩).put k ⟨byt k long, [], [], [], false, false⟩) := by
    unfold NS.send
    rw [if_pos (err_live ⟨h1, h2⟩ hC rfl rfl _), Int.toNat_natCast, hC]
    dsimp only
    rw [if_pos (by rw [byt_length]; simp; omega)]
    rfl
  rw [e]
  refine ⟨rfl, O.i, O.o, O.mv, fun c c1 c2 => ?_, fun c c1 => ?_⟩
  · by_cases hc : c = k
    · subst hc
      rw [NS.put_same, cnv0]
    · rw [NS.put_other _ _ _ _ hc, NS.put_other _ _ _ _ hc]
      exact O.cs c c1 (by omega)
  · rw [NS.put_other _ _ _ _ (by omega), NS.put_other _ _ _ _ (by omega)]
    exact O.no c (by omega)
theorem Opn.inv {N : NS} {long n : Nat} (O : Opn N long (n + 1)) : Inv N n long 0 n (fun _ => 0) (fun _ => 0) (fun _ => 0) :=
  ⟨O.i, O.o, fun c h1 h2 => O.cs c h1 (by omega), fun c h1 h2 => by rw [if_neg (by omega)]; simp, by rw [O.mv, tot_const (fun _ => 0 + 0) 0 n (fun _ _ _ => rfl)]; simp⟩

structure MW (w0 : World) (g gi go : Nat) (w : World) (σ : Nat → Nat) (N : NS) (n long : Nat) (vi : Nat → Value) (a b : Nat → Nat) : Prop where
  net : NetAt w σ 1000 g N
  st : St w0 σ w
  ri : w.rowIs gi 29 (n + 1) vi
  ti : σ gi = 2
  ro : w.rowIs go 3 (n + 1) (fun c => .int .i64 (b c))
  tt : σ go = 3
  rows : ∀ c, 1 ≤ c → c ≤ n → Row w σ (2000 + c) 5 1 (vi c) (a c) (bs ((byt c long).take (a c)))
section
variable {w0 w w' : World} {g gi go n long : Nat} {σ σ' : Nat → Nat} {N N' : NS} {vi : Nat → Value} {a b : Nat → Nat}
theorem MW.below (h : MW w0 g gi go w σ N n long vi a b) (hb : Below w.heap.size w w') : MW w0 g gi go w' σ N n long vi a b :=
  ⟨h.net.below hb, h.st.below hb, rowc h.ri (Chg.of_below (fun _ => False) σ hb) (fun h => h), h.ti, rowc h.ro (Chg.of_below (fun _ => False) σ hb) (fun h => h), h.tt, fun c h1 h2 => (h.rows c h1 h2).below hb⟩
theorem MW.call (h : MW w0 g gi go w σ N n long vi a b) (h1 : NetAt w' σ' 1000 g N') (c : Chg (Of 1000) σ w σ' w') (hn : n ≤ 64) : MW w0 g gi go w' σ' N' n long vi a b :=
  ⟨h1, h.st.chg c o10, rowc h.ri c (by rw [h.ti]; unfold Of; omega), (c.marks _ h.ri.lt).trans h.ti, rowc h.ro c (by rw [h.tt]; unfold Of; omega), (c.marks _ h.ro.lt).trans h.tt, fun d h1 h2 => (h.rows d h1 h2).chg c (by unfold Of; omega)⟩
/-- Bytes taken are laid behind those of their connection. -/
theorem MW.took (h : MW w0 g gi go w σ N n long vi a b) {c k : Nat} (hc : 1 ≤ c ∧ c ≤ n) {v' : Value} {L : List Int} (hL : bs ((byt c long).take (a c)) ++ bs L = bs ((byt c long).take (a c + k)))
    (ho : w'.ownsRow 0 5 1 v' (a c + k) (bs ((byt c long).take (a c)) ++ bs L)) (hg : w.grownBy w' (vi c).ownBlock) (hat : v'.ownBlock = (vi c).ownBlock ∨ v'.ownBlock = some w.heap.size) :
    MW w0 g gi go (w'.setCell ⟨gi, c, none⟩ v') (K.upd σ w.heap.size (2000 + c)) N n long (fun d => if d = c then v' else vi d) (upf a c (a c + k)) b := by
  have cg := row_chgd (ys := []) (m := 0) (h.rows c hc.1 hc.2) hg
  have hti : K.upd σ w.heap.size (2000 + c) gi = 2 := (cg.marks _ h.ri.lt).trans h.ti
  have htt : K.upd σ w.heap.size (2000 + c) go = 3 := (cg.marks _ h.ro.lt).trans h.tt
  have c2 : Chg (fun x => x = 2) (K.upd σ w.heap.size (2000 + c)) w' (K.upd σ w.heap.size (2000 + c)) (w'.setCell ⟨gi, c, none⟩ v') := (Chg.refl _ _ w').setCell (p := ⟨gi, c, none⟩) (.inl hti) v'
  have hr := row_new (h.rows c hc.1 hc.2) ho hat
  rw [hL] at hr
  refine ⟨(h.net.chg cg (by intro x hx e; unfold Of at hx; omega)).chg c2 (by intro x hx e; unfold Of at hx; omega), (h.st.chg cg (by omega)).chg c2 (by omega), ?_, hti, rowc (rowc h.ro cg (by rw [h.tt]; omega)) c2 (by rw [htt]; omega), htt, fun d h1 h2 => ?_⟩
  · exact (((rowc h.ri cg (by rw [h.ti]; omega)).set c v')).congr (fun i _ => rfl)
  · by_cases e : d = c
    · subst e
      simp only [if_true]
      rw [upf_same]
      exact hr.chg c2 (by omega)
    · simp only [e, if_false]
      rw [upf_other _ _ _ _ e]
      exact ((h.rows d h1 h2).chg cg (by omega)).chg c2 (by omega)
theorem MW.wrote (h : MW w0 g gi go w σ N n long vi a b) (c x : Nat) : MW w0 g gi go (w.setCell ⟨go, c, none⟩ (.int .i64 x)) σ N n long vi a (upf b c x) := by
  have c2 : Chg (fun x => x = 3) σ w σ (w.setCell ⟨go, c, none⟩ (.int .i64 x)) := (Chg.refl _ _ w).setCell (p := ⟨go, c, none⟩) (.inl h.tt) _
  refine ⟨h.net.chg c2 (by intro x hx e; unfold Of at hx; omega), h.st.chg c2 (by omega), rowc h.ri c2 (by rw [h.ti]; omega), h.ti, (h.ro.set c (.int .i64 x)).congr (fun i _ => ?_), h.tt, fun d h1 h2 => (h.rows d h1 h2).chg c2 (by omega)⟩
  unfold upf
  by_cases e : i = c
  · rw [if_pos e, if_pos e]
  · rw [if_neg e, if_neg e]
theorem MW.new (hN : NetAt w σ 1000 g N) (hst : St w0 σ w) (n long : Nat) (hb : Below w.heap.size w w') (gi go : Nat) (h1 : w.heap.size ≤ gi) (h2 : gi < go) (hri : w'.rowIs gi 29 (n + 1) (fun _ => .slice none 0 0)) (hro : w'.rowIs go 3 (n + 1) (fun _ => .int .i64 0)) :
    MW w0 g gi go w' (K.upd (K.upd σ w.heap.size 2) go 3) N n long (fun _ => .slice none 0 0) (fun _ => 0) (fun _ => 0) := by
  have c0 := ((Chg.of_below (fun _ => False) σ hb).upd (Nat.le_refl _) 2).upd (n := go) (by omega) 3
  exact ⟨hN.chg c0 (fun _ _ h => h), hst.chg c0 (fun h => h), hri, by rw [upd_old h2, upd_new h1], hro, upd_new (Nat.le_refl _), fun c _ _ => by rw [List.take_zero]; exact Row.nil _ _ _ _ _⟩
end
end Go.Proofs.Ytalabfbnbiagiaa.C
