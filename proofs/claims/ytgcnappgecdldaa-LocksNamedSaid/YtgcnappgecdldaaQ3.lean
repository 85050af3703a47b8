/-
  Locks: counts; steps of managers in memory beside others.
-/
import Derived.Test.YtgcnappgecdldaaQ2
set_option linter.unusedVariables false
set_option linter.unusedSimpArgs false
namespace Go.Proofs.Ytgcnappgecdldaa.C
open Go.RowKit Go.Proofs.Ytgcnappgecdldaa.K Go.Maps

/-- Sets that hold the same locks alike. -/
def Same (D D' : Dt) : Prop := ∀ x, how D x = how D' x
def idt (t : Int) : Int := t
theorem idt_inj : ∀ a b, idt a = idt b → a = b := fun _ _ h => h
theorem same_keeps : Keeps Same := fun D D' E E' h k => by
  unfold conf
  simp only [h _, k _]
theorem same_held {D D' : Dt} (h : Same D D') : ∀ k, held D k = held D' k
  | 0 => rfl
  | k + 1 => by
    show (if how D k ≠ 0 then held D k ++ [((k : Int), how D k == 1)] else held D k) = (if how D' k ≠ 0 then held D' k ++ [((k : Int), how D' k == 1)] else held D' k)
    rw [h, same_held h k]
theorem tasks_num (l : List Clm) : tasks l = (l.map (·.task)).map (Value.int .i64) := by simp [tasks]
theorem thr_out_le (M : Mgr) : M.thr.out.length ≤ M.queue.length := (M.run_len M.queue.length (Nat.le_refl _)).2
section
variable {M N : Mgr} {t : Int} {L : List (Int × Bool)} {w : World} {b : Bool} {v : Value} {out : List Clm}
theorem AskR.cnt (h : AskR M t L w b v N) : N.cnt ≤ M.cnt + 1 ∧ N.m = M.m := by
  cases h with
  | arg v _ _ => exact ⟨Nat.le_succ _, rfl⟩
  | held v _ _ _ _ => exact ⟨Nat.le_succ _, rfl⟩
  | ok c _ _ _ _ _ =>
    have := (put_perm M (M.stops c) c).length_eq
    rw [Mgr.cnt_all, List.length_cons, Mgr.cnt_all] at this
    exact ⟨Nat.le_of_eq this, put_m _ _ _⟩
theorem FreeR.cnt (h : FreeR M t w v out N) : N.cnt ≤ M.cnt ∧ N.m = M.m ∧ out.length ≤ M.cnt := by
  cases h with
  | no v _ _ => exact ⟨Nat.le_refl _, rfl, Nat.zero_le _⟩
  | ok i hi _ _ =>
    rw [Mgr.pass_cnt]
    have := M.delHas_cnt i hi
    refine ⟨by omega, rfl, Nat.le_trans (thr_out_le _) ?_⟩
    show M.queue.length ≤ M.has.length + M.queue.length
    omega
theorem Quits.cnt (h : Quits M t N out) : N.cnt ≤ M.cnt ∧ N.m = M.m ∧ out.length ≤ M.cnt := by
  rcases h with ⟨i, hi, _, rfl, rfl⟩ | ⟨_, i, hi, _, rfl, rfl⟩ | ⟨_, _, rfl, rfl⟩
  · rw [Mgr.pass_cnt]
    have := M.delHas_cnt i hi
    refine ⟨by omega, rfl, Nat.le_trans (thr_out_le _) ?_⟩
    show M.queue.length ≤ M.has.length + M.queue.length
    omega
  · rw [Mgr.pass_cnt]
    have := M.delQueue_cnt i hi
    refine ⟨by omega, rfl, Nat.le_trans (thr_out_le _) ?_⟩
    show (M.queue.eraseIdx i).length ≤ M.has.length + M.queue.length
    have := List.length_eraseIdx_le M.queue i
    omega
  · exact ⟨Nat.le_refl _, rfl, Nat.zero_le _⟩
theorem PM.cnt {φ : Int → Int} {R : Dt → Dt → Prop} {M' : Mgr} (h : PM φ R M M') : M'.cnt = M.cnt := by
  unfold Mgr.cnt
  rw [h.has.len, h.queue.len]
end

/-- Three managers: the first and the third go alike. -/
structure Ow (w0 wr : World) (σ : Nat → Nat) (ga gb gc : Nat) (m : Int) (A B C : Mgr) (k : Nat) : Prop where
  ma : MgrAt wr σ 1000 ga A
  mb : MgrAt wr σ 2000 gb B
  mc : MgrAt wr σ 3000 gc C
  pm : PM idt Same A C
  st : St w0 σ wr
  mm : A.m = m
  mbm : B.m = m
  ka : A.cnt ≤ k
  kb : B.cnt ≤ k
section
variable {w0 wr w' : World} {σ σ' : Nat → Nat} {ga gb gc k : Nat} {m : Int} {A B C : Mgr} {S : Nat → Prop}
theorem Ow.kc (h : Ow w0 wr σ ga gb gc m A B C k) : C.cnt ≤ k := by rw [h.pm.cnt]; exact h.ka
/-- What is neither old nor a manager's may change. -/
theorem Ow.chg (h : Ow w0 wr σ ga gb gc m A B C k) (c : Chg S σ wr σ' w') (hs : ∀ x, S x → 0 < x ∧ x < 1000) : Ow w0 w' σ' ga gb gc m A B C k :=
  ⟨h.ma.chg c (fun x hx hn => by have := hs x hn; unfold Om at hx; omega), h.mb.chg c (fun x hx hn => by have := hs x hn; unfold Om at hx; omega), h.mc.chg c (fun x hx hn => by have := hs x hn; unfold Om at hx; omega), h.pm, h.st.chg c (fun hn => by have := hs 0 hn; omega), h.mm, h.mbm, h.ka, h.kb⟩
theorem Ow.below (h : Ow w0 wr σ ga gb gc m A B C k) (hb : Below wr.heap.size wr w') : Ow w0 w' σ ga gb gc m A B C k := h.chg (Chg.of_below (fun _ => False) σ hb) (fun _ h => h.elim)
theorem Ow.upd (h : Ow w0 wr σ ga gb gc m A B C k) {n : Nat} (hn : wr.heap.size ≤ n) (x : Nat) : Ow w0 wr (K.upd σ n x) ga gb gc m A B C k := h.chg ((Chg.refl (fun _ => False) σ wr).upd hn x) (fun _ h => h.elim)
theorem Ow.more (h : Ow w0 wr σ ga gb gc m A B C k) {k' : Nat} (hk : k ≤ k') : Ow w0 wr σ ga gb gc m A B C k' := ⟨h.ma, h.mb, h.mc, h.pm, h.st, h.mm, h.mbm, Nat.le_trans h.ka hk, Nat.le_trans h.kb hk⟩
/-- The first has stepped, and the third, alike. -/
theorem Ow.both {σ1 : Nat → Nat} {w1 : World} {A' C' : Mgr} {k' : Nat} (h : Ow w0 wr σ ga gb gc m A B C k) (c : Chg (Om 1000) σ wr σ1 w1) (c' : Chg (Om 3000) σ1 w1 σ' w') (ha : MgrAt w1 σ1 1000 ga A') (hc : MgrAt w' σ' 3000 gc C') (hp : PM idt Same A' C') (hm : A'.m = A.m) (hk : A'.cnt ≤ k') (hkk : k ≤ k') :
    Ow w0 w' σ' ga gb gc m A' B C' k' :=
  ⟨ha.chg c' (fun x hx => by unfold Om at *; omega), (h.mb.chg c (fun x hx => by unfold Om at *; omega)).chg c' (fun x hx => by unfold Om at *; omega), hc, hp, (h.st.chg c (by unfold Om; omega)).chg c' (by unfold Om; omega), hm.trans h.mm, h.mbm, hk, Nat.le_trans h.kb hkk⟩
/-- The second has stepped. -/
theorem Ow.other {B' : Mgr} {k' : Nat} (h : Ow w0 wr σ ga gb gc m A B C k) (c : Chg (Om 2000) σ wr σ' w') (hb : MgrAt w' σ' 2000 gb B') (hm : B'.m = B.m) (hk : B'.cnt ≤ k') (hkk : k ≤ k') : Ow w0 w' σ' ga gb gc m A B' C k' :=
  ⟨h.ma.chg c (fun x hx => by unfold Om at *; omega), hb, h.mc.chg c (fun x hx => by unfold Om at *; omega), h.pm, h.st.chg c (by unfold Om; omega), h.mm, hm.trans h.mbm, Nat.le_trans h.ka hkk, hk⟩
end
theorem LSt.ok.chg0 {w0 w wr : World} {σ : Nat → Nat} {s : LSt} (h : s.ok w0) (st : St w0 σ wr) : s.ok wr := h.below st.bel
end Go.Proofs.Ytgcnappgecdldaa.C
