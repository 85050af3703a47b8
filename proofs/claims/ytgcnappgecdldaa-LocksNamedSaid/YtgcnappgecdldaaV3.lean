/-
  Locks: LocksNamed's state: two managers, one under other numbers.
-/
import Derived.Test.YtgcnappgecdldaaV2
import Derived.Test.YtgcnappgecdldaaW3
set_option linter.unusedVariables false
set_option linter.unusedSimpArgs false
namespace Go.Proofs.Ytgcnappgecdldaa.C
open Go.RowKit Go.Proofs.Ytgcnappgecdldaa.K Go.Maps

theorem TS.go_out (l : List Clm) : ∀ s : TS, ∀ c ∈ (s.go l).out, c ∈ s.out ∨ c ∈ l := by
  induction l with
  | nil => intro s c hc; exact .inl hc
  | cons d r ih =>
    intro s c hc
    rcases ih _ c hc with h | h
    · rcases hs : s.stops d with _ | _
      · rw [TS.step_no hs] at h
        rcases List.mem_append.1 h with h | h
        · exact .inl h
        · simp at h; subst h; exact .inr (List.mem_cons_self ..)
      · rw [TS.step_yes hs] at h
        exact .inl h
    · exact .inr (List.mem_cons_of_mem _ h)
theorem thr_out_mem (M : Mgr) : ∀ c ∈ M.thr.out, c ∈ M.queue := fun c hc => by
  rcases TS.go_out _ _ c hc with h | h
  · simp at h
  · exact List.mem_of_mem_take h
section
variable {M N : Mgr} {t : Int} {L : List (Int × Bool)} {w : World} {b : Bool} {v : Value} {out : List Clm}
theorem AskR.sub (h : AskR M t L w b v N) : ∀ c ∈ N.all, c ∈ M.all ∨ (c.task = t ∧ 0 ≤ t) := by
  cases h with
  | arg v _ _ => exact fun c h => .inl h
  | held v _ _ _ _ => exact fun c h => .inl h
  | ok d hd _ h0 _ _ =>
    intro c hc
    rcases List.mem_cons.1 ((put_perm M (M.stops d) d).mem_iff.1 hc) with rfl | h
    · exact .inr ⟨hd, h0⟩
    · exact .inl h
theorem AskR.val (h : AskR M t L w b v N) : v = .nilIface ∨ ∃ pb, v = .iface 82 (.pointer (some ⟨pb, 0, none⟩)) := by
  cases h with
  | arg v hr _ => obtain ⟨pb, e, _⟩ := hr; exact .inr ⟨pb, e⟩
  | held v hr _ _ _ => obtain ⟨pb, e, _⟩ := hr; exact .inr ⟨pb, e⟩
  | ok _ _ _ _ _ _ => exact .inl rfl
theorem FreeR.sub (h : FreeR M t w v out N) : (∀ c ∈ N.all, c ∈ M.all) ∧ (∀ c ∈ out, c ∈ M.all) := by
  cases h with
  | no v _ _ => exact ⟨fun c h => h, fun c h => by simp at h⟩
  | ok i hi _ _ => exact ⟨fun c hc => (M.delHas_sub i).mem ((M.delHas i).pass_perm.mem_iff.1 hc), fun c hc => List.mem_append_right _ (thr_out_mem (M.delHas i) c hc)⟩
theorem FreeR.val (h : FreeR M t w v out N) : v = .nilIface ∨ ∃ pb, v = .iface 82 (.pointer (some ⟨pb, 0, none⟩)) := by
  cases h with
  | no v hr _ => obtain ⟨pb, e, _⟩ := hr; exact .inr ⟨pb, e⟩
  | ok _ _ _ _ => exact .inl rfl
theorem Quits.sub (h : Quits M t N out) : (∀ c ∈ N.all, c ∈ M.all) ∧ (∀ c ∈ out, c ∈ M.all) := by
  rcases h with ⟨i, hi, _, rfl, rfl⟩ | ⟨_, i, hi, _, rfl, rfl⟩ | ⟨_, _, rfl, rfl⟩
  · exact ⟨fun c hc => (M.delHas_sub i).mem ((M.delHas i).pass_perm.mem_iff.1 hc), fun c hc => List.mem_append_right _ (thr_out_mem (M.delHas i) c hc)⟩
  · exact ⟨fun c hc => (M.delQueue_sub i).mem ((M.delQueue i).pass_perm.mem_iff.1 hc), fun c hc => List.mem_append_right _ (List.mem_of_mem_eraseIdx (thr_out_mem (M.delQueue i) c hc))⟩
  · exact ⟨fun c h => h, fun c h => by simp at h⟩
end
theorem pl_ren {b : Int} {R : Dt → Dt → Prop} {l l' : List Clm} (h : Pl (ren b) R l l') : tasks l' = renL b (l.map (·.task)) := by
  unfold renL
  rw [tasks_num, h.tasks]
  simp [Function.comp_def]
/-- The first manager, and the second under other numbers. -/
structure Nw (w0 wr : World) (σ : Nat → Nat) (g h : Nat) (m b : Int) (M N : Mgr) (k : Nat) : Prop where
  ma : MgrAt wr σ 1000 g M
  mb : MgrAt wr σ 2000 h N
  pm : PM (ren b) (Rn m b) M N
  st : St w0 σ wr
  mm : M.m = m
  ka : M.cnt ≤ k
  tb : ∀ c ∈ M.all, 0 ≤ c.task ∧ c.task ≤ 1099511627776
section
variable {w0 wr w' : World} {σ σ' : Nat → Nat} {g h k : Nat} {m b : Int} {M N : Mgr} {S : Nat → Prop}
theorem Nw.kb (x : Nw w0 wr σ g h m b M N k) : N.cnt ≤ k := by rw [x.pm.cnt]; exact x.ka
theorem Nw.chg (x : Nw w0 wr σ g h m b M N k) (c : Chg S σ wr σ' w') (hs : ∀ x, S x → 0 < x ∧ x < 1000) : Nw w0 w' σ' g h m b M N k :=
  ⟨x.ma.chg c (fun x hx hn => by have := hs x hn; unfold Om at hx; omega), x.mb.chg c (fun x hx hn => by have := hs x hn; unfold Om at hx; omega), x.pm, x.st.chg c (fun hn => by have := hs 0 hn; omega), x.mm, x.ka, x.tb⟩
theorem Nw.below (x : Nw w0 wr σ g h m b M N k) (hb : Below wr.heap.size wr w') : Nw w0 w' σ g h m b M N k := x.chg (Chg.of_below (fun _ => False) σ hb) (fun _ h => h.elim)
theorem Nw.upd (x : Nw w0 wr σ g h m b M N k) {n : Nat} (hn : wr.heap.size ≤ n) (y : Nat) : Nw w0 wr (K.upd σ n y) g h m b M N k := x.chg ((Chg.refl (fun _ => False) σ wr).upd hn y) (fun _ h => h.elim)
theorem Nw.more (x : Nw w0 wr σ g h m b M N k) {k' : Nat} (hk : k ≤ k') : Nw w0 wr σ g h m b M N k' := ⟨x.ma, x.mb, x.pm, x.st, x.mm, Nat.le_trans x.ka hk, x.tb⟩
theorem Nw.both {σ1 : Nat → Nat} {w1 : World} {M' N' : Mgr} {k' : Nat} (x : Nw w0 wr σ g h m b M N k) (c : Chg (Om 1000) σ wr σ1 w1) (c' : Chg (Om 2000) σ1 w1 σ' w') (ha : MgrAt w1 σ1 1000 g M') (hc : MgrAt w' σ' 2000 h N') (hp : PM (ren b) (Rn m b) M' N') (hm : M'.m = M.m) (hk : M'.cnt ≤ k') (ht : ∀ c ∈ M'.all, 0 ≤ c.task ∧ c.task ≤ 1099511627776) :
    Nw w0 w' σ' g h m b M' N' k' :=
  ⟨ha.chg c' (fun x hx => by unfold Om at *; omega), hc, hp, (x.st.chg c (by unfold Om; omega)).chg c' (by unfold Om; omega), hm.trans x.mm, hk, ht⟩
end
theorem own_lks {w : World} {B n c : Nat} {A : Option Addr} {L : List (Int × Bool)} (h : w.ownsRow B 32 2 (.slice A n c) n (lks L)) (hl : L.length = n) : LksAt w A L := row_lks (Row.fresh h (σ := fun _ => 0) 6) hl
theorem pin_wf {n b x : Int} (hn : 0 < n) (h1 : n ≤ 1024) (hx : (Lit.int .i64 x).wf = true) : (Lit.int .i64 (pin n b x)).wf = true := by
  unfold pin
  split
  · have h2 := Int.emod_nonneg (x + b) (show n ≠ 0 by omega)
    have h3 := Int.emod_lt_of_pos (x + b) hn
    simp [Lit.wf, IntKind.min, IntKind.max, IntKind.signed, IntKind.bits]
    omega
  · exact hx
end Go.Proofs.Ytgcnappgecdldaa.C
