/-
  Locks: who is let through: the plain pass over the queue; its states in memory.
-/
import Derived.Test.YtgcnappgecdldaaL5
import Derived.Test.YtgcnappgecdldaaL8
import Derived.Test.YtgcnappgecdldaaL9
set_option linter.unusedVariables false
set_option linter.unusedSimpArgs false
namespace Go.Proofs.Ytgcnappgecdldaa.C
open Go.RowKit Go.Proofs.Ytgcnappgecdldaa.K Go.Maps

/-- The pass over the queue under way: who has, who is left, who was granted. -/
structure TS where
  has : List Clm
  left : List Clm
  out : List Clm
noncomputable def TS.stops (s : TS) (c : Clm) : Bool := s.has.any (cf c.set) || s.left.any (cf c.set)
noncomputable def TS.step (s : TS) (c : Clm) : TS := if s.stops c then { s with left := s.left ++ [c] } else { s with has := s.has ++ [c], out := s.out ++ [c] }
noncomputable def TS.go (s : TS) (l : List Clm) : TS := l.foldl TS.step s
theorem TS.go_snoc (s : TS) (l : List Clm) (c : Clm) : s.go (l ++ [c]) = (s.go l).step c := by simp [TS.go]
theorem TS.step_yes {s : TS} {c : Clm} (h : s.stops c = true) : s.step c = { s with left := s.left ++ [c] } := by simp [TS.step, h]
theorem TS.step_no {s : TS} {c : Clm} (h : s.stops c = false) : s.step c = { s with has := s.has ++ [c], out := s.out ++ [c] } := by simp [TS.step, h]
theorem TS.go_len (l : List Clm) : ∀ s : TS, (s.go l).has.length + (s.go l).left.length = s.has.length + s.left.length + l.length ∧ (s.go l).has.length = s.has.length + ((s.go l).out.length - s.out.length) ∧ s.out.length ≤ (s.go l).out.length := by
  induction l with
  | nil => intro s; simp [TS.go]
  | cons c r ih =>
    intro s
    have e : s.go (c :: r) = (s.step c).go r := rfl
    rw [e]
    obtain ⟨h1, h2, h3⟩ := ih (s.step c)
    rcases h : s.stops c with _ | _
    · rw [TS.step_no h] at h1 h2 h3 ⊢
      simp at h1 h2 h3 ⊢
      omega
    · rw [TS.step_yes h] at h1 h2 h3 ⊢
      simp at h1 h2 h3 ⊢
      omega

/-- The pass over the queue in memory. -/
structure TIn (w : World) (σ : Nat → Nat) (t g u : Nat) (M : Mgr) (vq : Value) (s : TS) (wr : World) (σr : Nat → Nat) (vh vl vo : Value) : Prop where
  mgr : MgrIn wr σr t g ⟨M.m, s.has, M.queue⟩ vh vq
  left : Row wr σr (t + 4) 86 2 vl s.left.length (cvs s.left)
  lown : ∀ b, vl.ownBlock = some b → w.heap.size ≤ b
  out : Row wr σr u 3 1 vo s.out.length (tasks s.out)
  oown : ∀ b, vo.ownBlock = some b → w.heap.size ≤ b
  sub : ∀ c ∈ s.left, c ∈ M.queue
  chg : Chg (Om t) σ w σr wr
section
variable {w : World} {σ : Nat → Nat} {t g u : Nat} {M : Mgr} {vq : Value} {s : TS} {wr w2 : World} {σr : Nat → Nat} {vh vl vo v' : Value} {c : Clm}
theorem TIn.below (h : TIn w σ t g u M vq s wr σr vh vl vo) (hb : Below wr.heap.size wr w2) : TIn w σ t g u M vq s w2 σr vh vl vo :=
  ⟨h.mgr.below hb, h.left.below hb, h.lown, h.out.below hb, h.oown, h.sub, h.chg.below hb⟩
theorem TIn.start (h : MgrIn w σ t g M vh vq) : TIn w σ t g u M vq ⟨M.has, [], []⟩ w σ vh (.slice none 0 0) (.slice none 0 0) :=
  ⟨h, Row.nil _ _ _ _ _, fun b h => (by cases h), Row.nil _ _ _ _ _, fun b h => (by cases h), fun c h => (by simp at h), Chg.refl _ _ _⟩
theorem TIn.addLeft (h : TIn w σ t g u M vq s wr σr vh vl vo) (hu : u < t ∨ t + 5 ≤ u) (hc : c ∈ M.queue)
    (ho : w2.ownsRow 0 86 2 v' (s.left.length + 1) (cvs s.left ++ cvs [c])) (hg : wr.grownBy w2 vl.ownBlock) (hat : v'.ownBlock = vl.ownBlock ∨ v'.ownBlock = some wr.heap.size) :
    TIn w σ t g u M vq { s with left := s.left ++ [c] } w2 (K.upd σr wr.heap.size (t + 4)) vh v' vo := by
  have cg := row_chgd h.left hg
  have hr := row_new h.left ho hat
  rw [← cvs_append] at hr
  refine ⟨h.mgr.chg cg (fun x hx e => by unfold Om at hx; omega), ?_, fun b hb => ?_, h.out.chg cg (by omega), h.oown, fun d hd => ?_, ?_⟩
  · show Row _ _ _ _ _ _ (s.left ++ [c]).length _
    rw [List.length_append]
    exact hr
  · rcases hat with e | e
    · rw [e] at hb; exact h.lown b hb
    · rw [e] at hb; cases hb; exact h.chg.size
  · rcases List.mem_append.1 hd with hd | hd
    · exact h.sub d hd
    · simp at hd; subst hd; exact hc
  · exact (h.chg.upd h.chg.size (t + 4)).grown hg (fun q hq => .inr (h.lown q hq))
theorem TIn.addHas (h : TIn w σ t g u M vq s wr σr vh vl vo) (hu : u < t ∨ t + 5 ≤ u) (hc : c ∈ M.queue) (hl : s.has.length + 1 ≤ 100000)
    (ho : w2.ownsRow 0 86 2 v' (s.has.length + 1) (cvs s.has ++ cvs [c])) (hg : wr.grownBy w2 vh.ownBlock) (hat : v'.ownBlock = vh.ownBlock ∨ v'.ownBlock = some wr.heap.size) :
    TIn w σ t g u M vq { s with has := s.has ++ [c] } (w2.setCell ⟨g, 1, none⟩ v') (K.upd σr wr.heap.size (t + 1)) v' vl vo := by
  have cg := row_chgd h.mgr.has hg
  have hb := h.mgr.blk.chg cg (by omega)
  have c2 : Chg (fun x => x = t) (K.upd σr wr.heap.size (t + 1)) w2 (K.upd σr wr.heap.size (t + 1)) (w2.setCell ⟨g, 1, none⟩ v') := (Chg.refl _ _ w2).setCell (p := ⟨g, 1, none⟩) (.inl hb.2) v'
  have hr := row_new h.mgr.has ho hat
  rw [show cvs (Mgr.has ⟨M.m, s.has, M.queue⟩) ++ cvs [c] = cvs (s.has ++ [c]) from (cvs_append _ _).symm] at hr
  refine ⟨⟨hb.set_ 1 v', ?_, (h.mgr.queue.chg cg (by omega)).chg c2 (by omega), fun d hd => ?_, h.mgr.m1, h.mgr.m2, ?_, h.mgr.ql⟩, (h.left.chg cg (by omega)).chg c2 (by omega), h.lown, (h.out.chg cg (by omega)).chg c2 (by omega), h.oown, h.sub, ?_⟩
  · have := hr.chg c2 (by omega)
    show Row _ _ _ _ _ _ (s.has ++ [c]).length _
    rw [List.length_append]
    exact this
  · have hd' : d ∈ s.has ∨ d ∈ M.queue := by
      rcases hd with hd | hd
      · rcases List.mem_append.1 hd with hd | hd
        · exact .inl hd
        · simp at hd; subst hd; exact .inr hc
      · exact .inr hd
    have key := h.mgr.sets d hd'
    have m1 := (cg.marks _ key.1.lt).trans key.2
    exact ⟨(key.1.chg cg (by rw [key.2]; omega)).chg c2 (by rw [m1]; omega), m1⟩
  · show (s.has ++ [c]).length ≤ _
    rw [List.length_append]
    exact hl
  · exact h.chg.trans ((cg.mono (fun x hx => by unfold Om; omega)).trans (c2.mono (fun x hx => by unfold Om; omega)))
theorem tasks_append (l r : List Clm) : tasks (l ++ r) = tasks l ++ tasks r := List.map_append
theorem TIn.addOut (h : TIn w σ t g u M vq s wr σr vh vl vo) (hu : u < t ∨ t + 5 ≤ u)
    (ho : w2.ownsRow 0 3 1 v' (s.out.length + 1) (tasks s.out ++ tasks [c])) (hg : wr.grownBy w2 vo.ownBlock) (hat : v'.ownBlock = vo.ownBlock ∨ v'.ownBlock = some wr.heap.size) :
    TIn w σ t g u M vq { s with out := s.out ++ [c] } w2 (K.upd σr wr.heap.size u) vh vl v' := by
  have cg := row_chgd h.out hg
  have hr := row_new h.out ho hat
  rw [← tasks_append] at hr
  refine ⟨h.mgr.chg cg (fun x hx e => by unfold Om at hx; omega), h.left.chg cg (by omega), h.lown, ?_, fun b hb => ?_, h.sub, ?_⟩
  · show Row _ _ _ _ _ _ (s.out ++ [c]).length _
    rw [List.length_append]
    exact hr
  · rcases hat with e | e
    · rw [e] at hb; exact h.oown b hb
    · rw [e] at hb; cases hb; exact h.chg.size
  · exact (h.chg.upd h.chg.size u).grown hg (fun q hq => .inr (h.oown q hq))
/-- The queue is written: what is left. -/
theorem TIn.close (h : TIn w σ t g u M vq s wr σr vh vl vo) (hu : u < t ∨ t + 5 ≤ u) (hl : s.left.length ≤ 100000) :
    ∃ σ', MgrIn (wr.setCell ⟨g, 2, none⟩ vl) σ' t g ⟨M.m, s.has, s.left⟩ vh vl ∧ Row (wr.setCell ⟨g, 2, none⟩ vl) σ' u 3 1 vo s.out.length (tasks s.out) ∧ Chg (Om t) σ w σ' (wr.setCell ⟨g, 2, none⟩ vl) := by
  have c2 : Chg (fun x => x = t) σr wr σr (wr.setCell ⟨g, 2, none⟩ vl) := (Chg.refl _ _ wr).setCell (p := ⟨g, 2, none⟩) (.inl h.mgr.blk.2) vl
  have hch := h.chg.trans (c2.mono (fun x hx => by unfold Om; omega))
  have hb := h.mgr.blk.set_ 2 vl
  have hh := h.mgr.has.chg c2 (by omega)
  have hL := h.left.chg c2 (by omega)
  have hO := h.out.chg c2 (by omega)
  have hS := fun c hc => h.mgr.sets c hc
  refine ⟨fun b => if vl.ownBlock = some b then t + 2 else σr b, ⟨⟨hb.1, ?_⟩, ⟨hh.1, fun b e => ?_⟩, ⟨hL.1, fun b e => if_pos e⟩, fun d hd => ?_, h.mgr.m1, h.mgr.m2, h.mgr.hl, hl⟩, ⟨hO.1, fun b e => ?_⟩, ⟨hch.os, hch.tape, hch.output, hch.size, fun b hb => ?_, hch.block⟩⟩
  · refine (if_neg (fun e => ?_)).trans hb.2
    have := (hL.2 g e).symm.trans hb.2
    omega
  · refine (if_neg (fun e' => ?_)).trans (hh.2 b e)
    have := (hL.2 b e').symm.trans (hh.2 b e)
    omega
  · have hd' : d ∈ s.has ∨ d ∈ M.queue := by
      rcases hd with hd | hd
      · exact .inl hd
      · exact .inr (h.sub d hd)
    have key := hS d hd'
    refine ⟨key.1.chg c2 (by rw [key.2]; omega), (if_neg (fun e' => ?_)).trans key.2⟩
    have := (hL.2 _ e').symm.trans key.2
    omega
  · refine (if_neg (fun e' => ?_)).trans (hO.2 b e)
    have := (hL.2 b e').symm.trans (hO.2 b e)
    omega
  · refine (if_neg (fun e' => ?_)).trans (hch.marks b hb)
    have := h.lown b e'
    omega
end
end Go.Proofs.Ytgcnappgecdldaa.C
