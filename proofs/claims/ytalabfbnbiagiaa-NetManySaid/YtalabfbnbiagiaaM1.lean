/-
  NetMany, the plain part: one connection's round; the sum of what was moved.
-/
import Derived.Test.YtalabfbnbiagiaaDid
set_option linter.unusedVariables false
set_option linter.unusedSimpArgs false
namespace Go.Proofs.Ytalabfbnbiagiaa.C
open Go.RowKit Go.Proofs.Ytalabfbnbiagiaa.K

def byt (c long : Nat) : List Int := (List.range long).map fun i : Nat => IntKind.u8.wrap ((c : Int) * 7 + (i : Int) * (i : Int))
theorem byt_length (c long : Nat) : (byt c long).length = long := by simp [byt]
theorem byt_succ (c k : Nat) : byt c (k + 1) = byt c k ++ [IntKind.u8.wrap ((c : Int) * 7 + (k : Int) * (k : Int))] := by simp [byt, List.range_succ]

/-- A connection of which a bytes were taken, b written, h heard. -/
def cnv (X Y : List Int) (a b h : Nat) : Cn := ⟨X.drop a, [], (Y.take b).drop h, Y.take h, false, false⟩

theorem err_live {N : NS} {c : Nat} {C : Cn} (hc : 1 ≤ c ∧ c ≤ 64) (hC : N.cs c = some C) (h1 : C.closed = false) (h2 : C.cut = false) (u : Bool) : err N (c : Int) u = 0 := by
  unfold err
  rw [if_neg (by omega), Int.toNat_natCast, hC]
  simp [h1, h2]
theorem err_there {N : NS} {c : Nat} {C : Cn} (hc : 1 ≤ c ∧ c ≤ 64) (hC : N.cs c = some C) : err N (c : Int) false = 0 := by
  unfold err
  rw [if_neg (by omega), Int.toNat_natCast, hC]
  simp

structure Rnd (N N4 : NS) (c : Nat) (X Y : List Int) (a b h k w f : Nat) : Prop where
  cs : N4.cs = (N.put c (cnv X Y (a + k) (b + w) (h + f))).cs
  mv : N4.mv = N.mv + (k : Int) + (f : Int)
  i : N4.i = N.i
  o : N4.o = N.o

theorem drop_take_add (Y : List Int) (b w h : Nat) (hb : h ≤ b) (hbl : b ≤ Y.length) : (Y.take b).drop h ++ (Y.drop b).take w = (Y.take (b + w)).drop h := by
  rw [List.take_add, List.drop_append_of_le_length (by rw [List.length_take]; omega)]
theorem take_add_drop (Y : List Int) (b h f : Nat) (hf : h + f ≤ b) : Y.take h ++ ((Y.take b).drop h).take f = Y.take (h + f) := by
  rw [List.take_drop, List.take_take, Nat.min_eq_left hf]
  conv => rhs; rw [← List.take_append_drop h (Y.take (h + f))]
  rw [List.take_take, Nat.min_eq_left (by omega)]

theorem put_cs (N M : NS) (c : Nat) (C D : Cn) (h : N.cs = (M.put c C).cs) : (N.put c D).cs = (M.put c D).cs := by
  funext d
  show (if d = c then some D else N.cs d) = if d = c then some D else M.cs d
  by_cases e : d = c
  · rw [if_pos e, if_pos e]
  · rw [if_neg e, if_neg e, h, NS.put_other _ _ _ _ e]
theorem get_cs {N M : NS} {c : Nat} {C : Cn} (h : N.cs = (M.put c C).cs) : N.cs c = some C := by rw [h, NS.put_same]

theorem round_ (N : NS) (hi : N.i = 7) (ho : N.o = 5) (c : Nat) (hc : 1 ≤ c ∧ c ≤ 64) (X Y : List Int) (a b h p : Nat) (hC : N.cs c = some (cnv X Y a b h)) (ha : a ≤ X.length) (hhb : h ≤ b) (hbl : b ≤ Y.length) (h5 : b - h ≤ 5) :
    ∃ k w f : Nat, k = min (min p (X.length - a)) 7 ∧ w = min (Y.length - b) (5 - (b - h)) ∧ f = min p (b + w - h) ∧
      (N.bring c p).1 = (k : Int) ∧ (N.bring c p).2.1 = 0 ∧
      ((N.bring c p).2.2.take c).1 = (X.drop a).take k ∧ ((N.bring c p).2.2.take c).2.1 = 0 ∧
      (((N.bring c p).2.2.take c).2.2.write c (Y.drop b)).1 = (w : Int) ∧ (((N.bring c p).2.2.take c).2.2.write c (Y.drop b)).2.1 = 0 ∧
      ((((N.bring c p).2.2.take c).2.2.write c (Y.drop b)).2.2.fetch c p).1 = (f : Int) ∧ ((((N.bring c p).2.2.take c).2.2.write c (Y.drop b)).2.2.fetch c p).2.1 = 0 ∧
      Rnd N ((((N.bring c p).2.2.take c).2.2.write c (Y.drop b)).2.2.fetch c p).2.2 c X Y a b h k w f := by
  obtain ⟨k, hk⟩ : ∃ k, k = min (min p (X.length - a)) 7 := ⟨_, rfl⟩
  obtain ⟨w, hw⟩ : ∃ w, w = min (Y.length - b) (5 - (b - h)) := ⟨_, rfl⟩
  obtain ⟨f, hf⟩ : ∃ f, f = min p (b + w - h) := ⟨_, rfl⟩
  have hbr : N.brings (cnv X Y a b h) p = k := by
    unfold NS.brings fit
    rw [hi, if_neg (by decide), hk]
    show min (min (p : Int).toNat (X.drop a).length) ((7 : Int).toNat - ([] : List Int).length) = _
    rw [List.length_drop]
    simp
  have e1 : N.bring c p = ((k : Int), 0, { N.put c { cnv X Y a b h with inb := (X.drop a).take k, way := X.drop (a + k) } with mv := N.mv + (k : Int) }) := by
    unfold NS.bring
    rw [if_pos (err_live hc hC rfl rfl _), Int.toNat_natCast, hC]
    simp only [hbr]
    simp [cnv, List.drop_drop]
  rw [e1]
  obtain ⟨N1, hN1⟩ : ∃ N1, N1 = ({ N.put c { cnv X Y a b h with inb := (X.drop a).take k, way := X.drop (a + k) } with mv := N.mv + (k : Int) } : NS) := ⟨_, rfl⟩
  have c1 : N1.cs = (N.put c { cnv X Y a b h with inb := (X.drop a).take k, way := X.drop (a + k) }).cs := by rw [hN1]
  have m1 : N1.mv = N.mv + (k : Int) := by rw [hN1]
  have i1 : N1.i = N.i := by rw [hN1]; rfl
  have o1 : N1.o = N.o := by rw [hN1]; rfl
  rw [← hN1]
  clear hN1 e1
  have g1 := get_cs c1
  have e2 : N1.take c = ((X.drop a).take k, 0, N1.put c (cnv X Y (a + k) b h)) := by
    unfold NS.take
    rw [if_pos (err_live hc g1 rfl rfl _), Int.toNat_natCast, g1]
    rfl
  rw [e2]
  obtain ⟨N2, hN2⟩ : ∃ N2, N2 = N1.put c (cnv X Y (a + k) b h) := ⟨_, rfl⟩
  have c2 : N2.cs = (N.put c (cnv X Y (a + k) b h)).cs := by rw [hN2]; exact put_cs _ _ _ _ _ c1
  have m2 : N2.mv = N.mv + (k : Int) := by rw [hN2]; exact m1
  have i2 : N2.i = N.i := by rw [hN2]; exact i1
  have o2 : N2.o = N.o := by rw [hN2]; exact o1
  dsimp only
  rw [← hN2]
  clear hN2 e2 g1
  have g2 := get_cs c2
  have hlen2 : (cnv X Y (a + k) b h).out.length = b - h := by
    show ((Y.take b).drop h).length = _
    rw [List.length_drop, List.length_take]
    omega
  have e3 : N2.write c (Y.drop b) = ((w : Int), 0, N2.put c { cnv X Y (a + k) b h with out := (Y.take (b + w)).drop h }) := by
    unfold NS.write
    rw [if_pos (err_live hc g2 rfl rfl _), Int.toNat_natCast, g2]
    have hft : fit N2.o (cnv X Y (a + k) b h).out.length (Y.drop b).length = w := by
      unfold fit
      rw [o2, ho, if_neg (by decide), hlen2, List.length_drop, hw]
      rfl
    simp only [hft]
    rw [show (cnv X Y (a + k) b h).out ++ (Y.drop b).take w = (Y.take (b + w)).drop h from drop_take_add Y b w h hhb hbl]
  rw [e3]
  obtain ⟨N3, hN3⟩ : ∃ N3, N3 = N2.put c { cnv X Y (a + k) b h with out := (Y.take (b + w)).drop h } := ⟨_, rfl⟩
  have c3 : N3.cs = (N.put c { cnv X Y (a + k) b h with out := (Y.take (b + w)).drop h }).cs := by rw [hN3]; exact put_cs _ _ _ _ _ c2
  have m3 : N3.mv = N.mv + (k : Int) := by rw [hN3]; exact m2
  have i3 : N3.i = N.i := by rw [hN3]; exact i2
  have o3 : N3.o = N.o := by rw [hN3]; exact o2
  dsimp only
  rw [← hN3]
  clear hN3 e3 g2
  have g3 := get_cs c3
  have hfe : fetches { cnv X Y (a + k) b h with out := (Y.take (b + w)).drop h } p = f := by
    unfold fetches
    show min (p : Int).toNat ((Y.take (b + w)).drop h).length = f
    rw [List.length_drop, List.length_take, hf, Int.toNat_natCast]
    omega
  have e4 : N3.fetch c p = ((f : Int), 0, { N3.put c (cnv X Y (a + k) (b + w) (h + f)) with mv := N3.mv + (f : Int) }) := by
    unfold NS.fetch
    rw [if_pos (err_live hc g3 rfl rfl _), Int.toNat_natCast, g3]
    simp only [hfe]
    rw [show ({ cnv X Y (a + k) b h with out := (Y.take (b + w)).drop h } : Cn).heard ++ ((Y.take (b + w)).drop h).take f = Y.take (h + f) from take_add_drop Y (b + w) h f (by omega), List.drop_drop]
    rfl
  rw [e4]
  refine ⟨k, w, f, hk, hw, hf, rfl, rfl, rfl, rfl, rfl, rfl, rfl, rfl, ?_⟩
  exact ⟨put_cs _ _ _ _ _ c3, by show N3.mv + (f : Int) = _; rw [m3], i3, o3⟩

/-- What was moved in all. -/
def tot : Nat → (Nat → Nat) → Nat
  | 0, _ => 0
  | n + 1, s => tot n s + s (n + 1)
theorem tot_upd (s s' : Nat → Nat) (c d : Nat) (hs : s' c = s c + d) (ho : ∀ x, x ≠ c → s' x = s x) : ∀ n, tot n s' = if 1 ≤ c ∧ c ≤ n then tot n s + d else tot n s
  | 0 => by rw [if_neg (by omega)]; rfl
  | n + 1 => by
    have ih := tot_upd s s' c d hs ho n
    show tot n s' + s' (n + 1) = _
    rw [ih]
    by_cases h : c = n + 1
    · subst h
      rw [if_neg (by omega), if_pos (by omega), hs]
      show _ = tot n s + s (n + 1) + d
      omega
    · rw [ho (n + 1) (fun e => h e.symm)]
      by_cases h2 : 1 ≤ c ∧ c ≤ n
      · rw [if_pos h2, if_pos (by omega)]
        show _ = tot n s + s (n + 1) + d
        omega
      · rw [if_neg h2, if_neg (by omega)]
        rfl
theorem tot_const (s : Nat → Nat) (x : Nat) : ∀ n, (∀ c, 1 ≤ c → c ≤ n → s c = x) → tot n s = n * x
  | 0, _ => by simp [tot]
  | n + 1, h => by
    show tot n s + s (n + 1) = _
    rw [tot_const s x n (fun c h1 h2 => h c h1 (by omega)), h (n + 1) (by omega) (Nat.le_refl _), Nat.succ_mul]
theorem tot_le (s : Nat → Nat) (x : Nat) : ∀ n, (∀ c, 1 ≤ c → c ≤ n → s c ≤ x) → tot n s ≤ n * x
  | 0, _ => by simp [tot]
  | n + 1, h => by
    have h1 := tot_le s x n (fun c h1 h2 => h c h1 (by omega))
    have h2 := h (n + 1) (by omega) (Nat.le_refl _)
    show tot n s + s (n + 1) ≤ _
    rw [Nat.succ_mul]
    omega

/-- The net with n connections, each with bytes of its own; those above m did their round. -/
structure Inv (N : NS) (n long k m : Nat) (a b h : Nat → Nat) : Prop where
  i : N.i = 7
  o : N.o = 5
  cs : ∀ c, 1 ≤ c → c ≤ n → N.cs c = some (cnv (byt c long) (byt (c + 100) long) (a c) (b c) (h c))
  bd : ∀ c, 1 ≤ c → c ≤ n → a c ≤ long ∧ h c ≤ b c ∧ b c ≤ long ∧ b c - h c ≤ 5 ∧ min (if m < c then k + 1 else k) long ≤ a c ∧ min (if m < c then k + 1 else k) long ≤ h c
  mv : N.mv = ((tot n (fun c => a c + h c) : Nat) : Int)
theorem Inv.next {N : NS} {n long k : Nat} {a b h : Nat → Nat} (I : Inv N n long k 0 a b h) : Inv N n long (k + 1) n a b h :=
  ⟨I.i, I.o, I.cs, fun c h1 h2 => by
    have := I.bd c h1 h2
    rw [if_pos (by omega)] at this
    rw [if_neg (by omega)]
    exact this, I.mv⟩
def upf (f : Nat → Nat) (c x : Nat) : Nat → Nat := fun d => if d = c then x else f d
theorem upf_same (f : Nat → Nat) (c x : Nat) : upf f c x c = x := if_pos rfl
theorem upf_other (f : Nat → Nat) (c x d : Nat) (h : d ≠ c) : upf f c x d = f d := if_neg h
theorem Inv.step {N N4 : NS} {n long k m p kk w f : Nat} {a b h : Nat → Nat} (I : Inv N n long k (m + 1) a b h) (hm : m + 1 ≤ n) (hp : 1 ≤ p)
    (R : Rnd N N4 (m + 1) (byt (m + 1) long) (byt (m + 1 + 100) long) (a (m + 1)) (b (m + 1)) (h (m + 1)) kk w f)
    (h1 : kk = min (min p (long - a (m + 1))) 7) (h2 : w = min (long - b (m + 1)) (5 - (b (m + 1) - h (m + 1)))) (h3 : f = min p (b (m + 1) + w - h (m + 1))) :
    Inv N4 n long k m (upf a (m + 1) (a (m + 1) + kk)) (upf b (m + 1) (b (m + 1) + w)) (upf h (m + 1) (h (m + 1) + f)) := by
  refine ⟨R.i.trans I.i, R.o.trans I.o, fun c c1 c2 => ?_, fun c c1 c2 => ?_, ?_⟩
  · rw [R.cs]
    by_cases e : c = m + 1
    · subst e
      rw [NS.put_same, upf_same, upf_same, upf_same]
    · rw [NS.put_other _ _ _ _ e, upf_other _ _ _ _ e, upf_other _ _ _ _ e, upf_other _ _ _ _ e]
      exact I.cs c c1 c2
  · have hb := I.bd c c1 c2
    by_cases e : c = m + 1
    · subst e
      rw [upf_same, upf_same, upf_same, if_pos (by omega)]
      rw [if_neg (by omega)] at hb
      omega
    · rw [upf_other _ _ _ _ e, upf_other _ _ _ _ e, upf_other _ _ _ _ e]
      by_cases h' : m + 1 < c
      · rw [if_pos h'] at hb
        rw [if_pos (by omega)]
        exact hb
      · rw [if_neg h'] at hb
        rw [if_neg (by omega)]
        exact hb
  · rw [R.mv, I.mv]
    have := tot_upd (fun c => a c + h c) (fun c => upf a (m + 1) (a (m + 1) + kk) c + upf h (m + 1) (h (m + 1) + f) c) (m + 1) (kk + f) (by simp only [upf_same]; omega) (fun x hx => by simp only [upf_other _ _ _ _ hx]) n
    rw [this, if_pos (by omega)]
    omega
theorem Inv.done {N : NS} {n long k m : Nat} {a b h : Nat → Nat} (I : Inv N n long k m a b h) (hk : long ≤ k) (c : Nat) (h1 : 1 ≤ c) (h2 : c ≤ n) : a c = long ∧ b c = long ∧ h c = long := by
  have := I.bd c h1 h2
  by_cases e : m < c
  · rw [if_pos e] at this; omega
  · rw [if_neg e] at this; omega
theorem Inv.moved {N : NS} {n long k m : Nat} {a b h : Nat → Nat} (I : Inv N n long k m a b h) (hk : long ≤ k) : N.mv = 2 * (n : Int) * (long : Int) := by
  rw [I.mv, tot_const (fun c => a c + h c) (2 * long) n (fun c h1 h2 => by have := I.done hk c h1 h2; show a c + h c = 2 * long; omega), Int.natCast_mul, Int.natCast_mul, ← Int.mul_assoc, Int.mul_comm (n : Int)]
  rfl
theorem Inv.small {N : NS} {n long k m : Nat} {a b h : Nat → Nat} (I : Inv N n long k m a b h) (hn : n ≤ 64) (hl : long ≤ 60) : 0 ≤ N.mv ∧ N.mv ≤ 7680 := by
  have h1 := tot_le (fun c => a c + h c) 120 n (fun c h1 h2 => by have := I.bd c h1 h2; show a c + h c ≤ 120; omega)
  rw [I.mv]
  omega
end Go.Proofs.Ytalabfbnbiagiaa.C
