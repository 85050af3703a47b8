/-
  Pass, whatever is asked; what stays true of every flow; the document's text number.
-/
import Derived.Test.YtapninpdjccglaaG3
import Derived.Laws.Closers25b
set_option linter.unusedVariables false
set_option linter.unusedSimpArgs false
namespace Go.Proofs.Ytapninpdjccglaa.C
open Go.RowKit Go.Proofs.Ytapninpdjccglaa.K

theorem pass_any (w : World) (σ : Nat → Nat) (t g : Nat) (F : FS) (hF : FlowAt w σ t g F) (hok : FOk F) (hz : FTo F) (i : Int) :
    Calls Try.prog 18 #[.pointer (some ⟨g, 0, none⟩), .int .i64 i] w fun e w' => e = .returned (.tuple #[.int .i64 (F.pass i).1, .int .i64 (F.pass i).2.1]) ∧ ∃ σ', FlowAt w' σ' t g (F.pass i).2.2 ∧ Chg (Of t) σ w σ' w' := by
  by_cases hi : 0 ≤ i ∧ i < F.s
  · obtain ⟨d, rfl⟩ := Int.eq_ofNat_of_zero_le hi.1
    rcases hL : F.q d with _ | ⟨x, r⟩
    · have ht : F.toward (d : Int) = (0, 44) := by unfold FS.toward; rw [if_pos hi, Int.toNat_natCast, hL]
      have hp : F.pass (d : Int) = (0, 44, F) := by unfold FS.pass; rw [if_pos hi, Int.toNat_natCast, hL]
      have hn := pass_no w σ t g F hF hok (d : Int) (by rw [ht]; decide)
      rw [ht] at hn
      rw [hp]
      exact hn.mono fun e w' ⟨he, hb⟩ => ⟨he, σ, hF.below hb, Chg.of_below _ _ hb⟩
    · exact pass_yes w σ t g F hF hok hz d (by omega) x r hL
  · have ht : F.toward i = (0, 1) := by unfold FS.toward; rw [if_neg hi]
    have hp : F.pass i = (0, 1, F) := by unfold FS.pass; rw [if_neg hi]
    have hn := pass_no w σ t g F hF hok i (by rw [ht]; decide)
    rw [ht] at hn
    rw [hp]
    exact hn.mono fun e w' ⟨he, hb⟩ => ⟨he, σ, hF.below hb, Chg.of_below _ _ hb⟩

structure FInv (F : FS) : Prop where
  ok : FOk F
  tz : ∀ i, i < F.s → F.to i < F.o
theorem may_ok {x : It} (h : May x = 0) : ItOk x := by
  unfold ItOk
  rcases may_cases x with ⟨h1, _⟩ | ⟨h1, _⟩ | ⟨h1, _⟩ | ⟨_, _, h1 | h1⟩
  · omega
  · omega
  · omega
  · have h2 := (toList_nil_iff_emptyBytes x.key).1 h1.2.1
    rw [h2]
    decide
  · omega
theorem FInv.new {s o m : Nat} (h : okNew s o m) : FInv (FS.new s o m) := ⟨fun i _ x hx => by simp [FS.new] at hx, fun i _ => by have := h.2.2.1; show 0 < o; omega⟩
theorem FInv.put {F : FS} (h : FInv F) (i : Int) (x : It) : FInv (F.put i x).2 := by
  unfold FS.put
  split
  · split
    · split
      · exact h
      · rename_i h1 hm _
        refine ⟨fun k hk y hy => ?_, h.tz⟩
        have hy' : y ∈ (if k = i.toNat then F.q i.toNat ++ [x] else F.q k) := hy
        split at hy'
        · rcases List.mem_append.1 hy' with h2 | h2
          · exact h.ok i.toNat (by omega) y h2
          · obtain rfl : y = x := by simpa using h2
            exact may_ok hm
        · exact h.ok k hk y hy'
    · exact h
  · exact h
theorem FInv.take {F : FS} (h : FInv F) (j : Int) : FInv (F.take j).2.2.2 := by
  unfold FS.take
  split
  · split
    · exact h
    · exact ⟨h.ok, h.tz⟩
  · exact h
theorem FInv.pass {F : FS} (h : FInv F) (hg : FGood F) (i : Int) : FInv (F.pass i).2.2 := by
  unfold FS.pass
  split
  · rename_i hi
    split
    · exact h
    · rename_i x r hL
      split
      · exact h
      · split
        · rename_i _ hlt
          refine ⟨h.ok, fun k hk => ?_⟩
          show (if k = i.toNat then _ else F.to k) < F.o
          split
          · exact hlt.2
          · exact h.tz k hk
        · refine ⟨fun k hk y hy => ?_, fun k hk => ?_⟩
          · have hy' : y ∈ (if k = i.toNat then r else F.q k) := hy
            split at hy'
            · rename_i hk2
              exact h.ok i.toNat (by omega) y (by rw [hL]; exact List.mem_cons_of_mem _ hy')
            · exact h.ok k hk y hy'
          · show (if k = i.toNat then 0 else F.to k) < F.o
            split
            · have := hg.o1; omega
            · exact h.tz k hk
  · exact h

theorem ref_hash (w : World) (s : ByteArray) (hs : s.size ≤ 140737488351232) : Calls Try.prog 33 #[.string s] w fun e w' => e = .returned (.int .u64 (hashL s.data.toList)) ∧ w = w' := by
  obtain ⟨n, hn⟩ : ∃ n, s.size = n := ⟨_, rfl⟩
  have Hn := Lib.hid hn
  rw [hn] at hs
  clear hn
  go_enter Try.func33, Try.ntmps33
  go_wp2_with fail
  go_loop [3, 4] (fun h i => ∃ k : Nat, k ≤ n ∧ i = .int .i64 k ∧ h = .int .u64 (hashL (s.data.toList.take k))) (fun _ i => n - (intOf i).toNat)
  case atStart => exact ⟨0, by omega, rfl, rfl⟩
  case round =>
    obtain ⟨k, hk, rfl, rfl⟩ := hrel
    obtain ⟨x, hx⟩ : ∃ x, hashL (s.data.toList.take k) = x := ⟨_, rfl⟩
    rw [hx]
    have Hx := Lib.hid hx
    clear hx
    by_cases hlt : k < n
    · have hs1 := hashL_succ s.data.toList k (by simp; have := Hn.out; omega)
      rw [Hx.out] at hs1
      have Hs1 := Lib.hid hs1
      clear hs1
      have hks : k < s.size := by have := Hn.out; omega
      go_wp2_with fail
      go_round
      case rel =>
        exact ⟨k + 1, by omega, by go_num, by rw [Hs1.out]; simp [hstep, hks]; rfl⟩
      case measure => simp [intOf]; omega
    · have hks : ¬ k < s.size := by have := Hn.out; omega
      go_wp2_with fail
      go_ret
      have hkn : k = n := by omega
      have hall : s.data.toList.take k = s.data.toList := List.take_of_length_le (by simp; have := Hn.out; omega)
      refine ⟨?_, rfl⟩
      rw [← hall, Hx.out]
      rfl
end Go.Proofs.Ytapninpdjccglaa.C
