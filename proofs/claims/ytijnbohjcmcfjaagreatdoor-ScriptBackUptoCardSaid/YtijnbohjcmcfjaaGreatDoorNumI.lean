/-
  Walks: package number's Int: a number up to a bound.
-/
import Derived.Test.YtijnbohjcmcfjaaGreatDoorNumP
import Derived.Test.YtijnbohjcmcfjaaGreatDoorSc10
namespace Go.Proofs.YtijnbohjcmcfjaaGreatDoor.Sc
open Go.RowKit Go.Proofs.YtijnbohjcmcfjaaGreatDoor.Kt Go.Proofs.YtijnbohjcmcfjaaGreatDoor.Lk
open Go.Proofs.YtijnbohjcmcfjaaGreatDoor.Nu (digEnd magN worthI)
set_option linter.unusedSimpArgs false
set_option linter.unusedVariables false
set_option maxRecDepth 100000

/-- a number and an error and a place, as a call answers them -/
def triV (x : Nat × Nat × Nat) : Value := .tuple #[.int .i64 (x.1 : Int), .int .i64 (x.2.1 : Int), .int .i64 (x.2.2 : Int)]
set_option maxHeartbeats 1600000 in
theorem int_any (s : ByteArray) (w : World) (hm : s.size ≤ 268435456) :
    Calls Tryz.prog 59 #[.string s, .int .i64 4294967295] w fun e w' => e = .returned (triV (intF s 4294967295)) ∧ Below w.heap.size w w' := by
  have hle := Nu.digEnd_le s false 0 (Nat.zero_le _)
  have hall := Nu.digEnd_all s false 0
  obtain ⟨d, hd⟩ : ∃ d, d = digEnd s false 0 := ⟨_, rfl⟩
  rw [← hd] at hle hall
  have HD : Hid (d = digEnd s false 0) := hd
  go_enter Tryz.func59, Tryz.ntmps59
  go_wp2_with (go_at_call 85; fail)
  refine (Nu.digitsFrom_any s 0 false _ (Nat.zero_le _) (by omega)).mono ?_
  rintro e w1 ⟨rfl, rfl⟩
  rw [← HD.out]
  clear hd
  by_cases h0 : d = 0
  · have HR : Hid (intF s 4294967295 = (0, 30, d)) := by unfold Hid intF; rw [← HD.out, if_pos (.inl h0)]
    have e0 : (((d : Nat) : Int) == 0) = true := by simp; omega
    clear hall hle h0
    go_wp2
    go_ret3
    exact ⟨by rw [HR.out]; rfl, Below.refl _ _⟩
  · have e0 : (((d : Nat) : Int) == 0) = false := by rw [beq_eq_false_iff_ne]; omega
    by_cases hlt : d < s.size
    · have HR : Hid (intF s 4294967295 = (0, 30, d)) := by unfold Hid intF; rw [← HD.out, if_pos (.inr hlt)]
      go_wp2
      go_ret3
      exact ⟨by rw [HR.out]; rfl, Below.refl _ _⟩
    · have hds : d = s.size := by omega
      have HG : Hid (∀ k, k < s.size → 0 ≤ worthI (gb s k)) := fun k hk => Nu.worth_of_digAt (hall k (Nat.zero_le _) (by omega))
      have HZ : Hid (¬ (d = 0 ∨ d < s.size)) := by unfold Hid; omega
      have c9 : decide (d < s.size) = false := by simp; omega
      clear hall hlt hds hle h0
      cases hg : magN s 10 0 0 with
      | none =>
        have HR : Hid (intF s 4294967295 = (0, 31, 0)) := by unfold Hid intF; rw [← HD.out, if_neg HZ.out, hg]
        have HV : Hid (Nu.magV (magN s 10 0 0) = .tuple #[.int .u64 0, .bool false]) := by unfold Hid; rw [hg]; rfl
        clear hg
        go_wp2_with (go_at_call 86; refine (Nu.magnitude_any s 10 (.inl rfl) _ (by omega) HG.out).mono ?_; rintro e w' ⟨he, rfl⟩; rw [HV.out] at he; subst he)
        go_ret3
        exact ⟨by rw [HR.out]; rfl, Below.refl _ _⟩
      | some v =>
        have hv := Nu.magN_lt s 10 (.inl rfl) 0 0 (by omega) hg
        have HV : Hid (Nu.magV (magN s 10 0 0) = .tuple #[.int .u64 (v : Int), .bool true]) := by unfold Hid; rw [hg]; rfl
        have HM : Hid (intF s 4294967295 = if 4294967295 < v then (0, 31, 0) else (v, 0, 0)) := by unfold Hid intF; rw [← HD.out, if_neg HZ.out, hg]
        clear hg
        by_cases hbig : 4294967295 < v
        · have HR : Hid (intF s 4294967295 = (0, 31, 0)) := by unfold Hid; rw [HM.out]; exact if_pos hbig
          clear HM
          have c1 : (4294967295 : Int) < (v : Int) := by omega
          go_wp2_with (go_at_call 86; refine (Nu.magnitude_any s 10 (.inl rfl) _ (by omega) HG.out).mono ?_; rintro e w' ⟨he, rfl⟩; rw [HV.out] at he; subst he)
          go_ret3
          exact ⟨by rw [HR.out]; rfl, Below.refl _ _⟩
        · have HR : Hid (intF s 4294967295 = (v, 0, 0)) := by unfold Hid; rw [HM.out]; exact if_neg hbig
          clear HM
          have c1 : ¬ (4294967295 : Int) < (v : Int) := by omega
          go_wp2_with (go_at_call 86; refine (Nu.magnitude_any s 10 (.inl rfl) _ (by omega) HG.out).mono ?_; rintro e w' ⟨he, rfl⟩; rw [HV.out] at he; subst he)
          go_ret3
          exact ⟨by rw [HR.out]; rfl, Below.refl _ _⟩
end Go.Proofs.YtijnbohjcmcfjaaGreatDoor.Sc
