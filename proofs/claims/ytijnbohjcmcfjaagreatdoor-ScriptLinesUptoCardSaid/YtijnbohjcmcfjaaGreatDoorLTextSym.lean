/-
  Walks: package text's Symbol.
-/
import Derived.Test.YtijnbohjcmcfjaaGreatDoorLKit
import Derived.Test.YtijnbohjcmcfjaaGreatDoorProg
namespace Go.Proofs.YtijnbohjcmcfjaaGreatDoor.Lk
open Go.RowKit Go.Proofs.YtijnbohjcmcfjaaGreatDoor.Kt
set_option linter.unusedSimpArgs false
set_option linter.unusedVariables false
theorem tletter_any (c : Nat) (w : World) : Calls Tryz.prog 38 #[.int .u8 c] w fun e w' => e = .returned (.bool (isLet c)) ∧ w = w' := by
  unfold isLet
  go_enter Tryz.func38, Tryz.ntmps38
  go_wp2
  all_goals go_ret
  all_goals exact ⟨ret_bool (by rw [Bool.eq_iff_iff]; simp; omega), rfl⟩
theorem tdigit_any (c : Nat) (w : World) : Calls Tryz.prog 39 #[.int .u8 c] w fun e w' => e = .returned (.bool (isDig c)) ∧ w = w' := by
  unfold isDig
  go_enter Tryz.func39, Tryz.ntmps39
  go_wp2
  all_goals go_ret
  all_goals exact ⟨ret_bool (by rw [Bool.eq_iff_iff]; simp; omega), rfl⟩
set_option maxHeartbeats 800000 in
theorem tsymbol_big (s : ByteArray) (w : World) (hm : s.size ≤ 268435456) :
    Calls Tryz.prog 17 #[.string s] w fun e w' => e = .returned (.bool (symOk s)) ∧ w = w' := by
  go_enter Tryz.func17, Tryz.ntmps17
  go_wp2
  go_loop [6] (fun i => ∃ k : Nat, i = .int .i64 k ∧ k ≤ s.size ∧ symAll s k = true) (fun i => s.size - (intOf i).toNat)
  case atStart => exact ⟨0, rfl, Nat.zero_le _, rfl⟩
  case round =>
    obtain ⟨k, rfl, hk, hall⟩ := hrel
    have HALL : Hid (symAll s k = true) := hall
    clear hall
    by_cases hlt : k < s.size
    · have hb := (gb_lt hlt).symm
      cases h3 : isLet (gb s k) with
      | true =>
        have H3 : Hid (isLet (gb s k) = true) := h3
        have HB : Hid (symAt s k = true) := by unfold Hid symAt; rw [h3]; rfl
        clear h3
        go_wp2_with (go_at_call 38; refine (tletter_any _ _).mono ?_; rintro e w' ⟨he, rfl⟩; rw [H3.out] at he; subst he)
        go_round
        case rel => exact ⟨k + 1, by go_num, by omega, symAll_succ HALL.out HB.out⟩
        case measure => simp [intOf]; omega
      | false =>
        have H3 : Hid (isLet (gb s k) = false) := h3
        by_cases hk0 : 0 < k
        · have e0 : (((k : Int) == 0) : Bool) = false := by simp; omega
          cases h4 : isDig (gb s k) with
          | true =>
            have H4 : Hid (isDig (gb s k) = true) := h4
            have HB : Hid (symAt s k = true) := by unfold Hid symAt; rw [h3, h4]; simp [hk0]
            clear h3 h4
            go_wp2_with (first
              | (go_at_call 38; refine (tletter_any _ _).mono ?_; rintro e w' ⟨he, rfl⟩; rw [H3.out] at he; subst he)
              | (go_at_call 39; refine (tdigit_any _ _).mono ?_; rintro e w' ⟨he, rfl⟩; rw [H4.out] at he; subst he))
            go_round
            case rel => exact ⟨k + 1, by go_num, by omega, symAll_succ HALL.out HB.out⟩
            case measure => simp [intOf]; omega
          | false =>
            have H4 : Hid (isDig (gb s k) = false) := h4
            have HR : Hid (symOk s = false) := by unfold Hid symOk; rw [symAll_bad (k := k) (by unfold symAt; rw [h3, h4]; simp) hlt]; simp
            clear h3 h4
            go_wp2_with (first
              | (go_at_call 38; refine (tletter_any _ _).mono ?_; rintro e w' ⟨he, rfl⟩; rw [H3.out] at he; subst he)
              | (go_at_call 39; refine (tdigit_any _ _).mono ?_; rintro e w' ⟨he, rfl⟩; rw [H4.out] at he; subst he))
            go_ret
            exact ⟨ret_bool HR.out.symm, rfl⟩
        · obtain rfl : k = 0 := by omega
          have HR : Hid (symOk s = false) := by unfold Hid symOk; rw [symAll_bad (k := 0) (by unfold symAt; rw [h3]; simp) hlt]; simp
          clear h3
          go_wp2_with (go_at_call 38; refine (tletter_any _ _).mono ?_; rintro e w' ⟨he, rfl⟩; rw [H3.out] at he; subst he)
          go_ret
          exact ⟨ret_bool HR.out.symm, rfl⟩
    · obtain rfl : k = s.size := by omega
      by_cases hz : s.size = 0
      · have e := empty_of_size hz
        subst e
        go_wp2
        go_ret
        exact ⟨rfl, rfl⟩
      · have he := isEmpty_false hz
        have HZ : Hid (symOk s = decide (s.size ≤ 64)) := by unfold Hid symOk; rw [HALL.out]; simp; omega
        by_cases h64 : s.size ≤ 64
        · have h64' : (s.size : Int) ≤ 64 := by omega
          have HR : Hid (symOk s = true) := by rw [Hid, HZ.out]; simpa using h64
          clear hz h64
          go_wp2
          go_ret
          exact ⟨ret_bool (by rw [HR.out]), rfl⟩
        · have h64' : ¬ (s.size : Int) ≤ 64 := by omega
          have HR : Hid (symOk s = false) := by rw [Hid, HZ.out]; simpa using h64
          clear hz h64
          go_wp2
          go_ret
          exact ⟨ret_bool (by rw [HR.out]), rfl⟩
theorem tsymbol_any (s : ByteArray) (w : World) (hm : s.size ≤ 1048576) :
    Calls Tryz.prog 17 #[.string s] w fun e w' => e = .returned (.bool (symOk s)) ∧ w = w' := tsymbol_big s w (by omega)
end Go.Proofs.YtijnbohjcmcfjaaGreatDoor.Lk
