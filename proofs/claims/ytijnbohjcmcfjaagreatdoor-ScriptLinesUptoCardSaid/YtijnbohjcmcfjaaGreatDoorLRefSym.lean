/-
  Walks: the document's own Symbol.
-/
import Derived.Test.YtijnbohjcmcfjaaGreatDoorLKit
import Derived.Test.YtijnbohjcmcfjaaGreatDoorProg
namespace Go.Proofs.YtijnbohjcmcfjaaGreatDoor.Lk
open Go.RowKit Go.Proofs.YtijnbohjcmcfjaaGreatDoor.Kt
set_option linter.unusedSimpArgs false
set_option linter.unusedVariables false

/-- a letter of the alphabet alone -/
def isAbc (c : Nat) : Bool := decide (97 ≤ c ∧ c ≤ 122) || decide (65 ≤ c ∧ c ≤ 90)
theorem isLet_abc (c : Nat) : isLet c = (isAbc c || c == 95) := rfl
theorem rletter_any (c : Nat) (w : World) : Calls Tryz.prog 68 #[.int .u8 c] w fun e w' => e = .returned (.bool (isAbc c)) ∧ w = w' := by
  unfold isAbc
  go_enter Tryz.func68, Tryz.ntmps68
  go_wp2
  all_goals go_ret
  all_goals exact ⟨ret_bool (by rw [Bool.eq_iff_iff]; simp; omega), rfl⟩
theorem rdigit_any (c : Nat) (w : World) : Calls Tryz.prog 69 #[.int .u8 c] w fun e w' => e = .returned (.bool (isDig c)) ∧ w = w' := by
  unfold isDig
  go_enter Tryz.func69, Tryz.ntmps69
  go_wp2
  all_goals go_ret
  all_goals exact ⟨ret_bool (by rw [Bool.eq_iff_iff]; simp; omega), rfl⟩

set_option maxHeartbeats 1600000 in
theorem made_any (s : ByteArray) (w : World) (hm : s.size ≤ 1048576) :
    Calls Tryz.prog 47 #[.string s, .string ⟨#[95]⟩, .string ⟨#[95]⟩] w fun e w' => e = .returned (.bool (decide (0 < s.size) && symAll s s.size)) ∧ ∃ n, w' = w.drewN n := by
  go_enter Tryz.func47, Tryz.ntmps47
  go_wp2
  go_loopw [7] (fun i wr => ∃ k n : Nat, i = .int .i64 k ∧ k ≤ s.size ∧ symAll s k = true ∧ wr = w.drewN n) (fun i _ => s.size - (intOf i).toNat)
  case atStart => exact ⟨0, 0, rfl, Nat.zero_le _, rfl, rfl⟩
  case round =>
    obtain ⟨k, n, rfl, hk, hall, rfl⟩ := hrel
    have HALL : Hid (symAll s k = true) := hall
    clear hall
    by_cases hlt : k < s.size
    · have hb := (gb_lt hlt).symm
      cases h3 : isAbc (gb s k) with
      | true =>
        have H3 : Hid (isAbc (gb s k) = true) := h3
        have HB : Hid (symAt s k = (true || gb s k == 95)) := by unfold Hid symAt; rw [isLet_abc, h3]; simp
        clear h3
        by_cases hk0 : 0 < k
        · skip
          go_wp2_with (first
            | (go_at_call 68; refine (rletter_any _ _).mono ?_; rintro e w' ⟨he, rfl⟩; rw [H3.out] at he; subst he)
            | (go_at_call 69; refine (rdigit_any _ _).mono ?_; rintro e w' ⟨rfl, rfl⟩))
          go_loopw [9, 10] (fun b j wx => ∃ (q m : Nat) (c : Bool), j = .int .i64 q ∧ q ≤ 1 ∧ b = .bool c ∧ (q = 0 → c = true) ∧ (q = 1 → c = symAt s k) ∧ wx = w.drewN m) (fun _ j _ => 1 - (intOf j).toNat)
          case atStart => exact ⟨0, _, _, rfl, by omega, rfl, fun _ => rfl, fun h => by omega, rfl⟩
          case round =>
            obtain ⟨q, m, c, rfl, hq, rfl, hc0, hc1, rfl⟩ := hrel
            by_cases hq0 : q = 0
            · subst hq0
              have HC : Hid (c = true) := hc0 rfl
              clear hc0 hc1
              by_cases h95 : gb s k = 95
              · have HS : Hid (symAt s k = true) := by rw [Hid, HB.out, h95]; simp
                have d1 : (((((⟨#[95]⟩ : ByteArray)[0]'(by decide)).toNat : Nat) : Int) == ((gb s k : Nat) : Int)) = true := by rw [h95]; rfl
                clear h95
                go_wp2
                go_big_quiet (fail)
                go_wp2
                go_roundw
                case rel => exact ⟨1, _, true, rfl, by omega, rfl, fun h => by omega, fun _ => HS.out.symm, rfl⟩
                case measure => simp [intOf]
              · have HS : Hid (symAt s k = true) := by rw [Hid, HB.out]; simp [h95]
                have d1 : (((((⟨#[95]⟩ : ByteArray)[0]'(by decide)).toNat : Nat) : Int) == ((gb s k : Nat) : Int)) = false := by show ((95 : Int) == ((gb s k : Nat) : Int)) = false; simp; omega
                clear h95
                go_wp2
                go_big_quiet (fail)
                go_wp2
                go_roundw
                case rel => exact ⟨1, _, c, rfl, by omega, rfl, fun h => by omega, fun _ => HC.out.trans HS.out.symm, rfl⟩
                case measure => simp [intOf]
            · obtain rfl : q = 1 := by omega
              have HC : Hid (c = symAt s k) := hc1 rfl
              clear hc0 hc1 hq0
              cases c with
              | true =>
                go_wp2
                go_roundw
                case rel => exact ⟨k + 1, _, rfl, by omega, symAll_succ HALL.out HC.out.symm, rfl⟩
                case measure => simp [intOf]; omega
              | false =>
                have HR : Hid (symAll s s.size = false) := symAll_bad HC.out.symm hlt
                go_wp2
                go_ret
                exact ⟨ret_bool (by rw [HR.out]; simp), _, rfl⟩
        · obtain rfl : k = 0 := by omega
          go_wp2_with (first
            | (go_at_call 68; refine (rletter_any _ _).mono ?_; rintro e w' ⟨he, rfl⟩; rw [H3.out] at he; subst he)
            | (go_at_call 69; refine (rdigit_any _ _).mono ?_; rintro e w' ⟨rfl, rfl⟩))
          go_loopw [9, 10] (fun b j wx => ∃ (q m : Nat) (c : Bool), j = .int .i64 q ∧ q ≤ 1 ∧ b = .bool c ∧ (q = 0 → c = true) ∧ (q = 1 → c = symAt s 0) ∧ wx = w.drewN m) (fun _ j _ => 1 - (intOf j).toNat)
          case atStart => exact ⟨0, _, _, rfl, by omega, rfl, fun _ => rfl, fun h => by omega, rfl⟩
          case round =>
            obtain ⟨q, m, c, rfl, hq, rfl, hc0, hc1, rfl⟩ := hrel
            by_cases hq0 : q = 0
            · subst hq0
              have HC : Hid (c = true) := hc0 rfl
              clear hc0 hc1
              by_cases h95 : gb s 0 = 95
              · have HS : Hid (symAt s 0 = true) := by rw [Hid, HB.out, h95]; simp
                have d1 : (((((⟨#[95]⟩ : ByteArray)[0]'(by decide)).toNat : Nat) : Int) == ((gb s 0 : Nat) : Int)) = true := by rw [h95]; rfl
                clear h95
                go_wp2
                go_big_quiet (fail)
                go_wp2
                go_roundw
                case rel => exact ⟨1, _, true, rfl, by omega, rfl, fun h => by omega, fun _ => HS.out.symm, rfl⟩
                case measure => simp [intOf]
              · have HS : Hid (symAt s 0 = true) := by rw [Hid, HB.out]; simp [h95]
                have d1 : (((((⟨#[95]⟩ : ByteArray)[0]'(by decide)).toNat : Nat) : Int) == ((gb s 0 : Nat) : Int)) = false := by show ((95 : Int) == ((gb s 0 : Nat) : Int)) = false; simp; omega
                clear h95
                go_wp2
                go_big_quiet (fail)
                go_wp2
                go_roundw
                case rel => exact ⟨1, _, c, rfl, by omega, rfl, fun h => by omega, fun _ => HC.out.trans HS.out.symm, rfl⟩
                case measure => simp [intOf]
            · obtain rfl : q = 1 := by omega
              have HC : Hid (c = symAt s 0) := hc1 rfl
              clear hc0 hc1 hq0
              cases c with
              | true =>
                go_wp2
                go_roundw
                case rel => exact ⟨0 + 1, _, rfl, by omega, symAll_succ HALL.out HC.out.symm, rfl⟩
                case measure => simp [intOf]; omega
              | false =>
                have HR : Hid (symAll s s.size = false) := symAll_bad HC.out.symm hlt
                go_wp2
                go_ret
                exact ⟨ret_bool (by rw [HR.out]; simp), _, rfl⟩
      | false =>
        have H3 : Hid (isAbc (gb s k) = false) := h3
        by_cases hk0 : 0 < k
        · have HB : Hid (symAt s k = (isDig (gb s k) || gb s k == 95)) := by unfold Hid symAt; rw [isLet_abc, h3]; simp [hk0, Bool.or_comm]
          clear h3
          go_wp2_with (first
            | (go_at_call 68; refine (rletter_any _ _).mono ?_; rintro e w' ⟨he, rfl⟩; rw [H3.out] at he; subst he)
            | (go_at_call 69; refine (rdigit_any _ _).mono ?_; rintro e w' ⟨rfl, rfl⟩))
          go_loopw [9, 10] (fun b j wx => ∃ (q m : Nat) (c : Bool), j = .int .i64 q ∧ q ≤ 1 ∧ b = .bool c ∧ (q = 0 → c = isDig (gb s k)) ∧ (q = 1 → c = symAt s k) ∧ wx = w.drewN m) (fun _ j _ => 1 - (intOf j).toNat)
          case atStart => exact ⟨0, _, _, rfl, by omega, rfl, fun _ => rfl, fun h => by omega, rfl⟩
          case round =>
            obtain ⟨q, m, c, rfl, hq, rfl, hc0, hc1, rfl⟩ := hrel
            by_cases hq0 : q = 0
            · subst hq0
              have HC : Hid (c = isDig (gb s k)) := hc0 rfl
              clear hc0 hc1
              by_cases h95 : gb s k = 95
              · have HS : Hid (symAt s k = true) := by rw [Hid, HB.out, h95]; simp
                have d1 : (((((⟨#[95]⟩ : ByteArray)[0]'(by decide)).toNat : Nat) : Int) == ((gb s k : Nat) : Int)) = true := by rw [h95]; rfl
                clear h95
                go_wp2
                go_big_quiet (fail)
                go_wp2
                go_roundw
                case rel => exact ⟨1, _, true, rfl, by omega, rfl, fun h => by omega, fun _ => HS.out.symm, rfl⟩
                case measure => simp [intOf]
              · have HS : Hid (symAt s k = isDig (gb s k)) := by rw [Hid, HB.out]; simp [h95]
                have d1 : (((((⟨#[95]⟩ : ByteArray)[0]'(by decide)).toNat : Nat) : Int) == ((gb s k : Nat) : Int)) = false := by show ((95 : Int) == ((gb s k : Nat) : Int)) = false; simp; omega
                clear h95
                go_wp2
                go_big_quiet (fail)
                go_wp2
                go_roundw
                case rel => exact ⟨1, _, c, rfl, by omega, rfl, fun h => by omega, fun _ => HC.out.trans HS.out.symm, rfl⟩
                case measure => simp [intOf]
            · obtain rfl : q = 1 := by omega
              have HC : Hid (c = symAt s k) := hc1 rfl
              clear hc0 hc1 hq0
              cases c with
              | true =>
                go_wp2
                go_roundw
                case rel => exact ⟨k + 1, _, rfl, by omega, symAll_succ HALL.out HC.out.symm, rfl⟩
                case measure => simp [intOf]; omega
              | false =>
                have HR : Hid (symAll s s.size = false) := symAll_bad HC.out.symm hlt
                go_wp2
                go_ret
                exact ⟨ret_bool (by rw [HR.out]; simp), _, rfl⟩
        · have HB : Hid (symAt s k = (false || gb s k == 95)) := by unfold Hid symAt; rw [isLet_abc, h3]; simp [hk0]
          obtain rfl : k = 0 := by omega
          clear h3
          go_wp2_with (first
            | (go_at_call 68; refine (rletter_any _ _).mono ?_; rintro e w' ⟨he, rfl⟩; rw [H3.out] at he; subst he)
            | (go_at_call 69; refine (rdigit_any _ _).mono ?_; rintro e w' ⟨rfl, rfl⟩))
          go_loopw [9, 10] (fun b j wx => ∃ (q m : Nat) (c : Bool), j = .int .i64 q ∧ q ≤ 1 ∧ b = .bool c ∧ (q = 0 → c = false) ∧ (q = 1 → c = symAt s 0) ∧ wx = w.drewN m) (fun _ j _ => 1 - (intOf j).toNat)
          case atStart => exact ⟨0, _, _, rfl, by omega, rfl, fun _ => rfl, fun h => by omega, rfl⟩
          case round =>
            obtain ⟨q, m, c, rfl, hq, rfl, hc0, hc1, rfl⟩ := hrel
            by_cases hq0 : q = 0
            · subst hq0
              have HC : Hid (c = false) := hc0 rfl
              clear hc0 hc1
              by_cases h95 : gb s 0 = 95
              · have HS : Hid (symAt s 0 = true) := by rw [Hid, HB.out, h95]; simp
                have d1 : (((((⟨#[95]⟩ : ByteArray)[0]'(by decide)).toNat : Nat) : Int) == ((gb s 0 : Nat) : Int)) = true := by rw [h95]; rfl
                clear h95
                go_wp2
                go_big_quiet (fail)
                go_wp2
                go_roundw
                case rel => exact ⟨1, _, true, rfl, by omega, rfl, fun h => by omega, fun _ => HS.out.symm, rfl⟩
                case measure => simp [intOf]
              · have HS : Hid (symAt s 0 = false) := by rw [Hid, HB.out]; simp [h95]
                have d1 : (((((⟨#[95]⟩ : ByteArray)[0]'(by decide)).toNat : Nat) : Int) == ((gb s 0 : Nat) : Int)) = false := by show ((95 : Int) == ((gb s 0 : Nat) : Int)) = false; simp; omega
                clear h95
                go_wp2
                go_big_quiet (fail)
                go_wp2
                go_roundw
                case rel => exact ⟨1, _, c, rfl, by omega, rfl, fun h => by omega, fun _ => HC.out.trans HS.out.symm, rfl⟩
                case measure => simp [intOf]
            · obtain rfl : q = 1 := by omega
              have HC : Hid (c = symAt s 0) := hc1 rfl
              clear hc0 hc1 hq0
              cases c with
              | true =>
                go_wp2
                go_roundw
                case rel => exact ⟨0 + 1, _, rfl, by omega, symAll_succ HALL.out HC.out.symm, rfl⟩
                case measure => simp [intOf]; omega
              | false =>
                have HR : Hid (symAll s s.size = false) := symAll_bad HC.out.symm hlt
                go_wp2
                go_ret
                exact ⟨ret_bool (by rw [HR.out]; simp), _, rfl⟩
    · obtain rfl : k = s.size := by omega
      by_cases hz : s.size = 0
      · have e := empty_of_size hz
        subst e
        have HR : Hid (symAll ⟨#[]⟩ (ByteArray.size ⟨#[]⟩) = true) := rfl
        go_wp2
        go_ret
        exact ⟨rfl, _, rfl⟩
      · have he := isEmpty_false hz
        have HZ : Hid (decide (0 < s.size) = true) := by unfold Hid; simp; omega
        clear hz
        go_wp2
        go_ret
        exact ⟨ret_bool (by rw [HZ.out, HALL.out]; simp), _, rfl⟩
end Go.Proofs.YtijnbohjcmcfjaaGreatDoor.Lk
