/-
  Walks: package number's small functions, and its reading of whole numbers.
-/
import Derived.Test.YtijnbohjcmcfjaaGreatDoorNum0
import Derived.Deep.LoopGhost
namespace Go.Proofs.YtijnbohjcmcfjaaGreatDoor.Nu
open Go.RowKit Go.Proofs.YtijnbohjcmcfjaaGreatDoor.Kt Go.Proofs.YtijnbohjcmcfjaaGreatDoor.Lk
set_option linter.unusedSimpArgs false
set_option linter.unusedVariables false
set_option maxRecDepth 100000

/-- what a letter is worth as a digit; -1 of any other -/
def worthI (c : Nat) : Int := if isDig c then (c : Int) - 48 else if 97 ≤ c ∧ c ≤ 102 then (c : Int) - 87 else if 65 ≤ c ∧ c ≤ 70 then (c : Int) - 55 else -1
theorem worthI_lt (c : Nat) : worthI c < 16 := by unfold worthI isDig; simp only [decide_eq_true_eq]; split <;> (try split) <;> (try split) <;> omega
def digAt (s : ByteArray) (hex : Bool) (k : Nat) : Bool := isDig (gb s k) || (hex && decide (0 ≤ worthI (gb s k)))
/-- the place behind the digits -/
def digEnd (s : ByteArray) (hex : Bool) (k : Nat) : Nat := if h : k < s.size ∧ digAt s hex k = true then digEnd s hex (k + 1) else k
termination_by s.size - k
decreasing_by omega

theorem isDigit_any (c : Nat) (w : World) : Calls Tryz.prog 121 #[.int .u8 c] w fun e w' => e = .returned (.bool (isDig c)) ∧ w = w' := by
  unfold isDig
  go_enter Tryz.func121, Tryz.ntmps121
  go_wp2
  all_goals go_ret
  all_goals exact ⟨ret_bool (by rw [Bool.eq_iff_iff]; simp; omega), rfl⟩

theorem worth_any (c : Nat) (w : World) : Calls Tryz.prog 122 #[.int .u8 c] w fun e w' => e = .returned (.int .i64 (worthI c)) ∧ w = w' := by
  cases hd : isDig c with
  | true =>
    have hc : 48 ≤ c ∧ c ≤ 57 := by simpa [isDig] using hd
    have HD : Hid (isDig c = true) := hd
    have hw : IntKind.u8.wrap ((c : Int) - 48) = (c : Int) - 48 := by simp [IntKind.wrap, IntKind.bits, IntKind.signed]; omega
    have HE : Hid (worthI c = (c : Int) - 48) := by unfold Hid worthI; rw [HD.out]; rfl
    have HC : Hid (48 ≤ c ∧ c ≤ 57) := hc
    clear hd hc
    go_enter Tryz.func122, Tryz.ntmps122
    go_wp2_with (go_at_call 121; refine (isDigit_any _ _).mono ?_; rintro e w' ⟨he, rfl⟩; rw [HD.out] at he; subst he)
    go_ret
    exact ⟨ret_int (by have := HC.out; rw [HE.out]; unfold wrap64; omega), rfl⟩
  | false =>
    have HD : Hid (isDig c = false) := hd
    by_cases h1 : 97 ≤ c ∧ c ≤ 102
    · have hw : IntKind.u8.wrap ((c : Int) - 97) = (c : Int) - 97 := by simp [IntKind.wrap, IntKind.bits, IntKind.signed]; omega
      have hw2 : IntKind.i64.wrap ((c : Int) - 97 + 10) = (c : Int) - 97 + 10 := IntWalk.i64_in _ (by omega)
      have HE : Hid (worthI c = (c : Int) - 97 + 10) := by unfold Hid worthI; rw [HD.out]; simp [h1]; omega
      have d1 : decide ((c : Int) ≥ 97) = true := by simp; omega
      have d2 : decide ((c : Int) ≤ 102) = true := by simp; omega
      obtain ⟨e1, e2⟩ := h1
      clear hd
      go_enter Tryz.func122, Tryz.ntmps122
      go_wp2_with (go_at_call 121; refine (isDigit_any _ _).mono ?_; rintro e w' ⟨he, rfl⟩; rw [HD.out] at he; subst he)
      go_ret
      exact ⟨ret_int HE.out.symm, rfl⟩
    · by_cases h2 : 65 ≤ c ∧ c ≤ 70
      · have hw : IntKind.u8.wrap ((c : Int) - 65) = (c : Int) - 65 := by simp [IntKind.wrap, IntKind.bits, IntKind.signed]; omega
        have hw2 : IntKind.i64.wrap ((c : Int) - 65 + 10) = (c : Int) - 65 + 10 := IntWalk.i64_in _ (by omega)
        have HE : Hid (worthI c = (c : Int) - 65 + 10) := by unfold Hid worthI; rw [HD.out]; simp [h1, h2]; omega
        have d1 : ¬ 97 ≤ c := by omega
        obtain ⟨e1, e2⟩ := h2
        clear hd h1
        go_enter Tryz.func122, Tryz.ntmps122
        go_wp2_with (go_at_call 121; refine (isDigit_any _ _).mono ?_; rintro e w' ⟨he, rfl⟩; rw [HD.out] at he; subst he)
        go_ret
        exact ⟨ret_int HE.out.symm, rfl⟩
      · have HE : Hid (worthI c = -1) := by unfold Hid worthI; rw [HD.out]; simp [h1, h2]
        have n1 : Hid (¬ (97 ≤ c ∧ c ≤ 102)) := h1
        have n2 : Hid (¬ (65 ≤ c ∧ c ≤ 70)) := h2
        clear hd h1 h2
        go_enter Tryz.func122, Tryz.ntmps122
        go_wp2_with (go_at_call 121; refine (isDigit_any _ _).mono ?_; rintro e w' ⟨he, rfl⟩; rw [HD.out] at he; subst he)
        all_goals first
          | (exact absurd (by omega) n1.out)
          | (exact absurd (by omega) n2.out)
          | (go_ret; exact ⟨ret_int HE.out.symm, rfl⟩)

theorem digEnd_go {s : ByteArray} {hex : Bool} {k : Nat} (h1 : k < s.size) (h2 : digAt s hex k = true) : digEnd s hex (k + 1) = digEnd s hex k := by
  conv => rhs; rw [digEnd]
  simp [h1, h2]
theorem digEnd_stop {s : ByteArray} {hex : Bool} {k : Nat} (h : ¬ (k < s.size ∧ digAt s hex k = true)) : digEnd s hex k = k := by
  rw [digEnd]; simp [h]

set_option maxHeartbeats 1600000 in
theorem digitsFrom_any (s : ByteArray) (a : Nat) (hex : Bool) (w : World) (ha : a ≤ s.size) (hm : s.size ≤ 1099511627776) :
    Calls Tryz.prog 85 #[.string s, .int .i64 a, .bool hex] w fun e w' => e = .returned (.int .i64 (digEnd s hex a)) ∧ w = w' := by
  go_enter Tryz.func85, Tryz.ntmps85
  go_wp2
  go_loopw [1] (fun i wr => ∃ k : Nat, i = .int .i64 k ∧ k ≤ s.size ∧ digEnd s hex k = digEnd s hex a ∧ wr = w) (fun i _ => s.size - (intOf i).toNat)
  case atStart => exact ⟨a, rfl, ha, rfl, rfl⟩
  case round =>
    obtain ⟨k, rfl, hk, hall, rfl⟩ := hrel
    have HALL : Hid (digEnd s hex k = digEnd s hex a) := hall
    clear hall
    by_cases hlt : k < s.size
    · have hb := (gb_lt hlt).symm
      have HLT : Hid (k < s.size) := hlt
      cases hd : isDig (gb s k) with
      | true =>
        have HD : Hid (isDig (gb s k) = true) := hd
        have HG : Hid (digAt s hex k = true) := by unfold Hid digAt; rw [hd]; rfl
        clear hd
        go_wp2_with (go_at_call 121; refine (isDigit_any _ _).mono ?_; rintro e w' ⟨he, rfl⟩; rw [HD.out] at he; subst he)
        go_roundw
        case rel => exact ⟨k + 1, by simp, by omega, (digEnd_go hlt HG.out).trans HALL.out, (by first | rfl | trivial)⟩
        case measure => simp [intOf]; omega
      | false =>
        have HD : Hid (isDig (gb s k) = false) := hd
        clear hd
        cases hex with
        | false =>
          have HG : Hid (digAt s false k = false) := by unfold Hid digAt; rw [HD.out]; rfl
          go_wp2_with (go_at_call 121; refine (isDigit_any _ _).mono ?_; rintro e w' ⟨he, rfl⟩; rw [HD.out] at he; subst he)
          go_ret
          exact ⟨ret_int (by rw [← HALL.out, digEnd_stop (by rw [HG.out]; simp)]), rfl⟩
        | true =>
          by_cases hw : 0 ≤ worthI (gb s k)
          · have HG : Hid (digAt s true k = true) := by unfold Hid digAt; simp [hw]
            have d1 : decide (worthI (gb s k) ≥ 0) = true := by simpa using hw
            clear hw
            go_wp2_with (first
              | (go_at_call 121; refine (isDigit_any _ _).mono ?_; rintro e w' ⟨he, rfl⟩; rw [HD.out] at he; subst he)
              | (go_at_call 122; refine (worth_any _ _).mono ?_; rintro e w' ⟨rfl, rfl⟩))
            go_roundw
            case rel => exact ⟨k + 1, by simp, by omega, (digEnd_go hlt HG.out).trans HALL.out, (by first | rfl | trivial)⟩
            case measure => simp [intOf]; omega
          · have HG : Hid (digAt s true k = false) := by unfold Hid digAt; rw [HD.out]; simp; omega
            have d1 : decide (worthI (gb s k) ≥ 0) = false := by simpa using hw
            clear hw
            go_wp2_with (first
              | (go_at_call 121; refine (isDigit_any _ _).mono ?_; rintro e w' ⟨he, rfl⟩; rw [HD.out] at he; subst he)
              | (go_at_call 122; refine (worth_any _ _).mono ?_; rintro e w' ⟨rfl, rfl⟩))
            go_ret
            exact ⟨ret_int (by rw [← HALL.out, digEnd_stop (by rw [HG.out]; simp)]), rfl⟩
    · have HLT : Hid (¬ k < s.size) := hlt
      go_wp2
      go_ret
      exact ⟨ret_int (by rw [← HALL.out, digEnd_stop (by simp [HLT.out])]), rfl⟩
end Go.Proofs.YtijnbohjcmcfjaaGreatDoor.Nu
