/-
  Walks: hex digits: package text's and the document's.
-/
import Derived.Test.YtijnbohjcmcfjaaGreatDoorLKit
import Derived.Test.YtijnbohjcmcfjaaGreatDoorProg
import Derived.Test.YtijnbohjcmcfjaaGreatDoorLRefSym
import Derived.StillTailTactics
namespace Go.Proofs.YtijnbohjcmcfjaaGreatDoor.Hx
open Go.RowKit Go.Proofs.YtijnbohjcmcfjaaGreatDoor.Kt Go.Proofs.YtijnbohjcmcfjaaGreatDoor.Lk
set_option linter.unusedSimpArgs false
set_option linter.unusedVariables false
set_option maxRecDepth 100000

/-- what a letter is worth as a hex digit; -1 of any other -/
def worthI (c : Nat) : Int := if isDig c then (c : Int) - 48 else if 97 ≤ c ∧ c ≤ 102 then (c : Int) - 87 else if 65 ≤ c ∧ c ≤ 70 then (c : Int) - 55 else -1
theorem tdigit_any (c : Nat) (w : World) : Calls Tryz.prog 39 #[.int .u8 c] w fun e w' => e = .returned (.bool (isDig c)) ∧ w = w' := by
  unfold isDig
  go_enter Tryz.func39, Tryz.ntmps39
  go_wp2
  all_goals go_ret
  all_goals exact ⟨ret_bool (by rw [Bool.eq_iff_iff]; simp; omega), rfl⟩
/-- nibble's two answers -/
def nibV (c : Nat) : Value := if 0 ≤ worthI c then .tuple #[.int .i64 (worthI c), .bool true] else .tuple #[.int .i64 0, .bool false]
theorem nibV_of {c : Nat} {v : Int} (h : worthI c = v) (h0 : 0 ≤ v) : nibV c = .tuple #[.int .i64 v, .bool true] := by unfold nibV; rw [h, if_pos h0]
theorem nibV_no {c : Nat} (h : worthI c = -1) : nibV c = .tuple #[.int .i64 0, .bool false] := by unfold nibV; rw [h, if_neg (by decide)]
theorem nibble_any (c : Nat) (w : World) : Calls Tryz.prog 165 #[.int .u8 c] w fun e w' => e = .returned (nibV c) ∧ w = w' := by
  cases hd : isDig c with
  | true =>
    have hc : 48 ≤ c ∧ c ≤ 57 := by simpa [isDig] using hd
    have HD : Hid (isDig c = true) := hd
    have hw : IntKind.u8.wrap ((c : Int) - 48) = (c : Int) - 48 := by simp [IntKind.wrap, IntKind.bits, IntKind.signed]; omega
    have HE : Hid (nibV c = .tuple #[.int .i64 ((c : Int) - 48), .bool true]) := nibV_of (by unfold worthI; rw [HD.out]; rfl) (by omega)
    have HW : Hid (wrap64 ((c : Int) - 48) = (c : Int) - 48) := by unfold Hid wrap64; omega
    clear hd hc
    go_enter Tryz.func165, Tryz.ntmps165
    go_wp2_with (go_at_call 39; refine (tdigit_any _ _).mono ?_; rintro e w' ⟨he, rfl⟩; rw [HD.out] at he; subst he)
    go_ret2
    exact ⟨by rw [HE.out]; first | rfl | exact congrArg (fun x => Ending.returned (.tuple #[.int .i64 x, .bool true])) HW.out, rfl⟩
  | false =>
    have HD : Hid (isDig c = false) := hd
    by_cases h1 : 97 ≤ c ∧ c ≤ 102
    · have hw : IntKind.u8.wrap ((c : Int) - 97) = (c : Int) - 97 := by simp [IntKind.wrap, IntKind.bits, IntKind.signed]; omega
      have hw2 : IntKind.i64.wrap ((c : Int) - 97 + 10) = (c : Int) - 97 + 10 := IntWalk.i64_in _ (by omega)
      have HE : Hid (nibV c = .tuple #[.int .i64 ((c : Int) - 97 + 10), .bool true]) := nibV_of (by unfold worthI; rw [HD.out]; simp [h1]; omega) (by omega)
      obtain ⟨e1, e2⟩ := h1
      clear hd
      go_enter Tryz.func165, Tryz.ntmps165
      go_wp2_with (go_at_call 39; refine (tdigit_any _ _).mono ?_; rintro e w' ⟨he, rfl⟩; rw [HD.out] at he; subst he)
      go_ret2
      exact ⟨by rw [HE.out]; rfl, rfl⟩
    · by_cases h2 : 65 ≤ c ∧ c ≤ 70
      · have hw : IntKind.u8.wrap ((c : Int) - 65) = (c : Int) - 65 := by simp [IntKind.wrap, IntKind.bits, IntKind.signed]; omega
        have hw2 : IntKind.i64.wrap ((c : Int) - 65 + 10) = (c : Int) - 65 + 10 := IntWalk.i64_in _ (by omega)
        have HE : Hid (nibV c = .tuple #[.int .i64 ((c : Int) - 65 + 10), .bool true]) := nibV_of (by unfold worthI; rw [HD.out]; simp [h1, h2]; omega) (by omega)
        have d1 : ¬ 97 ≤ c := by omega
        obtain ⟨e1, e2⟩ := h2
        clear hd h1
        go_enter Tryz.func165, Tryz.ntmps165
        go_wp2_with (go_at_call 39; refine (tdigit_any _ _).mono ?_; rintro e w' ⟨he, rfl⟩; rw [HD.out] at he; subst he)
        go_ret2
        exact ⟨by rw [HE.out]; rfl, rfl⟩
      · have HE : Hid (nibV c = .tuple #[.int .i64 0, .bool false]) := nibV_no (by unfold worthI; rw [HD.out]; simp [h1, h2])
        have n1 : Hid (¬ (97 ≤ c ∧ c ≤ 102)) := h1
        have n2 : Hid (¬ (65 ≤ c ∧ c ≤ 70)) := h2
        clear hd h1 h2
        go_enter Tryz.func165, Tryz.ntmps165
        go_wp2_with (go_at_call 39; refine (tdigit_any _ _).mono ?_; rintro e w' ⟨he, rfl⟩; rw [HD.out] at he; subst he)
        all_goals first
          | (exact absurd (by omega) n1.out)
          | (exact absurd (by omega) n2.out)
          | (go_ret2; exact ⟨by rw [HE.out]; rfl, rfl⟩)
theorem small_any (n : Nat) (hn : n < 16) (w : World) : Calls Tryz.prog 55 #[.int .u8 n] w fun e w' => e = .returned (.int .u8 (if n < 10 then 48 + (n : Int) else 87 + (n : Int))) ∧ w = w' := by
  by_cases h10 : n < 10
  · have HE : Hid ((if n < 10 then 48 + (n : Int) else 87 + (n : Int)) = 48 + (n : Int)) := if_pos h10
    have hw : IntKind.u8.wrap (48 + (n : Int)) = 48 + (n : Int) := by simp [IntKind.wrap, IntKind.bits, IntKind.signed]; omega
    go_enter Tryz.func55, Tryz.ntmps55
    go_wp2
    go_ret
    exact ⟨ret_int (by first | rfl | exact HE.out.symm), rfl⟩
  · have HE : Hid ((if n < 10 then 48 + (n : Int) else 87 + (n : Int)) = 87 + (n : Int)) := if_neg h10
    have hw : IntKind.u8.wrap (97 + (n : Int)) = 97 + (n : Int) := by simp [IntKind.wrap, IntKind.bits, IntKind.signed]; omega
    have hw2 : IntKind.u8.wrap (97 + (n : Int) - 10) = 97 + (n : Int) - 10 := by simp [IntKind.wrap, IntKind.bits, IntKind.signed]; omega
    go_enter Tryz.func55, Tryz.ntmps55
    go_wp2
    go_ret
    exact ⟨ret_int (by first | omega | (rw [HE.out]; omega)), rfl⟩
theorem rworth_any (c : Nat) (w : World) : Calls Tryz.prog 76 #[.int .u8 c, .bool true] w fun e w' => e = .returned (.int .i64 (worthI c)) ∧ w = w' := by
  by_cases h0 : 48 ≤ c ∧ c ≤ 57
  · have hw : IntKind.u8.wrap ((c : Int) - 48) = (c : Int) - 48 := by simp [IntKind.wrap, IntKind.bits, IntKind.signed]; omega
    have HE : Hid (worthI c = (c : Int) - 48) := by unfold Hid worthI; rw [if_pos (show isDig c = true from decide_eq_true h0)]
    have HW : Hid (wrap64 ((c : Int) - 48) = (c : Int) - 48) := by unfold Hid wrap64; omega
    obtain ⟨e1, e2⟩ := h0
    go_enter Tryz.func76, Tryz.ntmps76
    go_wp2
    go_ret
    exact ⟨ret_int (by first | (rw [HE.out]; done) | (rw [HE.out]; exact HW.out)), rfl⟩
  · have hnd : isDig c = false := by unfold isDig; exact decide_eq_false h0
    by_cases h1 : 97 ≤ c ∧ c ≤ 102
    · have hw : IntKind.u8.wrap ((c : Int) - 97) = (c : Int) - 97 := by simp [IntKind.wrap, IntKind.bits, IntKind.signed]; omega
      have hw2 : IntKind.i64.wrap ((c : Int) - 97 + 10) = (c : Int) - 97 + 10 := IntWalk.i64_in _ (by omega)
      have HE : Hid (worthI c = (c : Int) - 97 + 10) := by unfold Hid worthI; rw [hnd]; simp [h1]; omega
      have d0 : ¬ c ≤ 57 := by omega
      obtain ⟨e1, e2⟩ := h1
      clear h0 hnd
      go_enter Tryz.func76, Tryz.ntmps76
      go_wp2
      go_ret
      exact ⟨ret_int HE.out.symm, rfl⟩
    · by_cases h2 : 65 ≤ c ∧ c ≤ 70
      · have hw : IntKind.u8.wrap ((c : Int) - 65) = (c : Int) - 65 := by simp [IntKind.wrap, IntKind.bits, IntKind.signed]; omega
        have hw2 : IntKind.i64.wrap ((c : Int) - 65 + 10) = (c : Int) - 65 + 10 := IntWalk.i64_in _ (by omega)
        have HE : Hid (worthI c = (c : Int) - 65 + 10) := by unfold Hid worthI; rw [hnd]; simp [h1, h2]; omega
        have d0 : ¬ c ≤ 57 := by omega
        have d1 : ¬ 97 ≤ c := by omega
        obtain ⟨e1, e2⟩ := h2
        clear h0 h1 hnd
        go_enter Tryz.func76, Tryz.ntmps76
        go_wp2
        go_ret
        exact ⟨ret_int HE.out.symm, rfl⟩
      · have HE : Hid (worthI c = -1) := by unfold Hid worthI; rw [hnd]; simp [h1, h2]
        have n0 : Hid (¬ (48 ≤ c ∧ c ≤ 57)) := h0
        have n1 : Hid (¬ (97 ≤ c ∧ c ≤ 102)) := h1
        have n2 : Hid (¬ (65 ≤ c ∧ c ≤ 70)) := h2
        clear h0 h1 h2 hnd
        go_enter Tryz.func76, Tryz.ntmps76
        go_wp2
        all_goals first
          | (exact absurd (by omega) n0.out)
          | (exact absurd (by omega) n1.out)
          | (exact absurd (by omega) n2.out)
          | (go_ret; exact ⟨ret_int HE.out.symm, rfl⟩)
end Go.Proofs.YtijnbohjcmcfjaaGreatDoor.Hx
