/-
  Walks: package number's reading of whole numbers.
-/
import Derived.Test.YtijnbohjcmcfjaaGreatDoorNum1
namespace Go.Proofs.YtijnbohjcmcfjaaGreatDoor.Nu
open Go.RowKit Go.Proofs.YtijnbohjcmcfjaaGreatDoor.Kt Go.Proofs.YtijnbohjcmcfjaaGreatDoor.Lk
set_option linter.unusedSimpArgs false
set_option linter.unusedVariables false
set_option maxRecDepth 100000

def isHexS (s : ByteArray) : Bool := decide (2 ≤ s.size) && (gb s 0 == 48 && (gb s 1 == 120 || gb s 1 == 88))
theorem isHex_any (s : ByteArray) (w : World) : Calls Tryz.prog 133 #[.string s] w fun e w' => e = .returned (.bool (isHexS s)) ∧ w = w' := by
  by_cases h2 : 2 ≤ s.size
  · have l0 : 0 < s.size := by omega
    have l1 : 1 < s.size := by omega
    have b0 := (gb_lt l0).symm
    have b1 := (gb_lt l1).symm
    have HE : Hid (isHexS s = (gb s 0 == 48 && (gb s 1 == 120 || gb s 1 == 88))) := by unfold Hid isHexS; simp [h2]
    go_enter Tryz.func133, Tryz.ntmps133
    go_wp2
    all_goals go_ret
    all_goals exact ⟨ret_bool (by rw [HE.out, Bool.eq_iff_iff]; simp; omega), rfl⟩
  · have HE : Hid (isHexS s = false) := by unfold Hid isHexS; simp [h2]
    go_enter Tryz.func133, Tryz.ntmps133
    go_wp2
    go_ret
    exact ⟨ret_bool HE.out.symm, rfl⟩

/-- what digits say, from a place on; none: more than 64 bits hold -/
def magN (s : ByteArray) (b : Nat) (k v : Nat) : Option Nat :=
  if h : k < s.size then (if (18446744073709551615 - (worthI (gb s k)).toNat) / b < v then none else magN s b (k + 1) (v * b + (worthI (gb s k)).toNat)) else some v
termination_by s.size - k
def magV : Option Nat → Value
  | some v => .tuple #[.int .u64 v, .bool true]
  | none => .tuple #[.int .u64 0, .bool false]
set_option maxHeartbeats 1600000 in
theorem magnitude_any (s : ByteArray) (b : Nat) (hb : b = 10 ∨ b = 16) (w : World) (hm : s.size ≤ 1099511627776) (hd : ∀ k, k < s.size → 0 ≤ worthI (gb s k)) :
    Calls Tryz.prog 86 #[.string s, .int .u64 b] w fun e w' => e = .returned (magV (magN s b 0 0)) ∧ w = w' := by
  have HB : Hid (b = 10 ∨ b = 16) := hb
  have HD : Hid (∀ k, k < s.size → 0 ≤ worthI (gb s k)) := hd
  clear hb hd
  go_enter Tryz.func86, Tryz.ntmps86
  go_wp2
  go_loopw [6, 11] (fun x i wr => ∃ k v : Nat, i = .int .i64 k ∧ x = .int .u64 v ∧ k ≤ s.size ∧ v < 18446744073709551616 ∧ magN s b k v = magN s b 0 0 ∧ wr = w) (fun _ i _ => s.size - (intOf i).toNat)
  case atStart => exact ⟨0, 0, rfl, rfl, Nat.zero_le _, by omega, rfl, rfl⟩
  case round =>
    obtain ⟨k, v, rfl, rfl, hk, hv, hall, rfl⟩ := hrel
    have HALL : Hid (magN s b k v = magN s b 0 0) := hall
    have HV : Hid (v < 18446744073709551616) := hv
    clear hall hv
    by_cases hlt : k < s.size
    · have hb := (gb_lt hlt).symm
      obtain ⟨d, HE⟩ : ∃ d : Nat, Hid (worthI (gb s k) = (d : Int)) := ⟨(worthI (gb s k)).toNat, by have := HD.out k hlt; unfold Hid; omega⟩
      have HD16 : Hid (d < 16) := by have := worthI_lt (gb s k); rw [HE.out] at this; unfold Hid; omega
      have HT : Hid ((worthI (gb s k)).toNat = d) := by unfold Hid; rw [HE.out]; rfl
      have HLT : Hid (k < s.size) := hlt
      have w1 : IntKind.u64.wrap (d : Int) = d := by have := HD16.out; rw [IntKind.wrap_u64]; omega
      have w2 : IntKind.u64.wrap (18446744073709551615 - (d : Int)) = 18446744073709551615 - (d : Int) := by have := HD16.out; rw [IntKind.wrap_u64]; omega
      have hb0 : ¬ b = 0 := by have := HB.out; omega
      obtain ⟨q, HQ⟩ : ∃ q : Nat, Hid ((18446744073709551615 - d) / b = q) := ⟨_, rfl⟩
      have HQM : Hid (q ≤ 18446744073709551615) := by
        unfold Hid; rw [← HQ.out]; exact Nat.le_trans (Nat.div_le_self _ _) (Nat.sub_le _ _)
      have w3 : IntKind.u64.wrap ((18446744073709551615 - (d : Int)).tdiv (b : Int)) = (q : Int) := by
        have e1 : (18446744073709551615 - (d : Int)) = ((18446744073709551615 - d : Nat) : Int) := by have := HD16.out; omega
        rw [e1, ← Int.ofNat_tdiv, HQ.out, IntKind.wrap_u64]
        have := HQM.out; omega
      by_cases hqv : q < v
      · have HS : Hid (magN s b k v = none) := by
          unfold Hid; rw [magN, dif_pos HLT.out, HT.out, HQ.out, if_pos hqv]
        go_wp2_with (go_at_call 122; refine (worth_any _ _).mono ?_; rintro e w' ⟨he, rfl⟩; rw [HE.out] at he; subst he)
        go_ret2
        refine ⟨?_, rfl⟩
        rw [← HALL.out, HS.out]; rfl
      · have HS : Hid (magN s b k v = magN s b (k + 1) (v * b + d)) := by
          unfold Hid; rw [magN, dif_pos HLT.out, HT.out, HQ.out, if_neg hqv]
        have HM : Hid (v * b + d < 18446744073709551616) := by
          have h1 : v * b ≤ q * b := Nat.mul_le_mul_right _ (by omega)
          have h2 : q * b ≤ 18446744073709551615 - d := by rw [← HQ.out]; exact Nat.div_mul_le_self _ _
          have := HD16.out
          unfold Hid; omega
        have w4 : IntKind.u64.wrap ((v : Int) * (b : Int)) = (v : Int) * (b : Int) := by
          have := HM.out; rw [IntKind.wrap_u64, ← Int.natCast_mul]; omega
        have w5 : IntKind.u64.wrap ((v : Int) * (b : Int) + (d : Int)) = (v : Int) * (b : Int) + (d : Int) := by
          have := HM.out; rw [IntKind.wrap_u64, ← Int.natCast_mul]; omega
        go_wp2_with (go_at_call 122; refine (worth_any _ _).mono ?_; rintro e w' ⟨he, rfl⟩; rw [HE.out] at he; subst he)
        go_roundw
        case rel => exact ⟨k + 1, v * b + d, by simp, by simp, by omega, HM.out, HS.out.symm.trans HALL.out, (by first | rfl | trivial)⟩
        case measure => simp [intOf]; omega
    · have HLT : Hid (¬ k < s.size) := hlt
      go_wp2
      go_ret2
      refine ⟨?_, rfl⟩
      rw [← HALL.out, magN]
      simp [HLT.out, magV]
      skip
end Go.Proofs.YtijnbohjcmcfjaaGreatDoor.Nu
