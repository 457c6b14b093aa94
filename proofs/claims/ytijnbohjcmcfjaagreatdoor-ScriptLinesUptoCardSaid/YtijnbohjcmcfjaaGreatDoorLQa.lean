/-
  Walks: the document's numbers printed as uint64.
-/
import Derived.Test.YtijnbohjcmcfjaaGreatDoorLRef3b
import Derived.Test.YtijnbohjcmcfjaaGreatDoorLNum5
namespace Go.Proofs.YtijnbohjcmcfjaaGreatDoor.R3
open Go.RowKit Go.Proofs.YtijnbohjcmcfjaaGreatDoor.Kt Go.Proofs.YtijnbohjcmcfjaaGreatDoor.Lk Go.Proofs.YtijnbohjcmcfjaaGreatDoor.Rw Go.Proofs.YtijnbohjcmcfjaaGreatDoor.Bg
open Go.Proofs.YtijnbohjcmcfjaaGreatDoor.Nu (dgt dgt_last dgt_more)
set_option linter.unusedSimpArgs false
set_option linter.unusedVariables false
set_option maxRecDepth 100000

/-- the document's uint64 printed -/
theorem size8_any (w : World) : Calls Tryz.prog 114 #[.int .i64 8] w fun e w' => e = .returned (.int .i64 8) ∧ w = w' := by
  go_enter Tryz.func114, Tryz.ntmps114
  go_wp2
  go_ret
  exact ⟨rfl, rfl⟩
theorem signed8_any (w : World) : Calls Tryz.prog 80 #[.int .i64 8] w fun e w' => e = .returned (.bool false) ∧ w = w' := by
  go_enter Tryz.func80, Tryz.ntmps80
  go_wp2
  go_ret
  exact ⟨rfl, rfl⟩
/-- all bits of n -/
def ones : Nat → Nat
  | 0 => 0
  | n + 1 => 2 * ones n + 1
theorem ones_lt (n : Nat) : ones n < 2 ^ n := by
  induction n with
  | zero => decide
  | succ n ih => rw [ones, Nat.pow_succ]; omega
theorem bits64_any (w : World) : Calls Tryz.prog 116 #[.int .i64 64] w fun e w' => e = .returned (.int .u64 (ones 64 : Nat)) ∧ w = w' := by
  go_enter Tryz.func116, Tryz.ntmps116
  go_wp2
  go_loop [3, 4] (fun nv iv => ∃ k : Nat, iv = .int .i64 k ∧ k ≤ 64 ∧ nv = .int .u64 (ones k : Nat)) (fun _ iv => 64 - (intOf iv).toNat)
  case atStart => exact ⟨0, rfl, by omega, rfl⟩
  case round =>
    obtain ⟨k, rfl, hk, rfl⟩ := hrel
    by_cases hlt : k < 64
    · have h1 := ones_lt k
      have h2 : 2 ^ k ≤ 2 ^ 63 := Nat.pow_le_pow_right (by decide) (by omega)
      obtain ⟨o, ho⟩ : ∃ o, o = ones k := ⟨_, rfl⟩
      have HO : Hid (ones (k + 1) = 2 * o + 1) := by unfold Hid; rw [ho]; rfl
      rw [← ho] at h1 ⊢
      have hw1 : IntKind.u64.wrap (2 * (o : Int)) = 2 * (o : Int) := by simp [IntKind.wrap, IntKind.bits, IntKind.signed]; omega
      have hw2 : IntKind.u64.wrap (2 * (o : Int) + 1) = 2 * (o : Int) + 1 := by simp [IntKind.wrap, IntKind.bits, IntKind.signed]; omega
      clear h1 h2 ho
      go_wp2
      go_round
      case rel => exact ⟨k + 1, by go_num, by omega, by rw [HO.out]; congr 1⟩
      case measure => simp [intOf]; omega
    · obtain rfl : k = 64 := by omega
      go_wp2
      go_ret
      exact ⟨rfl, rfl⟩
theorem fits8_any (n : Nat) (hn : n < 18446744073709551616) (w : World) : Calls Tryz.prog 77 #[.int .i64 8, .int .u64 n] w fun e w' => e = .returned (.bool true) ∧ w = w' := by
  have hle : (n : Int) ≤ (ones 64 : Nat) := by have : ones 64 = 18446744073709551615 := by decide
                                               rw [this]; omega
  obtain ⟨M, hM⟩ : ∃ M : Nat, M = ones 64 := ⟨_, rfl⟩
  have HM : Hid (ones 64 = M) := hM.symm
  rw [← hM] at hle
  have HB : Hid (∀ w : World, Calls Tryz.prog 116 #[.int .i64 64] w fun e w' => e = .returned (.int .u64 (M : Nat)) ∧ w = w') := by unfold Hid; rw [hM]; exact bits64_any
  clear hM hn
  go_enter Tryz.func77, Tryz.ntmps77
  go_wp2_with (first
    | (go_at_call 114; refine (size8_any _).mono ?_; rintro e w' ⟨rfl, rfl⟩)
    | (go_at_call 80; refine (signed8_any _).mono ?_; rintro e w' ⟨rfl, rfl⟩)
    | (go_at_call 116; refine (HB.out _).mono ?_; rintro e w' ⟨rfl, rfl⟩))
  go_ret
  exact ⟨rfl, rfl⟩

set_option maxHeartbeats 800000 in
theorem decimal3_any (n0 : Nat) (hn0 : n0 < 18446744073709551616) (w : World) :
    Calls Tryz.prog 79 #[.int .u64 n0] w fun e w' => e = .returned (.string (dgt n0)) ∧ Below w.heap.size w w' := by
  obtain ⟨M, hM⟩ : ∃ M : Nat, M = 18446744073709551616 := ⟨_, rfl⟩
  have HM : Hid (M = 18446744073709551616) := hM
  rw [← hM] at hn0
  clear hM
  go_enter Tryz.func79, Tryz.ntmps79
  go_wp2
  go_loopw [0, 3] (fun a t wr => ∃ (n r : Nat) (s : ByteArray), a = .int .u64 n ∧ n < M ∧ r ≤ 20 ∧ s.size ≤ r ∧ Hid (n < 10 ^ (20 - r)) ∧ t = .string s ∧ Hid (dgt n0 = dgt n ++ s) ∧ Below w.heap.size w wr) (fun a _ _ => (intOf a).toNat)
  case atStart => exact ⟨n0, 0, ⟨#[]⟩, rfl, hn0, by omega, Nat.le_refl _, by unfold Hid; have := HM.out; simp; omega, rfl, (ByteArray.append_empty).symm, Below.refl _ _⟩
  case round => as_aux_lemma =>
    obtain ⟨n, r, s, rfl, hn, hr, hsz, HR, rfl, HD, hbel⟩ := hrel
    have hn10 : n % 10 < 10 := Nat.mod_lt _ (by decide)
    have h1 : (strOfNums [48 + (n : Int) % 10]).size + s.size ≤ 2000001 := by rw [strOfNums_size]; simp; omega
    have hw1 : IntKind.u64.wrap (48 + (n : Int) % 10) = 48 + (n : Int) % 10 := by simp [IntKind.wrap, IntKind.bits, IntKind.signed]; omega
    have hw2 : IntKind.u8.wrap (48 + (n : Int) % 10) = 48 + (n : Int) % 10 := by simp [IntKind.wrap, IntKind.bits, IntKind.signed]; omega
    have HC2 : Hid (IntKind.u64.wrap ((n : Int) / 10) = ((n / 10 : Nat) : Int)) := by
      unfold Hid
      have h1 := HM.out
      have h2 : n < 18446744073709551616 := by omega
      simp [IntKind.wrap, IntKind.bits, IntKind.signed]; omega
    have hone : ∀ i, i < 1 → (wr.alloc (.cells #[.int .u8 (48 + (n : Int) % 10)] 5)).cell? ⟨wr.heap.size, 0 + i, none⟩ = some (.int .u8 ([48 + (n : Int) % 10].getD i 0)) := by
      intro i hi
      obtain rfl : i = 0 := by omega
      simp
    have hconv : (convert 72 9 (.slice (some ⟨wr.heap.size, 0, none⟩) 1 1)).run Tryz.prog (wr.alloc (.cells #[.int .u8 (48 + (n : Int) % 10)] 5)) = .ok (.string (strOfNums [48 + (n : Int) % 10])) (wr.alloc (.cells #[.int .u8 (48 + (n : Int) % 10)] 5)) :=
      run_convert_bytes_arg (P := Tryz.prog) _ _ _ Tryz.underlying72 Tryz.underlying5 wr.heap.size 0 1 1 [48 + (n : Int) % 10] rfl hone _ Tryz.underlying9
    clear hone
    by_cases h10 : n < 10
    · have HL : Hid (dgt n0 = strOfNums [48 + (n : Int) % 10] ++ s) := by
        unfold Hid; rw [HD.out, dgt_last h10, show (n : Int) % 10 = n by omega]
      have e1 : ((IntKind.u64.wrap ((n : Int) / 10) == 0) : Bool) = true := by rw [HC2.out]; simp; omega
      clear h10
      go_wp2
      go_ret
      exact ⟨by rw [HL.out]; rfl, hbel.alloc hbel.size _⟩
    · have HL : Hid (dgt n0 = dgt (n / 10) ++ (strOfNums [48 + (n : Int) % 10] ++ s)) := by
        unfold Hid; rw [HD.out, dgt_more h10, ByteArray.append_assoc]
      have e1 : ((IntKind.u64.wrap ((n : Int) / 10) == 0) : Bool) = false := by rw [HC2.out]; simp; omega
      have hr20 : r < 20 := by
        have h := HR.out
        rcases Nat.lt_or_ge r 20 with h2 | h2
        · exact h2
        · rw [show 20 - r = 0 by omega] at h; simp at h; omega
      have HR2 : Hid (n / 10 < 10 ^ (20 - (r + 1))) := by
        have h := HR.out
        unfold Hid
        rw [show 20 - r = (20 - (r + 1)) + 1 by omega, Nat.pow_succ] at h
        exact Nat.div_lt_of_lt_mul (by rwa [Nat.mul_comm])
      have hnM : n / 10 < M := by omega
      have h10' : 10 ≤ n := by omega
      clear h10
      go_wp2
      go_roundw
      case rel => exact ⟨n / 10, r + 1, _, by rw [HC2.out], hnM, by omega, by rw [ByteArray.size_append, strOfNums_size]; simp; omega, HR2, rfl, HL, hbel.alloc hbel.size _⟩
      case measure =>
        show (IntKind.u64.wrap ((n : Int) / 10)).toNat < ((n : Int)).toNat
        rw [HC2.out]; omega
theorem print8_any (n : Nat) (hn : n < 18446744073709551616) (w : World) :
    Calls Tryz.prog 54 #[.int .i64 8, .int .u64 n] w fun e w' => e = .returned (.tuple #[.string (dgt n), .int .i64 0]) ∧ Below w.heap.size w w' := by
  have HN : Hid (n < 18446744073709551616) := hn
  clear hn
  go_enter Tryz.func54, Tryz.ntmps54
  go_wp2_with (first
    | (go_at_call 77; refine (fits8_any _ HN.out _).mono ?_; rintro e w' ⟨rfl, rfl⟩)
    | (go_at_call 80; refine (signed8_any _).mono ?_; rintro e w' ⟨rfl, rfl⟩)
    | (go_at_call 79; refine (decimal3_any _ HN.out _).mono ?_; rintro e w' ⟨rfl, hb⟩))
  go_ret2
  exact ⟨rfl, hb⟩
end Go.Proofs.YtijnbohjcmcfjaaGreatDoor.R3
