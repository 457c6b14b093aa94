/-
  Walks: package prim's Size, Signed, Fits at the types of whole numbers.
-/
import Derived.Test.YtijnbohjcmcfjaaGreatDoorLPrim
import Derived.Deep.CutBlock
import Derived.Deep.DeepCutAuto
import Derived.Deep.LoopGhost
namespace Go.Proofs.YtijnbohjcmcfjaaGreatDoor.Nu
open Go.RowKit Go.Proofs.YtijnbohjcmcfjaaGreatDoor.Kt
set_option linter.unusedSimpArgs false
set_option linter.unusedVariables false
set_option maxRecDepth 100000

def isInt (p : Nat) : Prop := 1 ≤ p ∧ p ≤ 8
theorem of_any (p : Nat) (hp : isInt p) (w : World) (h : Sizes w) : Calls Tryz.prog 93 #[.int .i64 p] w fun e w' => e = .returned (.agg (rowOf p)) ∧ Below w.heap.size w w' := by
  obtain ⟨h1, h8⟩ := hp
  rcases Nat.lt_or_ge p 2 with h | _
  · obtain rfl : p = 1 := by omega
    exact of_1 w (by assumption)
  rcases Nat.lt_or_ge p 3 with h | _
  · obtain rfl : p = 2 := by omega
    exact of_2 w (by assumption)
  rcases Nat.lt_or_ge p 4 with h | _
  · obtain rfl : p = 3 := by omega
    exact of_3 w (by assumption)
  rcases Nat.lt_or_ge p 5 with h | _
  · obtain rfl : p = 4 := by omega
    exact of_4 w (by assumption)
  rcases Nat.lt_or_ge p 6 with h | _
  · obtain rfl : p = 5 := by omega
    exact of_5 w (by assumption)
  rcases Nat.lt_or_ge p 7 with h | _
  · obtain rfl : p = 6 := by omega
    exact of_6 w (by assumption)
  rcases Nat.lt_or_ge p 8 with h | _
  · obtain rfl : p = 7 := by omega
    exact of_7 w (by assumption)
  · obtain rfl : p = 8 := by omega
    exact of_8 w (by assumption)
/-- how many bytes -/
def sizeOf (p : Nat) : Nat := [0, 1, 2, 4, 8, 1, 2, 4, 8].getD p 0
def signedOf (p : Nat) : Bool := decide (p ≤ 4)
/-- the word with these lowest bits -/
def wordOf (p v : Nat) : Nat :=
  let b := 2 ^ (8 * sizeOf p)
  if signedOf p then (if v % b < b / 2 then v % b else v % b + (2 ^ 64 - b)) else v % b
def fitsOf (p v : Nat) : Bool := wordOf p v == v
theorem rowOf_size (p : Nat) : ∃ a1 a2 a3 : Int, rowOf p = #[.int .i64 (sizeOf p), .bool (signedOf p), .bool false, .int .u64 a1, .int .u64 a2, .int .u64 a3] := by
  unfold rowOf signedOf sizeOf
  split
  · rename_i h; exact ⟨_, _, _, by simp [h]; exact ⟨rfl, rfl, rfl⟩⟩
  · rename_i h; exact ⟨_, _, _, by simp [h]; exact ⟨rfl, rfl, rfl⟩⟩

theorem size_any (p : Nat) (hp : isInt p) (w : World) (h : Sizes w) : Calls Tryz.prog 62 #[.int .i64 p] w fun e w' => e = .returned (.int .i64 (sizeOf p)) ∧ Below w.heap.size w w' := by
  obtain ⟨a1, a2, a3, hr⟩ := rowOf_size p
  have HR : Hid (rowOf p = #[.int .i64 (sizeOf p), .bool (signedOf p), .bool false, .int .u64 a1, .int .u64 a2, .int .u64 a3]) := hr
  clear hr
  go_enter Tryz.func62, Tryz.ntmps62
  go_wp2_with (go_at_call 93; fail)
  refine (of_any p hp _ h).mono ?_
  rintro e w1 ⟨rfl, hb⟩
  rw [HR.out]
  have hfd : ∀ w : World, (Instr.field 125 (.agg #[.int .i64 (sizeOf p), .bool (signedOf p), .bool false, .int .u64 a1, .int .u64 a2, .int .u64 a3]) 0).run Tryz.prog w = .ok (.int .i64 (sizeOf p)) w := fun _ => by kernel_rfl
  go_wp2
  go_ret
  exact ⟨rfl, hb⟩
theorem signed_any (p : Nat) (hp : isInt p) (w : World) (h : Sizes w) : Calls Tryz.prog 152 #[.int .i64 p] w fun e w' => e = .returned (.bool (signedOf p)) ∧ Below w.heap.size w w' := by
  obtain ⟨a1, a2, a3, hr⟩ := rowOf_size p
  have HR : Hid (rowOf p = #[.int .i64 (sizeOf p), .bool (signedOf p), .bool false, .int .u64 a1, .int .u64 a2, .int .u64 a3]) := hr
  clear hr
  go_enter Tryz.func152, Tryz.ntmps152
  go_wp2_with (go_at_call 93; fail)
  refine (of_any p hp _ h).mono ?_
  rintro e w1 ⟨rfl, hb⟩
  rw [HR.out]
  have hfd : ∀ w : World, (Instr.field 125 (.agg #[.int .i64 (sizeOf p), .bool (signedOf p), .bool false, .int .u64 a1, .int .u64 a2, .int .u64 a3]) 1).run Tryz.prog w = .ok (.bool (signedOf p)) w := fun _ => by kernel_rfl
  go_wp2
  go_ret
  exact ⟨rfl, hb⟩
theorem word_1 (v : Nat) (hv : v < 2 ^ 64) (a1 a2 a3 : Int) (w : World) : Calls Tryz.prog 94 #[.agg #[.int .i64 1, .bool true, .bool false, .int .u64 a1, .int .u64 a2, .int .u64 a3], .int .u64 v] w fun e w' => e = .returned (.int .u64 (wordOf 1 v)) ∧ Below w.heap.size w w' := by
  have hE : Hid (IntKind.u64.wrap (wrap64 (IntKind.u64.wrap ((v : Int) * 72057594037927936)) / 72057594037927936) = (wordOf 1 v : Nat)) := by
    unfold Hid
    simp only [IntKind.wrap, IntKind.bits, IntKind.signed, wrap64, wordOf, sizeOf, signedOf, List.getD_cons_succ, List.getD_cons_zero]
    first | (simp; done) | (simp; omega) | (simp; split <;> omega)
  clear hv
  go_enter Tryz.func94, Tryz.ntmps94
  go_wp2
  go_ret
  exact ⟨ret_int hE.out, (Below.refl _ _).alloc (Nat.le_refl _) _⟩
theorem word_2 (v : Nat) (hv : v < 2 ^ 64) (a1 a2 a3 : Int) (w : World) : Calls Tryz.prog 94 #[.agg #[.int .i64 2, .bool true, .bool false, .int .u64 a1, .int .u64 a2, .int .u64 a3], .int .u64 v] w fun e w' => e = .returned (.int .u64 (wordOf 2 v)) ∧ Below w.heap.size w w' := by
  have hE : Hid (IntKind.u64.wrap (wrap64 (IntKind.u64.wrap ((v : Int) * 281474976710656)) / 281474976710656) = (wordOf 2 v : Nat)) := by
    unfold Hid
    simp only [IntKind.wrap, IntKind.bits, IntKind.signed, wrap64, wordOf, sizeOf, signedOf, List.getD_cons_succ, List.getD_cons_zero]
    first | (simp; done) | (simp; omega) | (simp; split <;> omega)
  clear hv
  go_enter Tryz.func94, Tryz.ntmps94
  go_wp2
  go_ret
  exact ⟨ret_int hE.out, (Below.refl _ _).alloc (Nat.le_refl _) _⟩
theorem word_3 (v : Nat) (hv : v < 2 ^ 64) (a1 a2 a3 : Int) (w : World) : Calls Tryz.prog 94 #[.agg #[.int .i64 4, .bool true, .bool false, .int .u64 a1, .int .u64 a2, .int .u64 a3], .int .u64 v] w fun e w' => e = .returned (.int .u64 (wordOf 3 v)) ∧ Below w.heap.size w w' := by
  have hE : Hid (IntKind.u64.wrap (wrap64 (IntKind.u64.wrap ((v : Int) * 4294967296)) / 4294967296) = (wordOf 3 v : Nat)) := by
    unfold Hid
    simp only [IntKind.wrap, IntKind.bits, IntKind.signed, wrap64, wordOf, sizeOf, signedOf, List.getD_cons_succ, List.getD_cons_zero]
    first | (simp; done) | (simp; omega) | (simp; split <;> omega)
  clear hv
  go_enter Tryz.func94, Tryz.ntmps94
  go_wp2
  go_ret
  exact ⟨ret_int hE.out, (Below.refl _ _).alloc (Nat.le_refl _) _⟩
theorem word_4 (v : Nat) (hv : v < 2 ^ 64) (a1 a2 a3 : Int) (w : World) : Calls Tryz.prog 94 #[.agg #[.int .i64 8, .bool true, .bool false, .int .u64 a1, .int .u64 a2, .int .u64 a3], .int .u64 v] w fun e w' => e = .returned (.int .u64 (wordOf 4 v)) ∧ Below w.heap.size w w' := by
  have hE : Hid (IntKind.u64.wrap (wrap64 (IntKind.u64.wrap (v : Int))) = (wordOf 4 v : Nat)) := by
    unfold Hid
    simp only [IntKind.wrap, IntKind.bits, IntKind.signed, wrap64, wordOf, sizeOf, signedOf, List.getD_cons_succ, List.getD_cons_zero]
    first | (simp; done) | (simp; omega) | (simp; split <;> omega)
  clear hv
  go_enter Tryz.func94, Tryz.ntmps94
  go_wp2
  go_ret
  exact ⟨ret_int hE.out, (Below.refl _ _).alloc (Nat.le_refl _) _⟩
theorem word_5 (v : Nat) (hv : v < 2 ^ 64) (a1 a2 a3 : Int) (w : World) : Calls Tryz.prog 94 #[.agg #[.int .i64 1, .bool false, .bool false, .int .u64 a1, .int .u64 a2, .int .u64 a3], .int .u64 v] w fun e w' => e = .returned (.int .u64 (wordOf 5 v)) ∧ Below w.heap.size w w' := by
  have hE : Hid (IntKind.u64.wrap ((v : Int) * 72057594037927936) / 72057594037927936 = (wordOf 5 v : Nat)) := by
    unfold Hid
    simp only [IntKind.wrap, IntKind.bits, IntKind.signed, wrap64, wordOf, sizeOf, signedOf, List.getD_cons_succ, List.getD_cons_zero]
    first | (simp; done) | (simp; omega) | (simp; split <;> omega)
  clear hv
  go_enter Tryz.func94, Tryz.ntmps94
  go_wp2
  go_ret
  exact ⟨ret_int hE.out, (Below.refl _ _).alloc (Nat.le_refl _) _⟩
theorem word_6 (v : Nat) (hv : v < 2 ^ 64) (a1 a2 a3 : Int) (w : World) : Calls Tryz.prog 94 #[.agg #[.int .i64 2, .bool false, .bool false, .int .u64 a1, .int .u64 a2, .int .u64 a3], .int .u64 v] w fun e w' => e = .returned (.int .u64 (wordOf 6 v)) ∧ Below w.heap.size w w' := by
  have hE : Hid (IntKind.u64.wrap ((v : Int) * 281474976710656) / 281474976710656 = (wordOf 6 v : Nat)) := by
    unfold Hid
    simp only [IntKind.wrap, IntKind.bits, IntKind.signed, wrap64, wordOf, sizeOf, signedOf, List.getD_cons_succ, List.getD_cons_zero]
    first | (simp; done) | (simp; omega) | (simp; split <;> omega)
  clear hv
  go_enter Tryz.func94, Tryz.ntmps94
  go_wp2
  go_ret
  exact ⟨ret_int hE.out, (Below.refl _ _).alloc (Nat.le_refl _) _⟩
theorem word_7 (v : Nat) (hv : v < 2 ^ 64) (a1 a2 a3 : Int) (w : World) : Calls Tryz.prog 94 #[.agg #[.int .i64 4, .bool false, .bool false, .int .u64 a1, .int .u64 a2, .int .u64 a3], .int .u64 v] w fun e w' => e = .returned (.int .u64 (wordOf 7 v)) ∧ Below w.heap.size w w' := by
  have hE : Hid (IntKind.u64.wrap ((v : Int) * 4294967296) / 4294967296 = (wordOf 7 v : Nat)) := by
    unfold Hid
    simp only [IntKind.wrap, IntKind.bits, IntKind.signed, wrap64, wordOf, sizeOf, signedOf, List.getD_cons_succ, List.getD_cons_zero]
    first | (simp; done) | (simp; omega) | (simp; split <;> omega)
  clear hv
  go_enter Tryz.func94, Tryz.ntmps94
  go_wp2
  go_ret
  exact ⟨ret_int hE.out, (Below.refl _ _).alloc (Nat.le_refl _) _⟩
theorem word_8 (v : Nat) (hv : v < 2 ^ 64) (a1 a2 a3 : Int) (w : World) : Calls Tryz.prog 94 #[.agg #[.int .i64 8, .bool false, .bool false, .int .u64 a1, .int .u64 a2, .int .u64 a3], .int .u64 v] w fun e w' => e = .returned (.int .u64 (wordOf 8 v)) ∧ Below w.heap.size w w' := by
  have hE : Hid (IntKind.u64.wrap (v : Int) = (wordOf 8 v : Nat)) := by
    unfold Hid
    simp only [IntKind.wrap, IntKind.bits, IntKind.signed, wrap64, wordOf, sizeOf, signedOf, List.getD_cons_succ, List.getD_cons_zero]
    first | (simp; done) | (simp; omega) | (simp; split <;> omega)
  clear hv
  go_enter Tryz.func94, Tryz.ntmps94
  go_wp2
  go_ret
  exact ⟨ret_int hE.out, (Below.refl _ _).alloc (Nat.le_refl _) _⟩
theorem word_any (p : Nat) (hp : isInt p) (v : Nat) (hv : v < 2 ^ 64) (a1 a2 a3 : Int) (w : World) : Calls Tryz.prog 94 #[.agg #[.int .i64 (sizeOf p), .bool (signedOf p), .bool false, .int .u64 a1, .int .u64 a2, .int .u64 a3], .int .u64 v] w fun e w' => e = .returned (.int .u64 (wordOf p v)) ∧ Below w.heap.size w w' := by
  obtain ⟨h1, h8⟩ := hp
  rcases Nat.lt_or_ge p 2 with h | _
  · obtain rfl : p = 1 := by omega
    exact word_1 v hv a1 a2 a3 w
  rcases Nat.lt_or_ge p 3 with h | _
  · obtain rfl : p = 2 := by omega
    exact word_2 v hv a1 a2 a3 w
  rcases Nat.lt_or_ge p 4 with h | _
  · obtain rfl : p = 3 := by omega
    exact word_3 v hv a1 a2 a3 w
  rcases Nat.lt_or_ge p 5 with h | _
  · obtain rfl : p = 4 := by omega
    exact word_4 v hv a1 a2 a3 w
  rcases Nat.lt_or_ge p 6 with h | _
  · obtain rfl : p = 5 := by omega
    exact word_5 v hv a1 a2 a3 w
  rcases Nat.lt_or_ge p 7 with h | _
  · obtain rfl : p = 6 := by omega
    exact word_6 v hv a1 a2 a3 w
  rcases Nat.lt_or_ge p 8 with h | _
  · obtain rfl : p = 7 := by omega
    exact word_7 v hv a1 a2 a3 w
  obtain rfl : p = 8 := by omega
  exact word_8 v hv a1 a2 a3 w
set_option maxHeartbeats 800000 in
theorem fits_any (p : Nat) (hp : isInt p) (v : Nat) (hv : v < 2 ^ 64) (w : World) (h : Sizes w) : Calls Tryz.prog 63 #[.int .i64 p, .int .u64 v] w fun e w' => e = .returned (.bool (fitsOf p v)) ∧ Below w.heap.size w w' := by
  obtain ⟨a1, a2, a3, hr⟩ := rowOf_size p
  have HR : Hid (rowOf p = #[.int .i64 (sizeOf p), .bool (signedOf p), .bool false, .int .u64 a1, .int .u64 a2, .int .u64 a3]) := hr
  have HV : Hid (v < 2 ^ 64) := hv
  have hs0 : Hid (0 < sizeOf p) := by
    obtain ⟨h1, h8⟩ := hp
    have : ∀ q, q < 9 → 1 ≤ q → 0 < sizeOf q := by decide
    exact this p (by omega) h1
  clear hr hv
  go_enter Tryz.func63, Tryz.ntmps63
  go_wp2_with (go_at_call 93; fail)
  have hall : Hid (Array.all (rowOf p) (·.oneCell') = true) := by unfold Hid; rw [HR.out]; simp [Value.oneCell']
  refine (of_any p hp _ h).mono ?_
  rintro e w1 ⟨rfl, hb⟩
  rw [HR.out]
  go_wp2_with (go_at_call 94; fail)
  case isTrue =>
    refine (word_any p hp v HV.out a1 a2 a3 _).mono ?_
    rintro e w2 ⟨rfl, hb2⟩
    go_wp2
    go_ret
    refine ⟨?_, hb.trans (((Below.refl w1.heap.size w1).alloc (Nat.le_refl _) _).trans (hb2.mono (by simp)) |>.mono hb.size)⟩
    refine ret_bool ?_
    unfold fitsOf
    rw [Bool.eq_iff_iff]; simp; omega
end Go.Proofs.YtijnbohjcmcfjaaGreatDoor.Nu
/-
  Walks: package number's small functions, and its reading of whole numbers.
-/
namespace Go.Proofs.YtijnbohjcmcfjaaGreatDoor.Nu
open Go.RowKit Go.Proofs.YtijnbohjcmcfjaaGreatDoor.Kt Go.Proofs.YtijnbohjcmcfjaaGreatDoor.Lk
set_option linter.unusedSimpArgs false
set_option linter.unusedVariables false
set_option maxRecDepth 100000

/-- what a letter is worth as a digit; -1 of any other -/
def worthI (c : Nat) : Int := if isDig c then (c : Int) - 48 else if 97 ≤ c ∧ c ≤ 102 then (c : Int) - 87 else if 65 ≤ c ∧ c ≤ 70 then (c : Int) - 55 else -1
theorem worthI_lt (c : Nat) : worthI c < 16 := by unfold worthI isDig; simp only [decide_eq_true_eq]; split <;> (try split) <;> (try split) <;> omega
def digAt (s : ByteArray) (hex : Bool) (k : Nat) : Bool := isDig (gb s k) || (hex && decide (0 ≤ worthI (gb s k)))
/-- the place behind the digits -/
def digEnd (s : ByteArray) (hex : Bool) (k : Nat) : Nat := if h : k < s.size ∧ digAt s hex k = true then digEnd s hex (k + 1) else k
termination_by s.size - k
decreasing_by omega

theorem isDigit_any (c : Nat) (w : World) : Calls Tryz.prog 121 #[.int .u8 c] w fun e w' => e = .returned (.bool (isDig c)) ∧ w = w' := by
  unfold isDig
  go_enter Tryz.func121, Tryz.ntmps121
  go_wp2
  all_goals go_ret
  all_goals exact ⟨ret_bool (by rw [Bool.eq_iff_iff]; simp; omega), rfl⟩

theorem worth_any (c : Nat) (w : World) : Calls Tryz.prog 122 #[.int .u8 c] w fun e w' => e = .returned (.int .i64 (worthI c)) ∧ w = w' := by
  cases hd : isDig c with
  | true =>
    have hc : 48 ≤ c ∧ c ≤ 57 := by simpa [isDig] using hd
    have HD : Hid (isDig c = true) := hd
    have hw : IntKind.u8.wrap ((c : Int) - 48) = (c : Int) - 48 := by simp [IntKind.wrap, IntKind.bits, IntKind.signed]; omega
    have HE : Hid (worthI c = (c : Int) - 48) := by unfold Hid worthI; rw [HD.out]; rfl
    have HC : Hid (48 ≤ c ∧ c ≤ 57) := hc
    clear hd hc
    go_enter Tryz.func122, Tryz.ntmps122
    go_wp2_with (go_at_call 121; refine (isDigit_any _ _).mono ?_; rintro e w' ⟨he, rfl⟩; rw [HD.out] at he; subst he)
    go_ret
    exact ⟨ret_int (by have := HC.out; rw [HE.out]; unfold wrap64; omega), rfl⟩
  | false =>
    have HD : Hid (isDig c = false) := hd
    by_cases h1 : 97 ≤ c ∧ c ≤ 102
    · have hw : IntKind.u8.wrap ((c : Int) - 97) = (c : Int) - 97 := by simp [IntKind.wrap, IntKind.bits, IntKind.signed]; omega
      have hw2 : IntKind.i64.wrap ((c : Int) - 97 + 10) = (c : Int) - 97 + 10 := IntWalk.i64_in _ (by omega)
      have HE : Hid (worthI c = (c : Int) - 97 + 10) := by unfold Hid worthI; rw [HD.out]; simp [h1]; omega
      have d1 : decide ((c : Int) ≥ 97) = true := by simp; omega
      have d2 : decide ((c : Int) ≤ 102) = true := by simp; omega
      obtain ⟨e1, e2⟩ := h1
      clear hd
      go_enter Tryz.func122, Tryz.ntmps122
      go_wp2_with (go_at_call 121; refine (isDigit_any _ _).mono ?_; rintro e w' ⟨he, rfl⟩; rw [HD.out] at he; subst he)
      go_ret
      exact ⟨ret_int HE.out.symm, rfl⟩
    · by_cases h2 : 65 ≤ c ∧ c ≤ 70
      · have hw : IntKind.u8.wrap ((c : Int) - 65) = (c : Int) - 65 := by simp [IntKind.wrap, IntKind.bits, IntKind.signed]; omega
        have hw2 : IntKind.i64.wrap ((c : Int) - 65 + 10) = (c : Int) - 65 + 10 := IntWalk.i64_in _ (by omega)
        have HE : Hid (worthI c = (c : Int) - 65 + 10) := by unfold Hid worthI; rw [HD.out]; simp [h1, h2]; omega
        have d1 : ¬ 97 ≤ c := by omega
        obtain ⟨e1, e2⟩ := h2
        clear hd h1
        go_enter Tryz.func122, Tryz.ntmps122
        go_wp2_with (go_at_call 121; refine (isDigit_any _ _).mono ?_; rintro e w' ⟨he, rfl⟩; rw [HD.out] at he; subst he)
        go_ret
        exact ⟨ret_int HE.out.symm, rfl⟩
      · have HE : Hid (worthI c = -1) := by unfold Hid worthI; rw [HD.out]; simp [h1, h2]
        have n1 : Hid (¬ (97 ≤ c ∧ c ≤ 102)) := h1
        have n2 : Hid (¬ (65 ≤ c ∧ c ≤ 70)) := h2
        clear hd h1 h2
        go_enter Tryz.func122, Tryz.ntmps122
        go_wp2_with (go_at_call 121; refine (isDigit_any _ _).mono ?_; rintro e w' ⟨he, rfl⟩; rw [HD.out] at he; subst he)
        all_goals first
          | (exact absurd (by omega) n1.out)
          | (exact absurd (by omega) n2.out)
          | (go_ret; exact ⟨ret_int HE.out.symm, rfl⟩)

theorem digEnd_go {s : ByteArray} {hex : Bool} {k : Nat} (h1 : k < s.size) (h2 : digAt s hex k = true) : digEnd s hex (k + 1) = digEnd s hex k := by
  conv => rhs; rw [digEnd]
  simp [h1, h2]
theorem digEnd_stop {s : ByteArray} {hex : Bool} {k : Nat} (h : ¬ (k < s.size ∧ digAt s hex k = true)) : digEnd s hex k = k := by
  rw [digEnd]; simp [h]

set_option maxHeartbeats 1600000 in
theorem digitsFrom_any (s : ByteArray) (a : Nat) (hex : Bool) (w : World) (ha : a ≤ s.size) (hm : s.size ≤ 1099511627776) :
    Calls Tryz.prog 85 #[.string s, .int .i64 a, .bool hex] w fun e w' => e = .returned (.int .i64 (digEnd s hex a)) ∧ w = w' := by
  go_enter Tryz.func85, Tryz.ntmps85
  go_wp2
  go_loopw [1] (fun i wr => ∃ k : Nat, i = .int .i64 k ∧ k ≤ s.size ∧ digEnd s hex k = digEnd s hex a ∧ wr = w) (fun i _ => s.size - (intOf i).toNat)
  case atStart => exact ⟨a, rfl, ha, rfl, rfl⟩
  case round =>
    obtain ⟨k, rfl, hk, hall, rfl⟩ := hrel
    have HALL : Hid (digEnd s hex k = digEnd s hex a) := hall
    clear hall
    by_cases hlt : k < s.size
    · have hb := (gb_lt hlt).symm
      have HLT : Hid (k < s.size) := hlt
      cases hd : isDig (gb s k) with
      | true =>
        have HD : Hid (isDig (gb s k) = true) := hd
        have HG : Hid (digAt s hex k = true) := by unfold Hid digAt; rw [hd]; rfl
        clear hd
        go_wp2_with (go_at_call 121; refine (isDigit_any _ _).mono ?_; rintro e w' ⟨he, rfl⟩; rw [HD.out] at he; subst he)
        go_roundw
        case rel => exact ⟨k + 1, by simp, by omega, (digEnd_go hlt HG.out).trans HALL.out, (by first | rfl | trivial)⟩
        case measure => simp [intOf]; omega
      | false =>
        have HD : Hid (isDig (gb s k) = false) := hd
        clear hd
        cases hex with
        | false =>
          have HG : Hid (digAt s false k = false) := by unfold Hid digAt; rw [HD.out]; rfl
          go_wp2_with (go_at_call 121; refine (isDigit_any _ _).mono ?_; rintro e w' ⟨he, rfl⟩; rw [HD.out] at he; subst he)
          go_ret
          exact ⟨ret_int (by rw [← HALL.out, digEnd_stop (by rw [HG.out]; simp)]), rfl⟩
        | true =>
          by_cases hw : 0 ≤ worthI (gb s k)
          · have HG : Hid (digAt s true k = true) := by unfold Hid digAt; simp [hw]
            have d1 : decide (worthI (gb s k) ≥ 0) = true := by simpa using hw
            clear hw
            go_wp2_with (first
              | (go_at_call 121; refine (isDigit_any _ _).mono ?_; rintro e w' ⟨he, rfl⟩; rw [HD.out] at he; subst he)
              | (go_at_call 122; refine (worth_any _ _).mono ?_; rintro e w' ⟨rfl, rfl⟩))
            go_roundw
            case rel => exact ⟨k + 1, by simp, by omega, (digEnd_go hlt HG.out).trans HALL.out, (by first | rfl | trivial)⟩
            case measure => simp [intOf]; omega
          · have HG : Hid (digAt s true k = false) := by unfold Hid digAt; rw [HD.out]; simp; omega
            have d1 : decide (worthI (gb s k) ≥ 0) = false := by simpa using hw
            clear hw
            go_wp2_with (first
              | (go_at_call 121; refine (isDigit_any _ _).mono ?_; rintro e w' ⟨he, rfl⟩; rw [HD.out] at he; subst he)
              | (go_at_call 122; refine (worth_any _ _).mono ?_; rintro e w' ⟨rfl, rfl⟩))
            go_ret
            exact ⟨ret_int (by rw [← HALL.out, digEnd_stop (by rw [HG.out]; simp)]), rfl⟩
    · have HLT : Hid (¬ k < s.size) := hlt
      go_wp2
      go_ret
      exact ⟨ret_int (by rw [← HALL.out, digEnd_stop (by simp [HLT.out])]), rfl⟩
end Go.Proofs.YtijnbohjcmcfjaaGreatDoor.Nu
/-
  Walks: package number's reading of whole numbers.
-/
namespace Go.Proofs.YtijnbohjcmcfjaaGreatDoor.Nu
open Go.RowKit Go.Proofs.YtijnbohjcmcfjaaGreatDoor.Kt Go.Proofs.YtijnbohjcmcfjaaGreatDoor.Lk
set_option linter.unusedSimpArgs false
set_option linter.unusedVariables false
set_option maxRecDepth 100000

def isHexS (s : ByteArray) : Bool := decide (2 ≤ s.size) && (gb s 0 == 48 && (gb s 1 == 120 || gb s 1 == 88))
theorem isHex_any (s : ByteArray) (w : World) : Calls Tryz.prog 133 #[.string s] w fun e w' => e = .returned (.bool (isHexS s)) ∧ w = w' := by
  by_cases h2 : 2 ≤ s.size
  · have l0 : 0 < s.size := by omega
    have l1 : 1 < s.size := by omega
    have b0 := (gb_lt l0).symm
    have b1 := (gb_lt l1).symm
    have HE : Hid (isHexS s = (gb s 0 == 48 && (gb s 1 == 120 || gb s 1 == 88))) := by unfold Hid isHexS; simp [h2]
    go_enter Tryz.func133, Tryz.ntmps133
    go_wp2
    all_goals go_ret
    all_goals exact ⟨ret_bool (by rw [HE.out, Bool.eq_iff_iff]; simp; omega), rfl⟩
  · have HE : Hid (isHexS s = false) := by unfold Hid isHexS; simp [h2]
    go_enter Tryz.func133, Tryz.ntmps133
    go_wp2
    go_ret
    exact ⟨ret_bool HE.out.symm, rfl⟩

/-- what digits say, from a place on; none: more than 64 bits hold -/
def magN (s : ByteArray) (b : Nat) (k v : Nat) : Option Nat :=
  if h : k < s.size then (if (18446744073709551615 - (worthI (gb s k)).toNat) / b < v then none else magN s b (k + 1) (v * b + (worthI (gb s k)).toNat)) else some v
termination_by s.size - k
def magV : Option Nat → Value
  | some v => .tuple #[.int .u64 v, .bool true]
  | none => .tuple #[.int .u64 0, .bool false]
set_option maxHeartbeats 1600000 in
theorem magnitude_any (s : ByteArray) (b : Nat) (hb : b = 10 ∨ b = 16) (w : World) (hm : s.size ≤ 1099511627776) (hd : ∀ k, k < s.size → 0 ≤ worthI (gb s k)) :
    Calls Tryz.prog 86 #[.string s, .int .u64 b] w fun e w' => e = .returned (magV (magN s b 0 0)) ∧ w = w' := by
  have HB : Hid (b = 10 ∨ b = 16) := hb
  have HD : Hid (∀ k, k < s.size → 0 ≤ worthI (gb s k)) := hd
  clear hb hd
  go_enter Tryz.func86, Tryz.ntmps86
  go_wp2
  go_loopw [6, 11] (fun x i wr => ∃ k v : Nat, i = .int .i64 k ∧ x = .int .u64 v ∧ k ≤ s.size ∧ v < 18446744073709551616 ∧ magN s b k v = magN s b 0 0 ∧ wr = w) (fun _ i _ => s.size - (intOf i).toNat)
  case atStart => exact ⟨0, 0, rfl, rfl, Nat.zero_le _, by omega, rfl, rfl⟩
  case round =>
    obtain ⟨k, v, rfl, rfl, hk, hv, hall, rfl⟩ := hrel
    have HALL : Hid (magN s b k v = magN s b 0 0) := hall
    have HV : Hid (v < 18446744073709551616) := hv
    clear hall hv
    by_cases hlt : k < s.size
    · have hb := (gb_lt hlt).symm
      obtain ⟨d, HE⟩ : ∃ d : Nat, Hid (worthI (gb s k) = (d : Int)) := ⟨(worthI (gb s k)).toNat, by have := HD.out k hlt; unfold Hid; omega⟩
      have HD16 : Hid (d < 16) := by have := worthI_lt (gb s k); rw [HE.out] at this; unfold Hid; omega
      have HT : Hid ((worthI (gb s k)).toNat = d) := by unfold Hid; rw [HE.out]; rfl
      have HLT : Hid (k < s.size) := hlt
      have w1 : IntKind.u64.wrap (d : Int) = d := by have := HD16.out; rw [IntKind.wrap_u64]; omega
      have w2 : IntKind.u64.wrap (18446744073709551615 - (d : Int)) = 18446744073709551615 - (d : Int) := by have := HD16.out; rw [IntKind.wrap_u64]; omega
      have hb0 : ¬ b = 0 := by have := HB.out; omega
      obtain ⟨q, HQ⟩ : ∃ q : Nat, Hid ((18446744073709551615 - d) / b = q) := ⟨_, rfl⟩
      have HQM : Hid (q ≤ 18446744073709551615) := by
        unfold Hid; rw [← HQ.out]; exact Nat.le_trans (Nat.div_le_self _ _) (Nat.sub_le _ _)
      have w3 : IntKind.u64.wrap ((18446744073709551615 - (d : Int)).tdiv (b : Int)) = (q : Int) := by
        have e1 : (18446744073709551615 - (d : Int)) = ((18446744073709551615 - d : Nat) : Int) := by have := HD16.out; omega
        rw [e1, ← Int.ofNat_tdiv, HQ.out, IntKind.wrap_u64]
        have := HQM.out; omega
      by_cases hqv : q < v
      · have HS : Hid (magN s b k v = none) := by
          unfold Hid; rw [magN, dif_pos HLT.out, HT.out, HQ.out, if_pos hqv]
        go_wp2_with (go_at_call 122; refine (worth_any _ _).mono ?_; rintro e w' ⟨he, rfl⟩; rw [HE.out] at he; subst he)
        go_ret2
        refine ⟨?_, rfl⟩
        rw [← HALL.out, HS.out]; rfl
      · have HS : Hid (magN s b k v = magN s b (k + 1) (v * b + d)) := by
          unfold Hid; rw [magN, dif_pos HLT.out, HT.out, HQ.out, if_neg hqv]
        have HM : Hid (v * b + d < 18446744073709551616) := by
          have h1 : v * b ≤ q * b := Nat.mul_le_mul_right _ (by omega)
          have h2 : q * b ≤ 18446744073709551615 - d := by rw [← HQ.out]; exact Nat.div_mul_le_self _ _
          have := HD16.out
          unfold Hid; omega
        have w4 : IntKind.u64.wrap ((v : Int) * (b : Int)) = (v : Int) * (b : Int) := by
          have := HM.out; rw [IntKind.wrap_u64, ← Int.natCast_mul]; omega
        have w5 : IntKind.u64.wrap ((v : Int) * (b : Int) + (d : Int)) = (v : Int) * (b : Int) + (d : Int) := by
          have := HM.out; rw [IntKind.wrap_u64, ← Int.natCast_mul]; omega
        go_wp2_with (go_at_call 122; refine (worth_any _ _).mono ?_; rintro e w' ⟨he, rfl⟩; rw [HE.out] at he; subst he)
        go_roundw
        case rel => exact ⟨k + 1, v * b + d, by simp, by simp, by omega, HM.out, HS.out.symm.trans HALL.out, (by first | rfl | trivial)⟩
        case measure => simp [intOf]; omega
    · have HLT : Hid (¬ k < s.size) := hlt
      go_wp2
      go_ret2
      refine ⟨?_, rfl⟩
      rw [← HALL.out, magN]
      simp [HLT.out, magV]
      skip
end Go.Proofs.YtijnbohjcmcfjaaGreatDoor.Nu
