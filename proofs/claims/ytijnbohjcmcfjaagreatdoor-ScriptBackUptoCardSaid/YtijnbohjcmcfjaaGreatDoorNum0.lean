/-
  Walks: package prim's Size, Signed, Fits at the types of whole numbers.
-/
import Derived.Test.YtijnbohjcmcfjaaGreatDoorPrim
import Derived.Deep.CutBlock
import Derived.Deep.DeepCutAuto
namespace Go.Proofs.YtijnbohjcmcfjaaGreatDoor.Nu
open Go.RowKit Go.Proofs.YtijnbohjcmcfjaaGreatDoor.Kt
set_option linter.unusedSimpArgs false
set_option linter.unusedVariables false
set_option maxRecDepth 100000

def isInt (p : Nat) : Prop := 1 ≤ p ∧ p ≤ 8
theorem of_any (p : Nat) (hp : isInt p) (w : World) (h : Sizes w) : Calls Tryz.prog 93 #[.int .i64 p] w fun e w' => e = .returned (.agg (rowOf p)) ∧ Below w.heap.size w w' := by
  obtain ⟨h1, h8⟩ := hp
  rcases Nat.lt_or_ge p 2 with h | _
  · obtain rfl : p = 1 := by omega
    exact of_1 w (by assumption)
  rcases Nat.lt_or_ge p 3 with h | _
  · obtain rfl : p = 2 := by omega
    exact of_2 w (by assumption)
  rcases Nat.lt_or_ge p 4 with h | _
  · obtain rfl : p = 3 := by omega
    exact of_3 w (by assumption)
  rcases Nat.lt_or_ge p 5 with h | _
  · obtain rfl : p = 4 := by omega
    exact of_4 w (by assumption)
  rcases Nat.lt_or_ge p 6 with h | _
  · obtain rfl : p = 5 := by omega
    exact of_5 w (by assumption)
  rcases Nat.lt_or_ge p 7 with h | _
  · obtain rfl : p = 6 := by omega
    exact of_6 w (by assumption)
  rcases Nat.lt_or_ge p 8 with h | _
  · obtain rfl : p = 7 := by omega
    exact of_7 w (by assumption)
  · obtain rfl : p = 8 := by omega
    exact of_8 w (by assumption)
/-- how many bytes -/
def sizeOf (p : Nat) : Nat := [0, 1, 2, 4, 8, 1, 2, 4, 8].getD p 0
def signedOf (p : Nat) : Bool := decide (p ≤ 4)
/-- the word with these lowest bits -/
def wordOf (p v : Nat) : Nat :=
  let b := 2 ^ (8 * sizeOf p)
  if signedOf p then (if v % b < b / 2 then v % b else v % b + (2 ^ 64 - b)) else v % b
def fitsOf (p v : Nat) : Bool := wordOf p v == v
theorem rowOf_size (p : Nat) : ∃ a1 a2 a3 : Int, rowOf p = #[.int .i64 (sizeOf p), .bool (signedOf p), .bool false, .int .u64 a1, .int .u64 a2, .int .u64 a3] := by
  unfold rowOf signedOf sizeOf
  split
  · rename_i h; exact ⟨_, _, _, by simp [h]; exact ⟨rfl, rfl, rfl⟩⟩
  · rename_i h; exact ⟨_, _, _, by simp [h]; exact ⟨rfl, rfl, rfl⟩⟩

theorem size_any (p : Nat) (hp : isInt p) (w : World) (h : Sizes w) : Calls Tryz.prog 62 #[.int .i64 p] w fun e w' => e = .returned (.int .i64 (sizeOf p)) ∧ Below w.heap.size w w' := by
  obtain ⟨a1, a2, a3, hr⟩ := rowOf_size p
  have HR : Hid (rowOf p = #[.int .i64 (sizeOf p), .bool (signedOf p), .bool false, .int .u64 a1, .int .u64 a2, .int .u64 a3]) := hr
  clear hr
  go_enter Tryz.func62, Tryz.ntmps62
  go_wp2_with (go_at_call 93; fail)
  refine (of_any p hp _ h).mono ?_
  rintro e w1 ⟨rfl, hb⟩
  rw [HR.out]
  have hfd : ∀ w : World, (Instr.field 125 (.agg #[.int .i64 (sizeOf p), .bool (signedOf p), .bool false, .int .u64 a1, .int .u64 a2, .int .u64 a3]) 0).run Tryz.prog w = .ok (.int .i64 (sizeOf p)) w := fun _ => by kernel_rfl
  go_wp2
  go_ret
  exact ⟨rfl, hb⟩
theorem signed_any (p : Nat) (hp : isInt p) (w : World) (h : Sizes w) : Calls Tryz.prog 152 #[.int .i64 p] w fun e w' => e = .returned (.bool (signedOf p)) ∧ Below w.heap.size w w' := by
  obtain ⟨a1, a2, a3, hr⟩ := rowOf_size p
  have HR : Hid (rowOf p = #[.int .i64 (sizeOf p), .bool (signedOf p), .bool false, .int .u64 a1, .int .u64 a2, .int .u64 a3]) := hr
  clear hr
  go_enter Tryz.func152, Tryz.ntmps152
  go_wp2_with (go_at_call 93; fail)
  refine (of_any p hp _ h).mono ?_
  rintro e w1 ⟨rfl, hb⟩
  rw [HR.out]
  have hfd : ∀ w : World, (Instr.field 125 (.agg #[.int .i64 (sizeOf p), .bool (signedOf p), .bool false, .int .u64 a1, .int .u64 a2, .int .u64 a3]) 1).run Tryz.prog w = .ok (.bool (signedOf p)) w := fun _ => by kernel_rfl
  go_wp2
  go_ret
  exact ⟨rfl, hb⟩
theorem word_1 (v : Nat) (hv : v < 2 ^ 64) (a1 a2 a3 : Int) (w : World) : Calls Tryz.prog 94 #[.agg #[.int .i64 1, .bool true, .bool false, .int .u64 a1, .int .u64 a2, .int .u64 a3], .int .u64 v] w fun e w' => e = .returned (.int .u64 (wordOf 1 v)) ∧ Below w.heap.size w w' := by
  have hE : Hid (IntKind.u64.wrap (wrap64 (IntKind.u64.wrap ((v : Int) * 72057594037927936)) / 72057594037927936) = (wordOf 1 v : Nat)) := by
    unfold Hid
    simp only [IntKind.wrap, IntKind.bits, IntKind.signed, wrap64, wordOf, sizeOf, signedOf, List.getD_cons_succ, List.getD_cons_zero]
    first | (simp; done) | (simp; omega) | (simp; split <;> omega)
  clear hv
  go_enter Tryz.func94, Tryz.ntmps94
  go_wp2
  go_ret
  exact ⟨ret_int hE.out, (Below.refl _ _).alloc (Nat.le_refl _) _⟩
theorem word_2 (v : Nat) (hv : v < 2 ^ 64) (a1 a2 a3 : Int) (w : World) : Calls Tryz.prog 94 #[.agg #[.int .i64 2, .bool true, .bool false, .int .u64 a1, .int .u64 a2, .int .u64 a3], .int .u64 v] w fun e w' => e = .returned (.int .u64 (wordOf 2 v)) ∧ Below w.heap.size w w' := by
  have hE : Hid (IntKind.u64.wrap (wrap64 (IntKind.u64.wrap ((v : Int) * 281474976710656)) / 281474976710656) = (wordOf 2 v : Nat)) := by
    unfold Hid
    simp only [IntKind.wrap, IntKind.bits, IntKind.signed, wrap64, wordOf, sizeOf, signedOf, List.getD_cons_succ, List.getD_cons_zero]
    first | (simp; done) | (simp; omega) | (simp; split <;> omega)
  clear hv
  go_enter Tryz.func94, Tryz.ntmps94
  go_wp2
  go_ret
  exact ⟨ret_int hE.out, (Below.refl _ _).alloc (Nat.le_refl _) _⟩
theorem word_3 (v : Nat) (hv : v < 2 ^ 64) (a1 a2 a3 : Int) (w : World) : Calls Tryz.prog 94 #[.agg #[.int .i64 4, .bool true, .bool false, .int .u64 a1, .int .u64 a2, .int .u64 a3], .int .u64 v] w fun e w' => e = .returned (.int .u64 (wordOf 3 v)) ∧ Below w.heap.size w w' := by
  have hE : Hid (IntKind.u64.wrap (wrap64 (IntKind.u64.wrap ((v : Int) * 4294967296)) / 4294967296) = (wordOf 3 v : Nat)) := by
    unfold Hid
    simp only [IntKind.wrap, IntKind.bits, IntKind.signed, wrap64, wordOf, sizeOf, signedOf, List.getD_cons_succ, List.getD_cons_zero]
    first | (simp; done) | (simp; omega) | (simp; split <;> omega)
  clear hv
  go_enter Tryz.func94, Tryz.ntmps94
  go_wp2
  go_ret
  exact ⟨ret_int hE.out, (Below.refl _ _).alloc (Nat.le_refl _) _⟩
theorem word_4 (v : Nat) (hv : v < 2 ^ 64) (a1 a2 a3 : Int) (w : World) : Calls Tryz.prog 94 #[.agg #[.int .i64 8, .bool true, .bool false, .int .u64 a1, .int .u64 a2, .int .u64 a3], .int .u64 v] w fun e w' => e = .returned (.int .u64 (wordOf 4 v)) ∧ Below w.heap.size w w' := by
  have hE : Hid (IntKind.u64.wrap (wrap64 (IntKind.u64.wrap (v : Int))) = (wordOf 4 v : Nat)) := by
    unfold Hid
    simp only [IntKind.wrap, IntKind.bits, IntKind.signed, wrap64, wordOf, sizeOf, signedOf, List.getD_cons_succ, List.getD_cons_zero]
    first | (simp; done) | (simp; omega) | (simp; split <;> omega)
  clear hv
  go_enter Tryz.func94, Tryz.ntmps94
  go_wp2
  go_ret
  exact ⟨ret_int hE.out, (Below.refl _ _).alloc (Nat.le_refl _) _⟩
theorem word_5 (v : Nat) (hv : v < 2 ^ 64) (a1 a2 a3 : Int) (w : World) : Calls Tryz.prog 94 #[.agg #[.int .i64 1, .bool false, .bool false, .int .u64 a1, .int .u64 a2, .int .u64 a3], .int .u64 v] w fun e w' => e = .returned (.int .u64 (wordOf 5 v)) ∧ Below w.heap.size w w' := by
  have hE : Hid (IntKind.u64.wrap ((v : Int) * 72057594037927936) / 72057594037927936 = (wordOf 5 v : Nat)) := by
    unfold Hid
    simp only [IntKind.wrap, IntKind.bits, IntKind.signed, wrap64, wordOf, sizeOf, signedOf, List.getD_cons_succ, List.getD_cons_zero]
    first | (simp; done) | (simp; omega) | (simp; split <;> omega)
  clear hv
  go_enter Tryz.func94, Tryz.ntmps94
  go_wp2
  go_ret
  exact ⟨ret_int hE.out, (Below.refl _ _).alloc (Nat.le_refl _) _⟩
theorem word_6 (v : Nat) (hv : v < 2 ^ 64) (a1 a2 a3 : Int) (w : World) : Calls Tryz.prog 94 #[.agg #[.int .i64 2, .bool false, .bool false, .int .u64 a1, .int .u64 a2, .int .u64 a3], .int .u64 v] w fun e w' => e = .returned (.int .u64 (wordOf 6 v)) ∧ Below w.heap.size w w' := by
  have hE : Hid (IntKind.u64.wrap ((v : Int) * 281474976710656) / 281474976710656 = (wordOf 6 v : Nat)) := by
    unfold Hid
    simp only [IntKind.wrap, IntKind.bits, IntKind.signed, wrap64, wordOf, sizeOf, signedOf, List.getD_cons_succ, List.getD_cons_zero]
    first | (simp; done) | (simp; omega) | (simp; split <;> omega)
  clear hv
  go_enter Tryz.func94, Tryz.ntmps94
  go_wp2
  go_ret
  exact ⟨ret_int hE.out, (Below.refl _ _).alloc (Nat.le_refl _) _⟩
theorem word_7 (v : Nat) (hv : v < 2 ^ 64) (a1 a2 a3 : Int) (w : World) : Calls Tryz.prog 94 #[.agg #[.int .i64 4, .bool false, .bool false, .int .u64 a1, .int .u64 a2, .int .u64 a3], .int .u64 v] w fun e w' => e = .returned (.int .u64 (wordOf 7 v)) ∧ Below w.heap.size w w' := by
  have hE : Hid (IntKind.u64.wrap ((v : Int) * 4294967296) / 4294967296 = (wordOf 7 v : Nat)) := by
    unfold Hid
    simp only [IntKind.wrap, IntKind.bits, IntKind.signed, wrap64, wordOf, sizeOf, signedOf, List.getD_cons_succ, List.getD_cons_zero]
    first | (simp; done) | (simp; omega) | (simp; split <;> omega)
  clear hv
  go_enter Tryz.func94, Tryz.ntmps94
  go_wp2
  go_ret
  exact ⟨ret_int hE.out, (Below.refl _ _).alloc (Nat.le_refl _) _⟩
theorem word_8 (v : Nat) (hv : v < 2 ^ 64) (a1 a2 a3 : Int) (w : World) : Calls Tryz.prog 94 #[.agg #[.int .i64 8, .bool false, .bool false, .int .u64 a1, .int .u64 a2, .int .u64 a3], .int .u64 v] w fun e w' => e = .returned (.int .u64 (wordOf 8 v)) ∧ Below w.heap.size w w' := by
  have hE : Hid (IntKind.u64.wrap (v : Int) = (wordOf 8 v : Nat)) := by
    unfold Hid
    simp only [IntKind.wrap, IntKind.bits, IntKind.signed, wrap64, wordOf, sizeOf, signedOf, List.getD_cons_succ, List.getD_cons_zero]
    first | (simp; done) | (simp; omega) | (simp; split <;> omega)
  clear hv
  go_enter Tryz.func94, Tryz.ntmps94
  go_wp2
  go_ret
  exact ⟨ret_int hE.out, (Below.refl _ _).alloc (Nat.le_refl _) _⟩
theorem word_any (p : Nat) (hp : isInt p) (v : Nat) (hv : v < 2 ^ 64) (a1 a2 a3 : Int) (w : World) : Calls Tryz.prog 94 #[.agg #[.int .i64 (sizeOf p), .bool (signedOf p), .bool false, .int .u64 a1, .int .u64 a2, .int .u64 a3], .int .u64 v] w fun e w' => e = .returned (.int .u64 (wordOf p v)) ∧ Below w.heap.size w w' := by
  obtain ⟨h1, h8⟩ := hp
  rcases Nat.lt_or_ge p 2 with h | _
  · obtain rfl : p = 1 := by omega
    exact word_1 v hv a1 a2 a3 w
  rcases Nat.lt_or_ge p 3 with h | _
  · obtain rfl : p = 2 := by omega
    exact word_2 v hv a1 a2 a3 w
  rcases Nat.lt_or_ge p 4 with h | _
  · obtain rfl : p = 3 := by omega
    exact word_3 v hv a1 a2 a3 w
  rcases Nat.lt_or_ge p 5 with h | _
  · obtain rfl : p = 4 := by omega
    exact word_4 v hv a1 a2 a3 w
  rcases Nat.lt_or_ge p 6 with h | _
  · obtain rfl : p = 5 := by omega
    exact word_5 v hv a1 a2 a3 w
  rcases Nat.lt_or_ge p 7 with h | _
  · obtain rfl : p = 6 := by omega
    exact word_6 v hv a1 a2 a3 w
  rcases Nat.lt_or_ge p 8 with h | _
  · obtain rfl : p = 7 := by omega
    exact word_7 v hv a1 a2 a3 w
  obtain rfl : p = 8 := by omega
  exact word_8 v hv a1 a2 a3 w
set_option maxHeartbeats 800000 in
theorem fits_any (p : Nat) (hp : isInt p) (v : Nat) (hv : v < 2 ^ 64) (w : World) (h : Sizes w) : Calls Tryz.prog 63 #[.int .i64 p, .int .u64 v] w fun e w' => e = .returned (.bool (fitsOf p v)) ∧ Below w.heap.size w w' := by
  obtain ⟨a1, a2, a3, hr⟩ := rowOf_size p
  have HR : Hid (rowOf p = #[.int .i64 (sizeOf p), .bool (signedOf p), .bool false, .int .u64 a1, .int .u64 a2, .int .u64 a3]) := hr
  have HV : Hid (v < 2 ^ 64) := hv
  have hs0 : Hid (0 < sizeOf p) := by
    obtain ⟨h1, h8⟩ := hp
    have : ∀ q, q < 9 → 1 ≤ q → 0 < sizeOf q := by decide
    exact this p (by omega) h1
  clear hr hv
  go_enter Tryz.func63, Tryz.ntmps63
  go_wp2_with (go_at_call 93; fail)
  have hall : Hid (Array.all (rowOf p) (·.oneCell') = true) := by unfold Hid; rw [HR.out]; simp [Value.oneCell']
  refine (of_any p hp _ h).mono ?_
  rintro e w1 ⟨rfl, hb⟩
  rw [HR.out]
  go_wp2_with (go_at_call 94; fail)
  case isTrue =>
    refine (word_any p hp v HV.out a1 a2 a3 _).mono ?_
    rintro e w2 ⟨rfl, hb2⟩
    go_wp2
    go_ret
    refine ⟨?_, hb.trans (((Below.refl w1.heap.size w1).alloc (Nat.le_refl _) _).trans (hb2.mono (by simp)) |>.mono hb.size)⟩
    refine ret_bool ?_
    unfold fitsOf
    rw [Bool.eq_iff_iff]; simp; omega
end Go.Proofs.YtijnbohjcmcfjaaGreatDoor.Nu
