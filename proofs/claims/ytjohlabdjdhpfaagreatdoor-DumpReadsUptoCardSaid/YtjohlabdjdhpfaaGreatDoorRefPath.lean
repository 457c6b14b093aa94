/-
  Walks: the document's own Path.
-/
import Derived.Test.YtjohlabdjdhpfaaGreatDoorRefSym
namespace Go.Proofs.YtjohlabdjdhpfaaGreatDoor.Lk
open Go.RowKit Go.Proofs.YtjohlabdjdhpfaaGreatDoor.Kt
set_option linter.unusedSimpArgs false
set_option linter.unusedVariables false
set_option maxRecDepth 100000

theorem rsymbol_any (s : ByteArray) (w : World) (hm : s.size ≤ 1048576) :
    Calls Tryz.prog 43 #[.string s] w fun e w' => e = .returned (.bool (symOk s)) ∧ ∃ n, w' = w.drewN n := by
  by_cases h : s.size ≤ 64
  · have h' : decide ((s.size : Int) ≤ 64) = true := by simp; omega
    have HR : Hid (symOk s = (decide (0 < s.size) && symAll s s.size)) := by unfold Hid symOk; simp [h]
    go_enter Tryz.func43, Tryz.ntmps43
    go_wp2_with (go_at_call 65; refine (made_any s _ hm).mono ?_; rintro e w' ⟨rfl, nq, rfl⟩)
    go_ret
    exact ⟨ret_bool HR.out.symm, _, rfl⟩
  · have h' : decide ((s.size : Int) ≤ 64) = false := by simp; omega
    have HR : Hid (symOk s = false) := by unfold Hid symOk; simp [h]
    go_enter Tryz.func43, Tryz.ntmps43
    go_wp2
    go_ret
    exact ⟨ret_bool HR.out.symm, 0, rfl⟩
theorem gb_one (c : Nat) (hc : c < 256) : gb (strOfNums [(c : Int)]) 0 = c := by
  rw [gb_lt (by rw [strOfNums_size]; exact Nat.one_pos)]
  show (UInt8.ofNat ((c : Int)).toNat).toNat = c
  simp; omega
theorem gb_two (c : Nat) (hc : c < 256) : gb ((⟨#[97]⟩ : ByteArray) ++ strOfNums [(c : Int)]) 0 = 97 ∧ gb ((⟨#[97]⟩ : ByteArray) ++ strOfNums [(c : Int)]) 1 = c := by
  have hz : ((⟨#[97]⟩ : ByteArray) ++ strOfNums [(c : Int)]).size = 2 := by rw [ByteArray.size_append, strOfNums_size]; rfl
  refine ⟨?_, ?_⟩
  · rw [gb_lt (by omega), ByteArray.getElem_append_left (by decide)]; rfl
  · rw [gb_lt (by omega), ByteArray.getElem_append_right (by decide)]
    show (UInt8.ofNat ((c : Int)).toNat).toNat = c
    simp; omega
theorem sym_one (c : Nat) (hc : c < 256) : symOk (strOfNums [(c : Int)]) = isLet c := by
  unfold symOk; rw [strOfNums_size]
  show (decide (0 < 1) && decide (1 ≤ 64) && symAll _ 1) = _
  rw [symAt_one, gb_one c hc]; simp
theorem sym_two (c : Nat) (hc : c < 256) : symOk ((⟨#[97]⟩ : ByteArray) ++ strOfNums [(c : Int)]) = (isLet c || isDig c) := by
  have hz : ((⟨#[97]⟩ : ByteArray) ++ strOfNums [(c : Int)]).size = 2 := by rw [ByteArray.size_append, strOfNums_size]; rfl
  unfold symOk; rw [hz, symAt_two, (gb_two c hc).1, (gb_two c hc).2]
  have h97 : isLet 97 = true := by decide
  rw [h97]; simp
theorem letter12 (c : Nat) (hc : c < 256) (first : Bool) (w : World) :
    Calls Tryz.prog 41 #[.int .u8 c, .bool first] w fun e w' => e = .returned (.bool (isLet c || (!first && isDig c))) ∧ Below w.heap.size w w' := by
  have hone : ∀ i, i < 1 → (w.alloc (.cells #[.int .u8 c] 5)).cell? ⟨w.heap.size, 0 + i, none⟩ = some (.int .u8 ([(c : Int)].getD i 0)) := by
    intro i hi
    obtain rfl : i = 0 := by omega
    simp
  have hconv : (convert 29 9 (.slice (some ⟨w.heap.size, 0, none⟩) 1 1)).run Tryz.prog (w.alloc (.cells #[.int .u8 c] 5)) = .ok (.string (strOfNums [(c : Int)])) (w.alloc (.cells #[.int .u8 c] 5)) :=
    run_convert_bytes_arg (P := Tryz.prog) _ _ _ Tryz.underlying29 Tryz.underlying5 w.heap.size 0 1 1 [(c : Int)] rfl hone _ Tryz.underlying9
  clear hone
  cases first with
  | true =>
    have HR : Hid (symOk (strOfNums [(c : Int)]) = (isLet c || (!true && isDig c))) := by unfold Hid; rw [sym_one c hc]; simp
    go_enter Tryz.func41, Tryz.ntmps41
    go_wp2_with (go_at_call 43; refine (rsymbol_any _ _ (by rw [strOfNums_size]; simp)).mono ?_; rintro e w' ⟨rfl, nq, rfl⟩)
    go_ret
    exact ⟨ret_bool HR.out, below_drewN ((Below.refl _ _).alloc (Nat.le_refl _) _) _⟩
  | false =>
    have HR : Hid (symOk ((⟨#[97]⟩ : ByteArray) ++ strOfNums [(c : Int)]) = (isLet c || (!false && isDig c))) := by unfold Hid; rw [sym_two c hc]; simp
    go_enter Tryz.func41, Tryz.ntmps41
    go_wp2_with (go_at_call 43; refine (rsymbol_any _ _ (by rw [ByteArray.size_append, strOfNums_size]; simp [ByteArray.size])).mono ?_; rintro e w' ⟨rfl, nq, rfl⟩)
    go_ret
    exact ⟨ret_bool HR.out, below_drewN ((Below.refl _ _).alloc (Nat.le_refl _) _) _⟩
theorem digit21_any (c : Nat) (w : World) : Calls Tryz.prog 42 #[.int .u8 c] w fun e w' => e = .returned (.bool (isDig c)) ∧ w = w' := by
  unfold isDig
  go_enter Tryz.func42, Tryz.ntmps42
  go_wp2
  all_goals go_ret
  all_goals exact ⟨ret_bool (by rw [Bool.eq_iff_iff]; simp; omega), rfl⟩
end Go.Proofs.YtjohlabdjdhpfaaGreatDoor.Lk
