/-
  Walks: the document's own Path.
-/
import Derived.Test.YtcljfgbcfebnfaaDoorRefSym
namespace Go.Proofs.YtcljfgbcfebnfaaDoor.Lk
open Go.RowKit Go.Proofs.YtcljfgbcfebnfaaDoor.Kt
set_option linter.unusedSimpArgs false
set_option linter.unusedVariables false

theorem rsymbol_any (s : ByteArray) (w : World) (hm : s.size ≤ 1048576) :
    Calls Tryd.prog 14 #[.string s] w fun e w' => e = .returned (.bool (symOk s)) ∧ ∃ n, w' = w.drewN n := by
  by_cases h : s.size ≤ 64
  · have h' : decide ((s.size : Int) ≤ 64) = true := by simp; omega
    have HR : Hid (symOk s = (decide (0 < s.size) && symAll s s.size)) := by unfold Hid symOk; simp [h]
    go_enter Tryd.func14, Tryd.ntmps14
    go_wp2_with (go_at_call 21; refine (made_any s _ hm).mono ?_; rintro e w' ⟨rfl, nq, rfl⟩)
    go_ret
    exact ⟨ret_bool HR.out.symm, _, rfl⟩
  · have h' : decide ((s.size : Int) ≤ 64) = false := by simp; omega
    have HR : Hid (symOk s = false) := by unfold Hid symOk; simp [h]
    go_enter Tryd.func14, Tryd.ntmps14
    go_wp2
    go_ret
    exact ⟨ret_bool HR.out.symm, 0, rfl⟩
theorem gb_one (c : Nat) (hc : c < 256) : gb (strOfNums [(c : Int)]) 0 = c := by
  rw [gb_lt (by rw [strOfNums_size]; exact Nat.one_pos)]
  show (UInt8.ofNat ((c : Int)).toNat).toNat = c
  simp; omega
theorem gb_two (c : Nat) (hc : c < 256) : gb ((⟨#[97]⟩ : ByteArray) ++ strOfNums [(c : Int)]) 0 = 97 ∧ gb ((⟨#[97]⟩ : ByteArray) ++ strOfNums [(c : Int)]) 1 = c := by
  have hz : ((⟨#[97]⟩ : ByteArray) ++ strOfNums [(c : Int)]).size = 2 := by rw [ByteArray.size_append, strOfNums_size]; rfl
  refine ⟨?_, ?_⟩
  · rw [gb_lt (by omega), ByteArray.getElem_append_left (by decide)]; rfl
  · rw [gb_lt (by omega), ByteArray.getElem_append_right (by decide)]
    show (UInt8.ofNat ((c : Int)).toNat).toNat = c
    simp; omega
theorem sym_one (c : Nat) (hc : c < 256) : symOk (strOfNums [(c : Int)]) = isLet c := by
  unfold symOk; rw [strOfNums_size]
  show (decide (0 < 1) && decide (1 ≤ 64) && symAll _ 1) = _
  rw [symAt_one, gb_one c hc]; simp
theorem sym_two (c : Nat) (hc : c < 256) : symOk ((⟨#[97]⟩ : ByteArray) ++ strOfNums [(c : Int)]) = (isLet c || isDig c) := by
  have hz : ((⟨#[97]⟩ : ByteArray) ++ strOfNums [(c : Int)]).size = 2 := by rw [ByteArray.size_append, strOfNums_size]; rfl
  unfold symOk; rw [hz, symAt_two, (gb_two c hc).1, (gb_two c hc).2]
  have h97 : isLet 97 = true := by decide
  rw [h97]; simp
theorem letter12 (c : Nat) (hc : c < 256) (first : Bool) (w : World) :
    Calls Tryd.prog 12 #[.int .u8 c, .bool first] w fun e w' => e = .returned (.bool (isLet c || (!first && isDig c))) ∧ Below w.heap.size w w' := by
  have hone : ∀ i, i < 1 → (w.alloc (.cells #[.int .u8 c] 5)).cell? ⟨w.heap.size, 0 + i, none⟩ = some (.int .u8 ([(c : Int)].getD i 0)) := by
    intro i hi
    obtain rfl : i = 0 := by omega
    simp
  have hconv : (convert 37 9 (.slice (some ⟨w.heap.size, 0, none⟩) 1 1)).run Tryd.prog (w.alloc (.cells #[.int .u8 c] 5)) = .ok (.string (strOfNums [(c : Int)])) (w.alloc (.cells #[.int .u8 c] 5)) :=
    run_convert_bytes_arg (P := Tryd.prog) _ _ _ Tryd.underlying37 Tryd.underlying5 w.heap.size 0 1 1 [(c : Int)] rfl hone _ Tryd.underlying9
  clear hone
  cases first with
  | true =>
    have HR : Hid (symOk (strOfNums [(c : Int)]) = (isLet c || (!true && isDig c))) := by unfold Hid; rw [sym_one c hc]; simp
    go_enter Tryd.func12, Tryd.ntmps12
    go_wp2_with (go_at_call 14; refine (rsymbol_any _ _ (by rw [strOfNums_size]; simp)).mono ?_; rintro e w' ⟨rfl, nq, rfl⟩)
    go_ret
    exact ⟨ret_bool HR.out, below_drewN ((Below.refl _ _).alloc (Nat.le_refl _) _) _⟩
  | false =>
    have HR : Hid (symOk ((⟨#[97]⟩ : ByteArray) ++ strOfNums [(c : Int)]) = (isLet c || (!false && isDig c))) := by unfold Hid; rw [sym_two c hc]; simp
    go_enter Tryd.func12, Tryd.ntmps12
    go_wp2_with (go_at_call 14; refine (rsymbol_any _ _ (by rw [ByteArray.size_append, strOfNums_size]; simp [ByteArray.size])).mono ?_; rintro e w' ⟨rfl, nq, rfl⟩)
    go_ret
    exact ⟨ret_bool HR.out, below_drewN ((Below.refl _ _).alloc (Nat.le_refl _) _) _⟩
theorem digit21_any (c : Nat) (w : World) : Calls Tryd.prog 13 #[.int .u8 c] w fun e w' => e = .returned (.bool (isDig c)) ∧ w = w' := by
  unfold isDig
  go_enter Tryd.func13, Tryd.ntmps13
  go_wp2
  all_goals go_ret
  all_goals exact ⟨ret_bool (by rw [Bool.eq_iff_iff]; simp; omega), rfl⟩
end Go.Proofs.YtcljfgbcfebnfaaDoor.Lk
