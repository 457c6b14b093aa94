/-
  Walks: package number's decimal: a word's digits, written from the last to the first into an array.
-/
import Derived.Test.YtijnbohjcmcfjaaGreatDoorNumP
import Derived.Test.YtijnbohjcmcfjaaGreatDoorSc9
namespace Go.Proofs.YtijnbohjcmcfjaaGreatDoor.Sc
open Go.RowKit Go.Proofs.YtijnbohjcmcfjaaGreatDoor.Kt Go.Proofs.YtijnbohjcmcfjaaGreatDoor.Lk
open Go.Proofs.YtijnbohjcmcfjaaGreatDoor.Nu (dgt)
set_option linter.unusedSimpArgs false
set_option linter.unusedVariables false
set_option maxRecDepth 100000

theorem str_cons (a : Int) (t : List Int) : strOfNums (a :: t) = strOfNums [a] ++ strOfNums t := by
  apply L_inj
  rw [L_app]; rfl
/-- the array behind some digits -/
structure DecAt (g i : Nat) (t : List Int) (w : World) : Prop where
  cells : ∃ cs : Array Value, cs.size = 20 ∧ Blk w g cs 191 ∧ ∀ j, j < t.length → cs[i + j]? = some (.int .u8 (t.getD j 0))
  len : t.length + i = 20
theorem DecAt.free {g i : Nat} {t : List Int} {w : World} (h : DecAt g i t w) (j : Nat) : w.frozen? ⟨g, j, none⟩ = false := by
  obtain ⟨cs, _, hb, _⟩ := h.cells
  exact hb.free j
theorem DecAt.old {g i : Nat} {t : List Int} {w : World} (h : DecAt g i t w) (j : Nat) (hj : j < 20) : ∃ u, w.cell? ⟨g, j, none⟩ = some u := by
  obtain ⟨cs, hs, hb, _⟩ := h.cells
  exact ⟨cs[j], hb.cell j (by simp [hs, hj])⟩
theorem DecAt.put {g i : Nat} {t : List Int} {w : World} (h : DecAt g (i + 1) t w) (x : Int) : DecAt g i (x :: t) (w.setCell ⟨g, i, none⟩ (.int .u8 x)) := by
  obtain ⟨cs, hs, hb, hc⟩ := h.cells
  have hl := h.len
  refine ⟨⟨cs.setIfInBounds i (.int .u8 x), by simpa using hs, hb.set i _, fun j hj => ?_⟩, by rw [List.length_cons]; omega⟩
  cases j with
  | zero =>
    rw [Nat.add_zero, Array.getElem?_setIfInBounds_self_of_lt (by omega)]; rfl
  | succ j =>
    have := hc j (by simpa using hj)
    rw [Array.getElem?_setIfInBounds_ne (by omega)]
    rw [show i + (j + 1) = i + 1 + j by omega, this]
    simp
theorem DecAt.cell {g i : Nat} {t : List Int} {w : World} (h : DecAt g i t w) (j : Nat) (hj : j < t.length) : w.cell? ⟨g, i + j, none⟩ = some (.int .u8 (t.getD j 0)) := by
  obtain ⟨cs, hs, hb, hc⟩ := h.cells
  exact hb.cell _ (hc j hj)

/-- the array from a place on -/
theorem slice20 (g k : Nat) (hk : k < 20) (w : World) : (Instr.sliceAt 191 (.pointer (some ⟨g, 0, none⟩)) (some (.int .i64 (k : Int))) none none).run Tryz.prog w = .ok (.slice (some ⟨g, k, none⟩) (20 - k) (20 - k)) w := by
  have hal : Tryz.prog.arrayLen 191 = 20 := by kernel_rfl
  have hsz : (Go.sizeOf (Tryz.prog.elem 191)).run Tryz.prog w = .ok 1 w := by kernel_rfl
  rw [run_sliceAt_array_l w 191 ⟨g, 0, none⟩ (by kernel_rfl) .i64 (k : Int) (by omega) (by rw [hal]; omega), hsz, hal]
  simp only [Result.andThen, slicedAt, Int.toNat_natCast]
  rw [if_neg (by omega), Nat.mul_one]
  have : (⟨g, 0, none⟩ : Addr).add k = ⟨g, k, none⟩ := by unfold Addr.add; split <;> simp_all
  rw [this]
theorem below_set' {w wr : World} {i : Nat} {u : Value} (h : Below w.heap.size w wr) : Below w.heap.size w (wr.setCell ⟨w.heap.size, i, none⟩ u) := h.setCell (p := ⟨w.heap.size, i, none⟩) (Nat.le_refl _) _
set_option maxHeartbeats 1600000 in
theorem decimalW_any (n0 : Nat) (hn0 : n0 < 18446744073709551616) (w : World) :
    Calls Tryz.prog 131 #[.int .u64 n0] w fun e w' => e = .returned (.string (dgt n0)) ∧ Below w.heap.size w w' := by
  go_enter Tryz.func131, Tryz.ntmps131
  go_wp2
  go_loopg [0, 4] 20 (fun m a b wr => ∃ (n i : Nat) (t : List Int), m = i ∧ a = .int .u64 n ∧ b = .int .i64 i ∧ n < 10 ^ i ∧ (0 < n ∨ i = 20) ∧ n < 18446744073709551616 ∧ DecAt w.heap.size i t wr ∧ dgt n0 = dgt n ++ strOfNums t ∧ Below w.heap.size w wr)
  case atStart =>
    refine ⟨n0, 20, [], rfl, rfl, rfl, by omega, .inr rfl, hn0, ⟨⟨_, ?_, Blk.new _ _ _, fun j hj => by simp at hj⟩, rfl⟩, ?_, (Below.refl _ _).alloc (Nat.le_refl _) _⟩
    · rfl
    · apply L_inj; rw [L_app]; simp [L, strOfNums_data]
  case round =>
    obtain ⟨n, i, t, hm, rfl, rfl, hn, hni, hn64, hD, hd, hB⟩ := hrel
    have hi0 : i ≠ 0 := by rintro rfl; omega
    obtain ⟨k, rfl⟩ : ∃ k, i = k + 1 := ⟨i - 1, by omega⟩
    have hlen := hD.len
    obtain ⟨uo, huo⟩ := hD.old k (by omega)
    have hfz := hD.free k
    have HM : Hid (gk = k + 1) := hm
    have HD1 : Hid (DecAt w.heap.size k ((48 + (n : Int) % 10) :: t) (wr.setCell ⟨w.heap.size, k, none⟩ (.int .u8 (48 + (n : Int) % 10)))) := hD.put _
    have HB1 : Hid (Below w.heap.size w (wr.setCell ⟨w.heap.size, k, none⟩ (.int .u8 (48 + (n : Int) % 10)))) := below_set' hB
    have hk20 : k < 20 := by omega
    have HL : Hid (t.length + (k + 1) = 20) := hlen
    have HN : Hid (n < 10 ^ (k + 1)) := hn
    have HDG : Hid (dgt n0 = dgt n ++ strOfNums t) := hd
    clear hm hn hni hD hd hlen hB
    by_cases h10 : n < 10
    · have HR : Hid (dgt n0 = strOfNums ((48 + (n : Int) % 10) :: t)) := by
        unfold Hid; rw [HDG.out, Nu.dgt_last h10, str_cons (48 + (n : Int) % 10) t, show (n : Int) % 10 = n by omega]
      have e1 : (((n : Int) / 10 == 0) : Bool) = true := by simp; omega
      have hcv : (convert 72 9 (.slice (some ⟨w.heap.size, k, none⟩) (20 - k) (20 - k))).run Tryz.prog (wr.setCell ⟨w.heap.size, k, none⟩ (.int .u8 (48 + (n : Int) % 10))) = .ok (.string (strOfNums ((48 + (n : Int) % 10) :: t))) (wr.setCell ⟨w.heap.size, k, none⟩ (.int .u8 (48 + (n : Int) % 10))) :=
        run_convert_bytes_arg (P := Tryz.prog) _ _ _ Tryz.underlying72 Tryz.underlying5 w.heap.size k (20 - k) (20 - k) ((48 + (n : Int) % 10) :: t) (by rw [List.length_cons]; have := HL.out; omega) (fun i hi => HD1.out.cell i (by rw [List.length_cons]; have := HL.out; omega)) _ Tryz.underlying9
      have hsl := slice20 w.heap.size k hk20 (wr.setCell ⟨w.heap.size, k, none⟩ (.int .u8 (48 + (n : Int) % 10)))
      clear h10
      go_wp2
      go_ret
      refine ⟨?_, HB1.out⟩
      rw [HR.out]
      first | rfl | simp
    · have e1 : (((n : Int) / 10 == 0) : Bool) = false := by rw [beq_eq_false_iff_ne]; omega
      have HR : Hid (dgt n0 = dgt (n / 10) ++ strOfNums ((48 + (n : Int) % 10) :: t)) := by
        unfold Hid; rw [HDG.out, Nu.dgt_more h10, ByteArray.append_assoc, str_cons (48 + (n : Int) % 10) t]
      have HP : Hid (n / 10 < 10 ^ k) := by
        have := HN.out
        rw [Nat.pow_succ] at this
        unfold Hid
        omega
      go_wp2
      go_roundg k
      case measure => rw [HM.out]; omega
      case rel => exact ⟨n / 10, k, _, rfl, rfl, by go_num, HP.out, .inl (by omega), by omega, HD1.out, HR.out, HB1.out⟩
end Go.Proofs.YtijnbohjcmcfjaaGreatDoor.Sc
