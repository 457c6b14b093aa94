/-
  Walks: hex written: package text's.
-/
import Derived.Test.YtjohlabdjdhpfaaGreatDoorHex1
namespace Go.Proofs.YtjohlabdjdhpfaaGreatDoor.Hx
open Go.RowKit Go.Proofs.YtjohlabdjdhpfaaGreatDoor.Kt Go.Proofs.YtjohlabdjdhpfaaGreatDoor.Lk Go.Proofs.YtjohlabdjdhpfaaGreatDoor.Rw Go.Proofs.YtjohlabdjdhpfaaGreatDoor.Rg
set_option linter.unusedSimpArgs false
set_option linter.unusedVariables false
set_option maxRecDepth 100000

/-- the letter of a digit, out of the text that holds them -/
theorem run_digit : ∀ n : Nat, n < 16 → ∀ w : World, (Instr.index 9 (.string { data := #[48, 49, 50, 51, 52, 53, 54, 55, 56, 57, 97, 98, 99, 100, 101, 102] }) (.int .u8 (n : Int))).run Tryz.prog w = .ok (.int .u8 (hd n)) w
  | 0, _, w => by kernel_rfl
  | 1, _, w => by kernel_rfl
  | 2, _, w => by kernel_rfl
  | 3, _, w => by kernel_rfl
  | 4, _, w => by kernel_rfl
  | 5, _, w => by kernel_rfl
  | 6, _, w => by kernel_rfl
  | 7, _, w => by kernel_rfl
  | 8, _, w => by kernel_rfl
  | 9, _, w => by kernel_rfl
  | 10, _, w => by kernel_rfl
  | 11, _, w => by kernel_rfl
  | 12, _, w => by kernel_rfl
  | 13, _, w => by kernel_rfl
  | 14, _, w => by kernel_rfl
  | 15, _, w => by kernel_rfl
  | n + 16, h, _ => absurd h (by omega)

theorem and15 (c : Nat) (h : c < 256) : bits .and .u8 (c : Int) 15 = ((c % 16 : Nat) : Int) := by
  have H : ∀ c : Fin 256, bits .and .u8 ((c.val : Nat) : Int) 15 = ((c.val % 16 : Nat) : Int) := by decide
  exact H ⟨c, h⟩
set_option maxHeartbeats 1600000 in
theorem thex_any (s : ByteArray) (w : World) (hm : s.size ≤ 1048576) :
    Calls Tryz.prog 17 #[.string s] w fun e w' => e = .returned (.string (strOfNums (hexZ s s.size))) ∧ Below w.heap.size w w' := by
  obtain ⟨i1, hi1, hz10, hz11, hz12⟩ := info_parts infoU8
  obtain ⟨w0, hmk, hown0, hg0⟩ := run_make_own (P := Tryz.prog) w w.heap.size 29 5 i1 (.int .u8 0) 1 Tryz.underlying29 hi1 hz10 hz11 .i64 .i64 (2 * s.size) (by rw [hz12]; omega) (by unfold maxLen; omega) (Nat.le_refl _)
  have hmk2 : (Instr.makeSlice 29 (.int .i64 0) (.int .i64 (2 * (s.size : Int)))).run Tryz.prog w = .ok (.slice (some ⟨w.heap.size, 0, none⟩) 0 (2 * s.size)) w0 := by
    rw [← hmk]; rfl
  clear hmk
  have HOWN0 : Hid (w0.ownsRow w.heap.size 5 1 (.slice (some ⟨w.heap.size, 0, none⟩) 0 (2 * s.size)) 0 []) := hown0
  have hB0 := below_grown hg0
  clear hown0 hg0
  go_enter Tryz.func17, Tryz.ntmps17
  go_wp2
  go_loopw [3, 11] (fun v i wr => ∃ k : Nat, i = .int .i64 k ∧ k ≤ s.size ∧ wr.ownsRow w.heap.size 5 1 v (2 * k) ((hexZ s k).map (Value.int .u8)) ∧ Below w.heap.size w wr) (fun _ i _ => s.size - (intOf i).toNat)
  case atStart => exact ⟨0, rfl, Nat.zero_le _, HOWN0.out, hB0⟩
  case round =>
    clear hmk2 HOWN0 hB0
    obtain ⟨k, rfl, hk, hown, hB⟩ := hrel
    have HOWN : Hid (wr.ownsRow w.heap.size 5 1 u3 (2 * k) ((hexZ s k).map (Value.int .u8))) := hown
    clear hown
    by_cases hlt : k < s.size
    · have hb := (gb_lt hlt).symm
      have hby := gb_byte s k
      go_upto_region 5 with (fail)
      obtain ⟨x1, hx1⟩ : ∃ x, x = hd (gb s k / 16) := ⟨_, rfl⟩
      obtain ⟨x2, hx2⟩ : ∃ x, x = hd (gb s k % 16) := ⟨_, rfl⟩
      have hg1 : ∀ w : World, (Instr.index 9 (.string { data := #[48, 49, 50, 51, 52, 53, 54, 55, 56, 57, 97, 98, 99, 100, 101, 102] }) (.int .u8 ((gb s k : Int) / 16))).run Tryz.prog w = .ok (.int .u8 x1) w := fun w => by rw [hx1]; exact run_digit (gb s k / 16) (by omega) w
      have hg2 : ∀ w : World, (Instr.index 9 (.string { data := #[48, 49, 50, 51, 52, 53, 54, 55, 56, 57, 97, 98, 99, 100, 101, 102] }) (.int .u8 (bits .and .u8 (gb s k : Int) 15))).run Tryz.prog w = .ok (.int .u8 x2) w := fun w => by rw [hx2, and15 _ hby]; exact run_digit (gb s k % 16) (by omega) w
      have HX1 : Hid (x1 = hd (gb s k / 16)) := hx1
      have HX2 : Hid (x2 = hd (gb s k % 16)) := hx2
      clear hx1 hx2
      have hl := hexZ_length s k
      have HO2 : Hid (((wr.drew).alloc (.cells #[.int .u8 x1, .int .u8 x2] 5)).ownsRow w.heap.size 5 1 u3 (2 * k) ((hexZ s k).map (Value.int .u8))) := (World.ownsRow.drew HOWN.out).alloc _
      refine wp_region_plan [(some 14, 0), (some 15, 1), (some 16, 2), (some 17, 3), (some 18, 4), (some 19, 5), (some 20, 6), (some 21, 7), (some 22, 8), (some 23, 9), (some 24, 10), (none, 11), (none, 12), (none, 13)] (by kernel_rfl) (by kernel_rfl) (fun _ _ d _ _ h => by cases d <;> exact h) ?_
      repeat (refine plan_pure (v := ?_) (a' := ?_) rfl rfl (Or.inl ⟨by rfl, ?_⟩) ?_ ?_; rotate_left; (intro w'; go_simp; with_reducible rfl); rotate_left; (simp only [Act.put, List.setIfInBounds_toArray, List.set_cons_zero, List.set_cons_succ]; rfl))
      refine plan_seq _ _ _ rfl ?_
      simp only [picks, List.getElem?_cons_succ, List.getElem?_cons_zero]
      clear hg1 hg2
      go_wp2_with (at_builtin; refine wpList_append_own_at _ rfl _ _ 29 rfl w.heap.size 5 i1 (.int .u8 0) 1 1 Tryz.underlying29 hi1 hz10 hz11 hz12 rfl (by decide) u3 (2 * k) ((hexZ s k).map (Value.int .u8)) rfl HO2.out ⟨wr.heap.size, 0, none⟩ 2 2 [.int .u8 x1, .int .u8 x2] rfl rfl ?c1 ?c2 ?c3 ?c4 ?c5 ?_)
      case c1 => exact new_cells _ _ _
      case c2 => intro u hu; simp at hu; rcases hu with rfl | rfl <;> rfl
      case c3 => unfold maxLen; omega
      case c4 => omega
      case c5 => have := hB.size; simp; omega
      intro v' w1 hown' hgrow _ _
      have HO : Hid (w1.ownsRow w.heap.size 5 1 v' (2 * (k + 1)) ((hexZ s (k + 1)).map (Value.int .u8))) := by
        unfold Hid
        rw [hexZ_succ, List.map_append]
        rw [HX1.out, HX2.out] at hown'
        exact hown'
      have HBB : Hid (Below w.heap.size w w1) := below_row (((hB.drew).alloc hB.size _)) (by have := hB.size; simp; omega) HO2.out hgrow
      clear hown' hgrow
      go_wp2
      go_roundw
      case rel => exact ⟨k + 1, by go_num, by omega, HO.out, HBB.out⟩
      case measure => simp [intOf]; omega
    · obtain rfl : k = s.size := by omega
      have hcv := conv_row (P := Tryz.prog) HOWN.out 29 5 Tryz.underlying29 Tryz.underlying5 9 Tryz.underlying9
      go_wp2
      go_ret
      exact ⟨rfl, hB⟩
end Go.Proofs.YtjohlabdjdhpfaaGreatDoor.Hx
