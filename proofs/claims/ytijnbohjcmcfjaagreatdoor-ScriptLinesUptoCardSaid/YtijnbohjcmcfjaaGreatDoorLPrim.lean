/-
  Walks: package prim's rows of the types of whole numbers.
-/
import Derived.Test.YtijnbohjcmcfjaaGreatDoorLKit
import Derived.Test.YtijnbohjcmcfjaaGreatDoorProg
import Derived.Lib.LaidTab
import Derived.WalkSmall
import Derived.Laws.EntriesVeiled
namespace Go.Proofs.YtijnbohjcmcfjaaGreatDoor.Nu
open Go.RowKit Go.Proofs.YtijnbohjcmcfjaaGreatDoor.Kt
set_option linter.unusedSimpArgs false
set_option linter.unusedVariables false

/-- the table of the types' sizes -/
def Sizes (w : World) : Prop := Lib.TabIs Tryz.prog w "stencil/prim.sizes" .i64 [1, 1, 2, 4, 8, 1, 2, 4, 8, 4, 8]
theorem gSizes : Tryz.prog.globalNamed "stencil/prim.sizes" = some 1 := by kernel_rfl
theorem Sizes.lt {w : World} (h : Sizes w) : 1 < w.heap.size := World.block_lt_of_cell? w _ (Lib.TabIs.cell h gSizes 0 (by decide))
theorem Sizes.below {w w' : World} (h : Sizes w) (hb : Below w.heap.size w w') : Sizes w' := var?_below hb gSizes h.lt h
theorem Sizes.at_ {w : World} (h : Sizes w) (i : Nat) (hi : i < 11) : w.cell? ⟨1, i, none⟩ = some (.int .i64 (([1, 1, 2, 4, 8, 1, 2, 4, 8, 4, 8] : List Int).getD i 0)) := Lib.TabIs.cell h gSizes i hi

/-- a type's row -/
def rowOf (p : Nat) : Array Value :=
  let n : Nat := [0, 1, 2, 4, 8, 1, 2, 4, 8].getD p 0
  if p ≤ 4 then #[.int .i64 n, .bool true, .bool false, .int .u64 (2 ^ 64 - 2 ^ (8 * n - 1) : Nat), .int .u64 (2 ^ 64 - 2 ^ (8 * n - 1) + 1 : Nat), .int .u64 (2 ^ (8 * n - 1) - 1 : Nat)]
  else #[.int .i64 n, .bool false, .bool false, .int .u64 (2 ^ (8 * n) - 1 : Nat), .int .u64 0, .int .u64 (2 ^ (8 * n) - 2 : Nat)]

theorem signed_1 (w : World) : Calls Tryz.prog 129 #[.int .i64 1] w fun e w' => e = .returned (.agg (rowOf 1)) ∧ Below w.heap.size w w' := by
  go_enter Tryz.func129, Tryz.ntmps129
  go_wp2
  refine ret_cellG (cs := rowOf 1) (t := 125) rfl Tryz.underlying125 rfl (by kernel_rfl) rfl rfl ?_ ⟨rfl, (Below.refl _ _).alloc (Nat.le_refl _) _⟩
  exact Blk.new _ _ _
theorem signed_2 (w : World) : Calls Tryz.prog 129 #[.int .i64 2] w fun e w' => e = .returned (.agg (rowOf 2)) ∧ Below w.heap.size w w' := by
  go_enter Tryz.func129, Tryz.ntmps129
  go_wp2
  refine ret_cellG (cs := rowOf 2) (t := 125) rfl Tryz.underlying125 rfl (by kernel_rfl) rfl rfl ?_ ⟨rfl, (Below.refl _ _).alloc (Nat.le_refl _) _⟩
  exact Blk.new _ _ _
theorem signed_3 (w : World) : Calls Tryz.prog 129 #[.int .i64 4] w fun e w' => e = .returned (.agg (rowOf 3)) ∧ Below w.heap.size w w' := by
  go_enter Tryz.func129, Tryz.ntmps129
  go_wp2
  refine ret_cellG (cs := rowOf 3) (t := 125) rfl Tryz.underlying125 rfl (by kernel_rfl) rfl rfl ?_ ⟨rfl, (Below.refl _ _).alloc (Nat.le_refl _) _⟩
  exact Blk.new _ _ _
theorem signed_4 (w : World) : Calls Tryz.prog 129 #[.int .i64 8] w fun e w' => e = .returned (.agg (rowOf 4)) ∧ Below w.heap.size w w' := by
  go_enter Tryz.func129, Tryz.ntmps129
  go_wp2
  refine ret_cellG (cs := rowOf 4) (t := 125) rfl Tryz.underlying125 rfl (by kernel_rfl) rfl rfl ?_ ⟨rfl, (Below.refl _ _).alloc (Nat.le_refl _) _⟩
  exact Blk.new _ _ _
theorem unsigned_5 (w : World) : Calls Tryz.prog 130 #[.int .i64 1] w fun e w' => e = .returned (.agg (rowOf 5)) ∧ Below w.heap.size w w' := by
  go_enter Tryz.func130, Tryz.ntmps130
  go_wp2
  refine ret_cellG (cs := rowOf 5) (t := 125) rfl Tryz.underlying125 rfl (by kernel_rfl) rfl rfl ?_ ⟨rfl, (Below.refl _ _).alloc (Nat.le_refl _) _⟩
  exact Blk.new _ _ _
theorem unsigned_6 (w : World) : Calls Tryz.prog 130 #[.int .i64 2] w fun e w' => e = .returned (.agg (rowOf 6)) ∧ Below w.heap.size w w' := by
  go_enter Tryz.func130, Tryz.ntmps130
  go_wp2
  refine ret_cellG (cs := rowOf 6) (t := 125) rfl Tryz.underlying125 rfl (by kernel_rfl) rfl rfl ?_ ⟨rfl, (Below.refl _ _).alloc (Nat.le_refl _) _⟩
  exact Blk.new _ _ _
theorem unsigned_7 (w : World) : Calls Tryz.prog 130 #[.int .i64 4] w fun e w' => e = .returned (.agg (rowOf 7)) ∧ Below w.heap.size w w' := by
  go_enter Tryz.func130, Tryz.ntmps130
  go_wp2
  refine ret_cellG (cs := rowOf 7) (t := 125) rfl Tryz.underlying125 rfl (by kernel_rfl) rfl rfl ?_ ⟨rfl, (Below.refl _ _).alloc (Nat.le_refl _) _⟩
  exact Blk.new _ _ _
theorem unsigned_8 (w : World) : Calls Tryz.prog 130 #[.int .i64 8] w fun e w' => e = .returned (.agg (rowOf 8)) ∧ Below w.heap.size w w' := by
  go_enter Tryz.func130, Tryz.ntmps130
  go_wp2
  refine ret_cellG (cs := rowOf 8) (t := 125) rfl Tryz.underlying125 rfl (by kernel_rfl) rfl rfl ?_ ⟨rfl, (Below.refl _ _).alloc (Nat.le_refl _) _⟩
  exact Blk.new _ _ _
set_option maxHeartbeats 800000 in
theorem of_1 (w : World) (h : Sizes w) : Calls Tryz.prog 93 #[.int .i64 1] w fun e w' => e = .returned (.agg (rowOf 1)) ∧ Below w.heap.size w w' := by
  have s1 := h.at_ 1 (by decide)
  have hlt := h.lt
  clear h
  go_enter Tryz.func93, Tryz.ntmps93
  go_wp2_with (go_at_call 129; fail)
  have hall : Hid (Array.all (rowOf 1) (·.oneCell') = true) := by unfold Hid rowOf; simp [Value.oneCell']
  refine (signed_1 _).mono ?_
  rintro e w1 ⟨rfl, hb⟩
  have hB := (Blk.new w #[.int .i64 0, .bool false, .bool false, .int .u64 0, .int .u64 0, .int .u64 0] 125).below hb (by simp)
  have hbel := ((Below.refl w.heap.size w).alloc (Nat.le_refl _) _).trans (hb.mono (by simp))
  go_wp2_with (refine wpList_store_row rfl 125 (.tmp 2) (.tmp 18) rfl w.heap.size (rowOf 1) rfl rfl 125 _ hB (by kernel_rfl) rfl hall.out ?_)
  refine ret_cellG (cs := rowOf 1) (t := 125) rfl Tryz.underlying125 rfl (by kernel_rfl) rfl rfl (hB.setRow _) ⟨rfl, below_setRow hbel (Nat.le_refl _) _⟩
set_option maxHeartbeats 800000 in
theorem of_2 (w : World) (h : Sizes w) : Calls Tryz.prog 93 #[.int .i64 2] w fun e w' => e = .returned (.agg (rowOf 2)) ∧ Below w.heap.size w w' := by
  have s1 := h.at_ 2 (by decide)
  have hlt := h.lt
  clear h
  go_enter Tryz.func93, Tryz.ntmps93
  go_wp2_with (go_at_call 129; fail)
  have hall : Hid (Array.all (rowOf 2) (·.oneCell') = true) := by unfold Hid rowOf; simp [Value.oneCell']
  refine (signed_2 _).mono ?_
  rintro e w1 ⟨rfl, hb⟩
  have hB := (Blk.new w #[.int .i64 0, .bool false, .bool false, .int .u64 0, .int .u64 0, .int .u64 0] 125).below hb (by simp)
  have hbel := ((Below.refl w.heap.size w).alloc (Nat.le_refl _) _).trans (hb.mono (by simp))
  go_wp2_with (refine wpList_store_row rfl 125 (.tmp 2) (.tmp 18) rfl w.heap.size (rowOf 2) rfl rfl 125 _ hB (by kernel_rfl) rfl hall.out ?_)
  refine ret_cellG (cs := rowOf 2) (t := 125) rfl Tryz.underlying125 rfl (by kernel_rfl) rfl rfl (hB.setRow _) ⟨rfl, below_setRow hbel (Nat.le_refl _) _⟩
set_option maxHeartbeats 800000 in
theorem of_3 (w : World) (h : Sizes w) : Calls Tryz.prog 93 #[.int .i64 3] w fun e w' => e = .returned (.agg (rowOf 3)) ∧ Below w.heap.size w w' := by
  have s1 := h.at_ 3 (by decide)
  have hlt := h.lt
  clear h
  go_enter Tryz.func93, Tryz.ntmps93
  go_wp2_with (go_at_call 129; fail)
  have hall : Hid (Array.all (rowOf 3) (·.oneCell') = true) := by unfold Hid rowOf; simp [Value.oneCell']
  refine (signed_3 _).mono ?_
  rintro e w1 ⟨rfl, hb⟩
  have hB := (Blk.new w #[.int .i64 0, .bool false, .bool false, .int .u64 0, .int .u64 0, .int .u64 0] 125).below hb (by simp)
  have hbel := ((Below.refl w.heap.size w).alloc (Nat.le_refl _) _).trans (hb.mono (by simp))
  go_wp2_with (refine wpList_store_row rfl 125 (.tmp 2) (.tmp 18) rfl w.heap.size (rowOf 3) rfl rfl 125 _ hB (by kernel_rfl) rfl hall.out ?_)
  refine ret_cellG (cs := rowOf 3) (t := 125) rfl Tryz.underlying125 rfl (by kernel_rfl) rfl rfl (hB.setRow _) ⟨rfl, below_setRow hbel (Nat.le_refl _) _⟩
set_option maxHeartbeats 800000 in
theorem of_4 (w : World) (h : Sizes w) : Calls Tryz.prog 93 #[.int .i64 4] w fun e w' => e = .returned (.agg (rowOf 4)) ∧ Below w.heap.size w w' := by
  have s1 := h.at_ 4 (by decide)
  have hlt := h.lt
  clear h
  go_enter Tryz.func93, Tryz.ntmps93
  go_wp2_with (go_at_call 129; fail)
  have hall : Hid (Array.all (rowOf 4) (·.oneCell') = true) := by unfold Hid rowOf; simp [Value.oneCell']
  refine (signed_4 _).mono ?_
  rintro e w1 ⟨rfl, hb⟩
  have hB := (Blk.new w #[.int .i64 0, .bool false, .bool false, .int .u64 0, .int .u64 0, .int .u64 0] 125).below hb (by simp)
  have hbel := ((Below.refl w.heap.size w).alloc (Nat.le_refl _) _).trans (hb.mono (by simp))
  go_wp2_with (refine wpList_store_row rfl 125 (.tmp 2) (.tmp 18) rfl w.heap.size (rowOf 4) rfl rfl 125 _ hB (by kernel_rfl) rfl hall.out ?_)
  refine ret_cellG (cs := rowOf 4) (t := 125) rfl Tryz.underlying125 rfl (by kernel_rfl) rfl rfl (hB.setRow _) ⟨rfl, below_setRow hbel (Nat.le_refl _) _⟩
set_option maxHeartbeats 800000 in
theorem of_5 (w : World) (h : Sizes w) : Calls Tryz.prog 93 #[.int .i64 5] w fun e w' => e = .returned (.agg (rowOf 5)) ∧ Below w.heap.size w w' := by
  have s1 := h.at_ 5 (by decide)
  have hlt := h.lt
  clear h
  go_enter Tryz.func93, Tryz.ntmps93
  go_wp2_with (go_at_call 130; fail)
  have hall : Hid (Array.all (rowOf 5) (·.oneCell') = true) := by unfold Hid rowOf; simp [Value.oneCell']
  refine (unsigned_5 _).mono ?_
  rintro e w1 ⟨rfl, hb⟩
  have hB := (Blk.new w #[.int .i64 0, .bool false, .bool false, .int .u64 0, .int .u64 0, .int .u64 0] 125).below hb (by simp)
  have hbel := ((Below.refl w.heap.size w).alloc (Nat.le_refl _) _).trans (hb.mono (by simp))
  go_wp2_with (refine wpList_store_row rfl 125 (.tmp 2) (.tmp 27) rfl w.heap.size (rowOf 5) rfl rfl 125 _ hB (by kernel_rfl) rfl hall.out ?_)
  refine ret_cellG (cs := rowOf 5) (t := 125) rfl Tryz.underlying125 rfl (by kernel_rfl) rfl rfl (hB.setRow _) ⟨rfl, below_setRow hbel (Nat.le_refl _) _⟩
set_option maxHeartbeats 800000 in
theorem of_6 (w : World) (h : Sizes w) : Calls Tryz.prog 93 #[.int .i64 6] w fun e w' => e = .returned (.agg (rowOf 6)) ∧ Below w.heap.size w w' := by
  have s1 := h.at_ 6 (by decide)
  have hlt := h.lt
  clear h
  go_enter Tryz.func93, Tryz.ntmps93
  go_wp2_with (go_at_call 130; fail)
  have hall : Hid (Array.all (rowOf 6) (·.oneCell') = true) := by unfold Hid rowOf; simp [Value.oneCell']
  refine (unsigned_6 _).mono ?_
  rintro e w1 ⟨rfl, hb⟩
  have hB := (Blk.new w #[.int .i64 0, .bool false, .bool false, .int .u64 0, .int .u64 0, .int .u64 0] 125).below hb (by simp)
  have hbel := ((Below.refl w.heap.size w).alloc (Nat.le_refl _) _).trans (hb.mono (by simp))
  go_wp2_with (refine wpList_store_row rfl 125 (.tmp 2) (.tmp 27) rfl w.heap.size (rowOf 6) rfl rfl 125 _ hB (by kernel_rfl) rfl hall.out ?_)
  refine ret_cellG (cs := rowOf 6) (t := 125) rfl Tryz.underlying125 rfl (by kernel_rfl) rfl rfl (hB.setRow _) ⟨rfl, below_setRow hbel (Nat.le_refl _) _⟩
set_option maxHeartbeats 800000 in
theorem of_7 (w : World) (h : Sizes w) : Calls Tryz.prog 93 #[.int .i64 7] w fun e w' => e = .returned (.agg (rowOf 7)) ∧ Below w.heap.size w w' := by
  have s1 := h.at_ 7 (by decide)
  have hlt := h.lt
  clear h
  go_enter Tryz.func93, Tryz.ntmps93
  go_wp2_with (go_at_call 130; fail)
  have hall : Hid (Array.all (rowOf 7) (·.oneCell') = true) := by unfold Hid rowOf; simp [Value.oneCell']
  refine (unsigned_7 _).mono ?_
  rintro e w1 ⟨rfl, hb⟩
  have hB := (Blk.new w #[.int .i64 0, .bool false, .bool false, .int .u64 0, .int .u64 0, .int .u64 0] 125).below hb (by simp)
  have hbel := ((Below.refl w.heap.size w).alloc (Nat.le_refl _) _).trans (hb.mono (by simp))
  go_wp2_with (refine wpList_store_row rfl 125 (.tmp 2) (.tmp 27) rfl w.heap.size (rowOf 7) rfl rfl 125 _ hB (by kernel_rfl) rfl hall.out ?_)
  refine ret_cellG (cs := rowOf 7) (t := 125) rfl Tryz.underlying125 rfl (by kernel_rfl) rfl rfl (hB.setRow _) ⟨rfl, below_setRow hbel (Nat.le_refl _) _⟩
set_option maxHeartbeats 800000 in
theorem of_8 (w : World) (h : Sizes w) : Calls Tryz.prog 93 #[.int .i64 8] w fun e w' => e = .returned (.agg (rowOf 8)) ∧ Below w.heap.size w w' := by
  have s1 := h.at_ 8 (by decide)
  have hlt := h.lt
  clear h
  go_enter Tryz.func93, Tryz.ntmps93
  go_wp2_with (go_at_call 130; fail)
  have hall : Hid (Array.all (rowOf 8) (·.oneCell') = true) := by unfold Hid rowOf; simp [Value.oneCell']
  refine (unsigned_8 _).mono ?_
  rintro e w1 ⟨rfl, hb⟩
  have hB := (Blk.new w #[.int .i64 0, .bool false, .bool false, .int .u64 0, .int .u64 0, .int .u64 0] 125).below hb (by simp)
  have hbel := ((Below.refl w.heap.size w).alloc (Nat.le_refl _) _).trans (hb.mono (by simp))
  go_wp2_with (refine wpList_store_row rfl 125 (.tmp 2) (.tmp 27) rfl w.heap.size (rowOf 8) rfl rfl 125 _ hB (by kernel_rfl) rfl hall.out ?_)
  refine ret_cellG (cs := rowOf 8) (t := 125) rfl Tryz.underlying125 rfl (by kernel_rfl) rfl rfl (hB.setRow _) ⟨rfl, below_setRow hbel (Nat.le_refl _) _⟩
end Go.Proofs.YtijnbohjcmcfjaaGreatDoor.Nu
