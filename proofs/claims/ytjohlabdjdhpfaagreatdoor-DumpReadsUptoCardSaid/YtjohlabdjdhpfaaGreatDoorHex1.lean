/-
  Walks: hex written: the document's.
-/
import Derived.Test.YtjohlabdjdhpfaaGreatDoorHex0
import Derived.Test.YtjohlabdjdhpfaaGreatDoorRows2
import Derived.Laws.BytesArg
import Derived.Deep.DeepCutAuto
import Derived.Deep.CutBlock
import Derived.Test.YtjohlabdjdhpfaaGreatDoorReg
namespace Go.Proofs.YtjohlabdjdhpfaaGreatDoor.Hx
open Go.RowKit Go.Proofs.YtjohlabdjdhpfaaGreatDoor.Kt Go.Proofs.YtjohlabdjdhpfaaGreatDoor.Lk Go.Proofs.YtjohlabdjdhpfaaGreatDoor.Rw Go.Proofs.YtjohlabdjdhpfaaGreatDoor.Rg
set_option linter.unusedSimpArgs false
set_option linter.unusedVariables false
set_option maxRecDepth 100000

def hd (n : Nat) : Int := if n < 10 then 48 + (n : Int) else 87 + (n : Int)
/-- the digits of the first k letters -/
def hexZ (s : ByteArray) (k : Nat) : List Int := (List.range k).flatMap fun i => [hd (gb s i / 16), hd (gb s i % 16)]
theorem hexZ_succ (s : ByteArray) (k : Nat) : hexZ s (k + 1) = hexZ s k ++ [hd (gb s k / 16), hd (gb s k % 16)] := by unfold hexZ; rw [List.range_succ, List.flatMap_append]; rfl
theorem hexZ_length (s : ByteArray) (k : Nat) : (hexZ s k).length = 2 * k := by
  induction k with
  | zero => rfl
  | succ k ih => rw [hexZ_succ, List.length_append, ih]; simp; omega
theorem small_v (n : Nat) (hn : n < 16) (v : Int) (hv : v = (n : Int)) (w : World) : Calls Tryz.prog 46 #[.int .u8 v] w fun e w' => e = .returned (.int .u8 (hd n)) ∧ w' = w := by
  subst hv
  exact (small_any n hn w).mono fun _ _ ⟨a, b⟩ => ⟨a, b.symm⟩
theorem infoU8 : (Tryz.prog.info? 5).map (fun i => (i.zero, i.size, i.bytes)) = some (some (.int .u8 0), 1, 1) := by kernel_rfl

set_option maxHeartbeats 1600000 in
theorem rhex_any (s : ByteArray) (w : World) (hm : s.size ≤ 1048576) :
    Calls Tryz.prog 26 #[.string s] w fun e w' => e = .returned (.string (strOfNums (hexZ s s.size))) ∧ Below w.heap.size w w' := by
  go_enter Tryz.func26, Tryz.ntmps26
  go_wp2
  go_loopw [3, 4] (fun v i wr => ∃ k : Nat, i = .int .i64 k ∧ k ≤ s.size ∧ wr.ownsRow w.heap.size 5 1 v (2 * k) ((hexZ s k).map (Value.int .u8)) ∧ Below w.heap.size w wr) (fun _ i _ => s.size - (intOf i).toNat)
  case atStart => exact ⟨0, rfl, Nat.zero_le _, World.ownsRow_nil _ _ _ _, Below.refl _ _⟩
  case round =>
    obtain ⟨k, rfl, hk, hown, hB⟩ := hrel
    have HOWN : Hid (wr.ownsRow w.heap.size 5 1 u3 (2 * k) ((hexZ s k).map (Value.int .u8))) := hown
    clear hown
    by_cases hlt : k < s.size
    · have hb := (gb_lt hlt).symm
      go_upto_region 5 with (fail)
      obtain ⟨x1, hx1⟩ : ∃ x, x = hd (gb s k / 16) := ⟨_, rfl⟩
      obtain ⟨x2, hx2⟩ : ∃ x, x = hd (gb s k % 16) := ⟨_, rfl⟩
      have HQ : Hid (∀ v : Int, v = ((gb s k / 16 : Nat) : Int) → ∀ w : World, Calls Tryz.prog 46 #[.int .u8 v] w fun e w' => e = .returned (.int .u8 x1) ∧ w' = w) := hx1 ▸ small_v (gb s k / 16) (by have := gb_byte s k; omega)
      have HR : Hid (∀ v : Int, v = ((gb s k % 16 : Nat) : Int) → ∀ w : World, Calls Tryz.prog 46 #[.int .u8 v] w fun e w' => e = .returned (.int .u8 x2) ∧ w' = w) := hx2 ▸ small_v (gb s k % 16) (by omega)
      have hby := gb_byte s k
      have HX1 : Hid (x1 = hd (gb s k / 16)) := hx1
      have HX2 : Hid (x2 = hd (gb s k % 16)) := hx2
      clear hx1 hx2
      obtain ⟨i1, hi1, hz10, hz11, hz12⟩ := info_parts infoU8
      have hl := hexZ_length s k
      have HO2 : Hid (((wr.drew).alloc (.cells #[.int .u8 x1, .int .u8 x2] 5)).ownsRow w.heap.size 5 1 u3 (2 * k) ((hexZ s k).map (Value.int .u8))) := (World.ownsRow.drew HOWN.out).alloc _
      refine wp_region_plan [(some 11, 0), (some 12, 1), (some 13, 2), (some 14, 3), (some 15, 4), (some 17, 6), (some 18, 7), (some 19, 8), (some 20, 9), (none, 5), (none, 10), (none, 11), (none, 12), (none, 13)] (by kernel_rfl) (by kernel_rfl) (fun _ _ d _ _ h => by cases d <;> exact h) ?_
      repeat (refine plan_pure (v := ?_) (a' := ?_) rfl rfl (Or.inl ⟨by rfl, ?_⟩) ?_ ?_; rotate_left; (intro w'; go_simp; with_reducible rfl); rotate_left; (simp only [Act.put, List.setIfInBounds_toArray, List.set_cons_zero, List.set_cons_succ]; rfl))
      refine plan_seq _ _ _ rfl ?_
      simp only [picks, List.getElem?_cons_succ, List.getElem?_cons_zero]
      go_wp2_with (first
        | (go_at_call 46; ((with_reducible refine (HQ.out _ (by omega) _).mono ?_); rintro e w' ⟨rfl, rfl⟩))
        | (go_at_call 46; ((with_reducible refine (HR.out _ (by first | omega | exact (Int.ofNat_tmod _ _).symm) _).mono ?_); rintro e w' ⟨rfl, rfl⟩))
        | (at_builtin; refine wpList_append_own_at _ rfl _ _ 29 rfl w.heap.size 5 i1 (.int .u8 0) 1 1 Tryz.underlying29 hi1 hz10 hz11 hz12 rfl (by decide) u3 (2 * k) ((hexZ s k).map (Value.int .u8)) rfl HO2.out ⟨wr.heap.size, 0, none⟩ 2 2 [.int .u8 x1, .int .u8 x2] rfl rfl ?c1 ?c2 ?c3 ?c4 ?c5 ?_))
      case c1 => exact new_cells _ _ _
      case c2 => intro u hu; simp at hu; rcases hu with rfl | rfl <;> rfl
      case c3 => unfold maxLen; omega
      case c4 => omega
      case c5 => have := hB.size; simp; omega
      intro v' w1 hown' hgrow _ _
      have HO : Hid (w1.ownsRow w.heap.size 5 1 v' (2 * (k + 1)) ((hexZ s (k + 1)).map (Value.int .u8))) := by
        unfold Hid
        rw [hexZ_succ, List.map_append]
        rw [HX1.out, HX2.out] at hown'
        exact hown'
      have HBB : Hid (Below w.heap.size w w1) := below_row (((hB.drew).alloc hB.size _)) (by have := hB.size; simp; omega) HO2.out hgrow
      clear hown' hgrow
      go_wp2
      go_roundw
      case rel => exact ⟨k + 1, by go_num, by omega, HO.out, HBB.out⟩
      case measure => simp [intOf]; omega
    · obtain rfl : k = s.size := by omega
      have hcv := conv_row (P := Tryz.prog) HOWN.out 29 5 Tryz.underlying29 Tryz.underlying5 9 Tryz.underlying9
      go_wp2
      go_ret
      exact ⟨rfl, hB⟩
end Go.Proofs.YtjohlabdjdhpfaaGreatDoor.Hx
