/-
  Walks: hex read: the document's.
-/
import Derived.Test.YtjohlabdjdhpfaaGreatDoorHex1
namespace Go.Proofs.YtjohlabdjdhpfaaGreatDoor.Hx
open Go.RowKit Go.Proofs.YtjohlabdjdhpfaaGreatDoor.Kt Go.Proofs.YtjohlabdjdhpfaaGreatDoor.Lk Go.Proofs.YtjohlabdjdhpfaaGreatDoor.Rw Go.Proofs.YtjohlabdjdhpfaaGreatDoor.Rg
set_option linter.unusedSimpArgs false
set_option linter.unusedVariables false
set_option maxRecDepth 100000

/-- are the first k letters hex digits? -/
def hexTo (s : ByteArray) (k : Nat) : Prop := ∀ i, i < k → 0 ≤ worthI (gb s i)
instance (s : ByteArray) (k : Nat) : Decidable (hexTo s k) := by unfold hexTo; infer_instance
/-- is a text hex? -/
def unhexOk (s : ByteArray) : Bool := decide (s.size % 2 = 0 ∧ hexTo s s.size)
/-- the bytes that the first 2 m digits say -/
def unhexZ (s : ByteArray) (m : Nat) : List Int := (List.range m).map fun j => 16 * worthI (gb s (2 * j)) + worthI (gb s (2 * j + 1))
def unhexS (s : ByteArray) : ByteArray := strOfNums (unhexZ s (s.size / 2))
theorem unhexZ_succ (s : ByteArray) (m : Nat) : unhexZ s (m + 1) = unhexZ s m ++ [16 * worthI (gb s (2 * m)) + worthI (gb s (2 * m + 1))] := by unfold unhexZ; rw [List.range_succ, List.map_append]; rfl
theorem unhexZ_length (s : ByteArray) (m : Nat) : (unhexZ s m).length = m := by unfold unhexZ; simp
theorem worthI_lt (c : Nat) : worthI c < 16 := by unfold worthI isDig; simp only [decide_eq_true_eq]; split <;> (try split) <;> (try split) <;> omega
theorem worthI_ge (c : Nat) : -1 ≤ worthI c := by unfold worthI isDig; simp only [decide_eq_true_eq]; split <;> (try split) <;> (try split) <;> omega
/-- what reading hex answers -/
def UnhexPost (s : ByteArray) (w : World) (e : Ending) (w' : World) : Prop :=
  ∃ (v : ByteArray) (c p : Int), e = .returned (.tuple #[.string v, .int .i64 c, .int .i64 p]) ∧ Below w.heap.size w w' ∧ v.size ≤ s.size ∧ (unhexOk s = true → c = 0 ∧ v = unhexS s) ∧ (unhexOk s = false → c ≠ 0)
theorem unhexPost_no {s : ByteArray} {w w' : World} {p : Int} (h : unhexOk s = false) (hb : Below w.heap.size w w') : UnhexPost s w (.returned (.tuple #[.string ⟨#[]⟩, .int .i64 1, .int .i64 p])) w' :=
  ⟨_, _, _, rfl, hb, Nat.zero_le _, (fun h' => by rw [h] at h'; cases h'), (fun _ => by decide)⟩
theorem unhexPost_yes {s : ByteArray} {w w' : World} (h : unhexOk s = true) (hb : Below w.heap.size w w') : UnhexPost s w (.returned (.tuple #[.string (unhexS s), .int .i64 0, .int .i64 0])) w' :=
  ⟨_, _, _, rfl, hb, by unfold unhexS; rw [strOfNums_size, unhexZ_length]; omega, fun _ => ⟨rfl, rfl⟩, (fun h' => by rw [h] at h'; cases h')⟩
theorem rworth_v (c : Nat) (x : Int) (hx : x = worthI c) (w : World) : Calls Tryz.prog 45 #[.int .u8 c, .bool true] w fun e w' => e = .returned (.int .i64 x) ∧ w' = w := by
  subst hx
  exact (rworth_any c w).mono fun _ _ ⟨a, b⟩ => ⟨a, b.symm⟩

set_option maxHeartbeats 1600000 in
theorem runhex_any (s : ByteArray) (w : World) (hm : s.size ≤ 1048576) : Calls Tryz.prog 25 #[.string s] w (UnhexPost s w) := by
  go_enter Tryz.func25, Tryz.ntmps25
  go_wp2
  go_loop [5] (fun i => ∃ k : Nat, i = .int .i64 k ∧ k ≤ s.size ∧ hexTo s k) (fun i => s.size - (intOf i).toNat)
  case atStart => exact ⟨0, rfl, Nat.zero_le _, fun i hi => absurd hi (by omega)⟩
  case round =>
    obtain ⟨k, rfl, hk, hto⟩ := hrel
    have HTO : Hid (hexTo s k) := hto
    clear hto
    by_cases hlt : k < s.size
    · have hb := (gb_lt hlt).symm
      obtain ⟨x, hx⟩ : ∃ x, x = worthI (gb s k) := ⟨_, rfl⟩
      have HX : Hid (x = worthI (gb s k)) := hx
      clear hx
      by_cases hneg : x < 0
      · have HU : Hid (unhexOk s = false) := decide_eq_false (fun h => by have := h.2 k hlt; rw [← HX.out] at this; omega)
        go_wp2_with (go_at_call 45; refine (rworth_v _ x HX.out _).mono ?_; rintro e w' ⟨rfl, rfl⟩)
        go_ret3
        exact unhexPost_no HU.out (Below.refl _ _)
      · have HT2 : Hid (hexTo s (k + 1)) := fun i hi => by
          by_cases h : i = k
          · rw [h, ← HX.out]; omega
          · exact HTO.out i (by omega)
        go_wp2_with (go_at_call 45; refine (rworth_v _ x HX.out _).mono ?_; rintro e w' ⟨rfl, rfl⟩)
        go_round
        case rel => exact ⟨k + 1, by go_num, by omega, HT2.out⟩
        case measure => simp [intOf]; omega
    · obtain rfl : k = s.size := by omega
      by_cases hodd : s.size % 2 = 1
      · have HU : Hid (unhexOk s = false) := decide_eq_false (fun h => by have := h.1; omega)
        have ho : (((s.size : Nat) : Int) % 2 == 1) = true := by simp; omega
        go_wp2
        go_ret3
        exact unhexPost_no HU.out (Below.refl _ _)
      · have HU : Hid (unhexOk s = true) := decide_eq_true ⟨by omega, HTO.out⟩
        have hev : s.size % 2 = 0 := by omega
        have ho : (((s.size : Nat) : Int) % 2 == 1) = false := by simp; omega
        clear hodd hlt hk
        go_wp2
        go_loopw [6, 7] (fun v i wr => ∃ k m : Nat, i = .int .i64 k ∧ Hid (k = 2 * m) ∧ k ≤ s.size ∧ wr.ownsRow w.heap.size 5 1 v m ((unhexZ s m).map (Value.int .u8)) ∧ Below w.heap.size w wr) (fun _ i _ => s.size - (intOf i).toNat)
        case atStart => exact ⟨0, 0, rfl, rfl, Nat.zero_le _, World.ownsRow_nil _ _ _ _, Below.refl _ _⟩
        case round =>
          clear ho
          obtain ⟨k, m, rfl, HK, hk, hown, hB⟩ := hrel
          have HOWN : Hid (wr.ownsRow w.heap.size 5 1 u6 m ((unhexZ s m).map (Value.int .u8))) := hown
          clear hown
          by_cases hlt : k < s.size
          · have h1 : k + 1 < s.size := by have := HK.out; omega
            have hb := (gb_lt hlt).symm
            have hb1 := (gb_lt h1).symm
            have hmk : m ≤ k := by have := HK.out; omega
            go_upto_region 12 with (fail)
            obtain ⟨x1, hx1⟩ : ∃ x, x = worthI (gb s k) := ⟨_, rfl⟩
            obtain ⟨x2, hx2⟩ : ∃ x, x = worthI (gb s (k + 1)) := ⟨_, rfl⟩
            have b1 : 0 ≤ x1 := by rw [hx1]; exact HTO.out _ hlt
            have b2 : 0 ≤ x2 := by rw [hx2]; exact HTO.out _ h1
            have b3 : x1 < 16 := by rw [hx1]; exact worthI_lt _
            have b4 : x2 < 16 := by rw [hx2]; exact worthI_lt _
            have HX1 : Hid (x1 = worthI (gb s k)) := hx1
            have HX2 : Hid (x2 = worthI (gb s (k + 1))) := hx2
            clear hx1 hx2
            obtain ⟨i1, hi1, hz10, hz11, hz12⟩ := info_parts infoU8
            have hl := unhexZ_length s m
            have hs1 : IntKind.i64.wrap ((k : Int) + 1) = (k : Int) + 1 := IntWalk.i64_in _ (by omega)
            have h1i : (k : Int) + 1 < (s.size : Int) := by omega
            have h1n : 0 ≤ (k : Int) + 1 := by omega
            have hn1 : ((k : Int) + 1).toNat = k + 1 := by omega
            have hs2 : IntKind.i64.wrap (16 * x1) = 16 * x1 := IntWalk.i64_in _ (by omega)
            have hs3 : IntKind.i64.wrap (16 * x1 + x2) = 16 * x1 + x2 := IntWalk.i64_in _ (by omega)
            have hs4 : (16 * x1 + x2) % 256 = 16 * x1 + x2 := by omega
            have HO2 : Hid (((wr.drew).alloc (.cells #[.int .u8 (16 * x1 + x2)] 5)).ownsRow w.heap.size 5 1 u6 m ((unhexZ s m).map (Value.int .u8))) := (World.ownsRow.drew HOWN.out).alloc _
            refine wp_region_plan [(some 32, 0), (some 33, 1), (some 34, 2), (some 35, 3), (some 38, 6), (some 39, 7), (some 40, 8), (some 41, 9), (none, 4), (some 37, 5), (none, 10), (some 43, 11), (some 44, 12), (none, 13), (none, 14), (none, 15)] (by kernel_rfl) (by kernel_rfl) (fun _ _ d _ _ h => by cases d <;> exact h) ?_
            repeat (refine plan_pure (v := ?_) (a' := ?_) rfl rfl (Or.inl ⟨by rfl, ?_⟩) ?_ ?_; rotate_left; (intro w'; go_simp; with_reducible rfl); rotate_left; (simp only [Act.put, List.setIfInBounds_toArray, List.set_cons_zero, List.set_cons_succ]; rfl))
            refine plan_alone _ _ _ _ ?_
            simp only [picks, List.getElem?_cons_succ, List.getElem?_cons_zero]
            go_wp2_with (go_at_call 45; refine (rworth_v _ x1 HX1.out _).mono ?_; rintro e w' ⟨rfl, rfl⟩)
            repeat (refine plan_pure (v := ?_) (a' := ?_) rfl rfl (Or.inl ⟨by rfl, ?_⟩) ?_ ?_; rotate_left; (intro w'; go_simp; with_reducible rfl); rotate_left; (simp only [Act.put, List.setIfInBounds_toArray, List.set_cons_zero, List.set_cons_succ]; rfl))
            refine plan_alone _ _ _ _ ?_
            simp only [picks, List.getElem?_cons_succ, List.getElem?_cons_zero]
            go_wp2_with (go_at_call 45; refine (rworth_v _ x2 HX2.out _).mono ?_; rintro e w' ⟨rfl, rfl⟩)
            repeat (refine plan_pure (v := ?_) (a' := ?_) rfl rfl (Or.inl ⟨by rfl, ?_⟩) ?_ ?_; rotate_left; (intro w'; go_simp; with_reducible rfl); rotate_left; (simp only [Act.put, List.setIfInBounds_toArray, List.set_cons_zero, List.set_cons_succ]; rfl))
            refine plan_seq _ _ _ rfl ?_
            simp only [picks, List.getElem?_cons_succ, List.getElem?_cons_zero]
            go_wp2_with (at_builtin; refine wpList_append_own_at _ rfl _ _ 29 rfl w.heap.size 5 i1 (.int .u8 0) 1 1 Tryz.underlying29 hi1 hz10 hz11 hz12 rfl (by decide) u6 m ((unhexZ s m).map (Value.int .u8)) rfl HO2.out ⟨wr.heap.size, 0, none⟩ 1 1 [.int .u8 (16 * x1 + x2)] rfl rfl ?c1 ?c2 ?c3 ?c4 ?c5 ?_)
            case c1 => exact new_cells _ _ _
            case c2 => intro u hu; simp at hu; rcases hu with rfl; rfl
            case c3 => unfold maxLen; omega
            case c4 => omega
            case c5 => have := hB.size; simp; omega
            intro v' w1 hown' hgrow _ _
            have HO : Hid (w1.ownsRow w.heap.size 5 1 v' (m + 1) ((unhexZ s (m + 1)).map (Value.int .u8))) := by
              unfold Hid
              rw [unhexZ_succ, List.map_append, ← HK.out]
              rw [HX1.out, HX2.out] at hown'
              exact hown'
            have HBB : Hid (Below w.heap.size w w1) := below_row (((hB.drew).alloc hB.size _)) (by have := hB.size; simp; omega) HO2.out hgrow
            clear hown' hgrow
            have hs5 : IntKind.i64.wrap ((k : Int) + 2) = (k : Int) + 2 := IntWalk.i64_in _ (by omega)
            go_wp2
            go_roundw
            case rel => exact ⟨k + 2, m + 1, by go_num, by have := HK.out; unfold Hid; omega, by omega, HO.out, HBB.out⟩
            case measure => simp [intOf]; omega
          · have hks : k = s.size := by have := HK.out; omega
            have HM : Hid (m = s.size / 2) := by have := HK.out; unfold Hid; omega
            have hcv := conv_row (P := Tryz.prog) HOWN.out 29 5 Tryz.underlying29 Tryz.underlying5 9 Tryz.underlying9
            clear hks
            go_wp2
            go_ret3
            have hR := unhexPost_yes HU.out hB
            unfold unhexS at hR
            rw [← HM.out] at hR
            exact hR
end Go.Proofs.YtjohlabdjdhpfaaGreatDoor.Hx
