/-
  Walks: hex read: package text's.
-/
import Derived.Test.YtjohlabdjdhpfaaGreatDoorHex3
namespace Go.Proofs.YtjohlabdjdhpfaaGreatDoor.Hx
open Go.RowKit Go.Proofs.YtjohlabdjdhpfaaGreatDoor.Kt Go.Proofs.YtjohlabdjdhpfaaGreatDoor.Lk Go.Proofs.YtjohlabdjdhpfaaGreatDoor.Rw Go.Proofs.YtjohlabdjdhpfaaGreatDoor.Rg
set_option linter.unusedSimpArgs false
set_option linter.unusedVariables false
set_option maxRecDepth 100000

theorem nib_yes (c : Nat) (x : Int) (hx : x = worthI c) (h0 : 0 ≤ x) (w : World) : Calls Tryz.prog 34 #[.int .u8 c] w fun e w' => e = .returned (.tuple #[.int .i64 x, .bool true]) ∧ w = w' :=
  (nibble_any c w).mono fun _ _ ⟨a, b⟩ => ⟨by rw [a, nibV_of hx.symm h0], b⟩
theorem nib_no (c : Nat) (h : worthI c < 0) (w : World) : Calls Tryz.prog 34 #[.int .u8 c] w fun e w' => e = .returned (.tuple #[.int .i64 0, .bool false]) ∧ w = w' :=
  (nibble_any c w).mono fun _ _ ⟨a, b⟩ => ⟨by rw [a, nibV_no (by have := worthI_ge c; omega)], b⟩

theorem or16 (h x : Int) (h0 : 0 ≤ h) (h1 : h < 16) (x0 : 0 ≤ x) (x1 : x < 16) : bits .or .i64 (h * 16) x % 256 = h * 16 + x := by
  have H : ∀ a b : Fin 16, bits .or .i64 (((a.val : Nat) : Int) * 16) ((b.val : Nat) : Int) % 256 = ((a.val : Nat) : Int) * 16 + ((b.val : Nat) : Int) := by decide +kernel
  have := H ⟨h.toNat, by omega⟩ ⟨x.toNat, by omega⟩
  simpa only [Int.toNat_of_nonneg h0, Int.toNat_of_nonneg x0] using this
set_option maxHeartbeats 3200000 in
theorem tunhex_any (s : ByteArray) (w : World) (hm : s.size ≤ 1048576) : Calls Tryz.prog 16 #[.string s] w (UnhexPost s w) := by
  obtain ⟨i1, hi1, hz10, hz11, hz12⟩ := info_parts infoU8
  obtain ⟨w0, hmk, hown0, hg0⟩ := run_make_own (P := Tryz.prog) w w.heap.size 29 5 i1 (.int .u8 0) 1 Tryz.underlying29 hi1 hz10 hz11 .i64 .i64 (s.size / 2) (by rw [hz12]; omega) (by unfold maxLen; omega) (Nat.le_refl _)
  have hmk2 : (Instr.makeSlice 29 (.int .i64 0) (.int .i64 ((s.size : Int) / 2))).run Tryz.prog w = .ok (.slice (some ⟨w.heap.size, 0, none⟩) 0 (s.size / 2)) w0 := by
    rw [← hmk]; rfl
  clear hmk
  have HOWN0 : Hid (w0.ownsRow w.heap.size 5 1 (.slice (some ⟨w.heap.size, 0, none⟩) 0 (s.size / 2)) 0 []) := hown0
  have hB0 := below_grown hg0
  clear hown0 hg0
  go_enter Tryz.func16, Tryz.ntmps16
  go_wp2
  go_loopw [5, 6, 16] (fun v hv i wr => ∃ (k m : Nat) (h : Int), i = .int .i64 k ∧ hv = .int .i64 h ∧ Hid (k = 2 * m ∨ k = 2 * m + 1) ∧ Hid (k = 2 * m + 1 → h = worthI (gb s (2 * m))) ∧ Hid (hexTo s k) ∧ k ≤ s.size ∧ wr.ownsRow w.heap.size 5 1 v m ((unhexZ s m).map (Value.int .u8)) ∧ Below w.heap.size w wr) (fun _ _ i _ => s.size - (intOf i).toNat)
  case atStart => exact ⟨0, 0, 0, rfl, rfl, .inl rfl, fun h => absurd h (by decide), fun i hi => absurd hi (by omega), Nat.zero_le _, HOWN0.out, hB0⟩
  case round =>
    clear hmk2 HOWN0 hB0
    obtain ⟨k, m, h, rfl, rfl, HK, HH, HTO, hk, hown, hB⟩ := hrel
    have HOWN : Hid (wr.ownsRow w.heap.size 5 1 u5 m ((unhexZ s m).map (Value.int .u8))) := hown
    clear hown
    by_cases hlt : k < s.size
    · have hb := (gb_lt hlt).symm
      by_cases hneg : worthI (gb s k) < 0
      · have HU : Hid (unhexOk s = false) := decide_eq_false (fun h => by have := h.2 k hlt; omega)
        have HN : Hid (worthI (gb s k) < 0) := hneg
        clear hneg
        go_wp2_with (go_at_call 34; refine (nib_no _ HN.out _).mono ?_; rintro e w' ⟨rfl, rfl⟩)
        go_ret3
        exact unhexPost_no HU.out hB
      · have HT2 : Hid (hexTo s (k + 1)) := fun i hi => by
          by_cases h : i = k
          · rw [h]; omega
          · exact HTO.out i (by omega)
        obtain ⟨x, hx⟩ : ∃ x, x = worthI (gb s k) := ⟨_, rfl⟩
        have b1 : 0 ≤ x := by omega
        have b2 : x < 16 := by rw [hx]; exact worthI_lt _
        have HX : Hid (x = worthI (gb s k)) := hx
        clear hx hneg
        by_cases hodd : k % 2 = 1
        · have ho : ((k : Int) % 2 == 1) = true := by simp; omega
          have hk1 : k = 2 * m + 1 := by have := HK.out; omega
          have hhv : h = worthI (gb s (2 * m)) := HH.out hk1
          have b3 : 0 ≤ h := by rw [hhv]; exact HTO.out _ (by omega)
          have b4 : h < 16 := by rw [hhv]; exact worthI_lt _
          have hmk : m ≤ k := by omega
          have HK1 : Hid (k = 2 * m + 1) := hk1
          have HHV : Hid (h = worthI (gb s (2 * m))) := hhv
          clear hk1 hhv
          have hl := unhexZ_length s m
          go_upto_region 10 with (go_at_call 34; refine (nib_yes _ x HX.out b1 _).mono ?_; rintro e w' ⟨rfl, rfl⟩)
          have hor := or16 h x b3 b4 b1 b2
          go_wp2_with (at_builtin; refine wpList_append_own_at _ rfl _ _ 29 rfl w.heap.size 5 i1 (.int .u8 0) 1 1 Tryz.underlying29 hi1 hz10 hz11 hz12 rfl (by decide) u5 m ((unhexZ s m).map (Value.int .u8)) rfl (World.ownsRow.alloc HOWN.out _) ⟨wr.heap.size, 0, none⟩ 1 1 [.int .u8 (h * 16 + x)] rfl rfl ?c1 ?c2 ?c3 ?c4 ?c5 ?_)
          case c1 => exact new_cells _ _ _
          case c2 => intro u hu; simp at hu; rcases hu with rfl; rfl
          case c3 => unfold maxLen; omega
          case c4 => omega
          case c5 => have := hB.size; simp; omega
          intro v' w1 hown' hgrow _ _
          have HO : Hid (w1.ownsRow w.heap.size 5 1 v' (m + 1) ((unhexZ s (m + 1)).map (Value.int .u8))) := by
            unfold Hid
            rw [unhexZ_succ, List.map_append]
            have e : 16 * worthI (gb s (2 * m)) + worthI (gb s (2 * m + 1)) = h * 16 + x := by rw [HX.out, HHV.out, HK1.out]; omega
            rw [e]
            exact hown'
          have HBB : Hid (Below w.heap.size w w1) := below_row ((hB.alloc hB.size _)) (by have := hB.size; simp; omega) (World.ownsRow.alloc HOWN.out _) hgrow
          clear hown' hgrow hor
          go_wp2
          go_roundw
          case rel => exact ⟨k + 1, m + 1, x, by go_num, rfl, by have := HK1.out; unfold Hid; omega, by have := HK1.out; unfold Hid; omega, HT2, by omega, HO.out, HBB.out⟩
          case measure => simp [intOf]; omega
        · have ho : ((k : Int) % 2 == 1) = false := by simp; omega
          have HK0 : Hid (k = 2 * m) := by have := HK.out; unfold Hid; omega
          clear hodd
          go_wp2_with (go_at_call 34; refine (nib_yes _ x HX.out b1 _).mono ?_; rintro e w' ⟨rfl, rfl⟩)
          go_roundw
          case rel => exact ⟨k + 1, m, x, by go_num, rfl, by have := HK0.out; unfold Hid; omega, fun _ => by rw [HX.out, ← HK0.out], HT2, by omega, HOWN.out, hB⟩
          case measure => simp [intOf]; omega
    · obtain rfl : k = s.size := by omega
      by_cases hodd : s.size % 2 = 1
      · have HU : Hid (unhexOk s = false) := decide_eq_false (fun h => by have := h.1; omega)
        have ho : (((s.size : Nat) : Int) % 2 == 1) = true := by simp; omega
        clear hodd
        go_wp2
        go_ret3
        exact unhexPost_no HU.out hB
      · have HU : Hid (unhexOk s = true) := decide_eq_true ⟨by omega, HTO.out⟩
        have ho : (((s.size : Nat) : Int) % 2 == 1) = false := by simp; omega
        have HM : Hid (m = s.size / 2) := by have := HK.out; unfold Hid; omega
        clear hodd
        have hcv := conv_row (P := Tryz.prog) HOWN.out 29 5 Tryz.underlying29 Tryz.underlying5 9 Tryz.underlying9
        go_wp2
        go_ret3
        have hR := unhexPost_yes HU.out hB
        unfold unhexS at hR
        rw [← HM.out] at hR
        exact hR
end Go.Proofs.YtjohlabdjdhpfaaGreatDoor.Hx
