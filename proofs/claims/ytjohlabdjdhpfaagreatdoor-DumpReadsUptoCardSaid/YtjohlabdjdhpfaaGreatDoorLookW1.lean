/-
  Walks: the small functions of package look's reader of a path's text.
-/
import Derived.Test.YtjohlabdjdhpfaaGreatDoorLookPlain
import Derived.Test.YtjohlabdjdhpfaaGreatDoorProg
import Derived.Test.YtjohlabdjdhpfaaGreatDoorKit
namespace Go.Proofs.YtjohlabdjdhpfaaGreatDoor.Lk
open Go.RowKit Go.Proofs.YtjohlabdjdhpfaaGreatDoor.Kt
set_option linter.unusedSimpArgs false
set_option linter.unusedVariables false




theorem letter_any (c : Nat) (w : World) : Calls Tryz.prog 76 #[.int .u8 c] w fun e w' => e = .returned (.bool (isLet c)) ∧ w = w' := by
  unfold isLet
  go_enter Tryz.func76, Tryz.ntmps76
  go_wp2
  all_goals go_ret
  all_goals exact ⟨ret_bool (by rw [Bool.eq_iff_iff]; simp; omega), rfl⟩
theorem digit_any (c : Nat) (w : World) : Calls Tryz.prog 77 #[.int .u8 c] w fun e w' => e = .returned (.bool (isDig c)) ∧ w = w' := by
  unfold isDig
  go_enter Tryz.func77, Tryz.ntmps77
  go_wp2
  all_goals go_ret
  all_goals exact ⟨ret_bool (by rw [Bool.eq_iff_iff]; simp; omega), rfl⟩

theorem now_any (s : ByteArray) (g k : Nat) (w : World) (h0 : w.cell? ⟨g, 0, none⟩ = some (.string s)) (h1 : w.cell? ⟨g, 1, none⟩ = some (.int .i64 k)) :
    Calls Tryz.prog 32 #[.pointer (some ⟨g, 0, none⟩)] w fun e w' => e = .returned (.int .u8 (gb s k)) ∧ ∃ n, w' = w.drewN n := by
  by_cases hlt : k < s.size
  · have hb := gb_lt hlt
    have hr : Hid (Ending.returned (Value.int .u8 ((s[k].toNat : Nat) : Int)) = Ending.returned (.int .u8 (gb s k : Nat))) := by rw [hb]; exact rfl
    clear hb
    go_enter Tryz.func32, Tryz.ntmps32
    go_wp2
    go_quiet (fail)
    go_wp2
    go_quiet (fail)
    go_wp2
    go_ret
    exact ⟨hr.out, _, by rw [World.drewN_drewN]⟩
  · have hb := gb_ge hlt
    have hr : Hid (Ending.returned (Value.int .u8 0) = Ending.returned (.int .u8 (gb s k : Nat))) := by rw [hb]; exact rfl
    clear hb
    go_enter Tryz.func32, Tryz.ntmps32
    go_wp2
    go_quiet (fail)
    go_wp2
    go_ret
    exact ⟨hr.out, _, rfl⟩

/-- the reader's block -/
def At (w : World) (g : Nat) (s : ByteArray) (k : Nat) : Prop := Blk w g #[.string s, .int .i64 k] 61
theorem At.set {w : World} {g : Nat} {s : ByteArray} {k : Nat} (h : At w g s k) (j : Nat) : At (w.setCell ⟨g, 1, none⟩ (.int .i64 j)) g s j := Blk.set h 1 _

theorem nameGo_of {s : ByteArray} {f k : Nat} (h1 : k < s.size) (h2 : k < f + 64) (h3 : isLet (gb s k) = true ∨ (f < k ∧ isDig (gb s k) = true)) : nameGo s f k = true := by
  unfold nameGo; simp [h1, h2]; exact h3

set_option maxHeartbeats 800000 in
theorem name_any (s : ByteArray) (g k0 : Nat) (w : World) (hm : s.size ≤ 1048576) (hk0 : k0 ≤ s.size) (hA : At w g s k0) :
    Calls Tryz.prog 53 #[.pointer (some ⟨g, 0, none⟩)] w fun e w' =>
      e = .returned (.tuple #[.string (s.extract k0 (nameEnd s k0 k0)), .bool (decide (k0 < nameEnd s k0 k0))]) ∧ At w' g s (nameEnd s k0 k0) ∧ w.grownBy w' (some g) := by
  have c0 : w.cell? ⟨g, 0, none⟩ = some (.string s) := hA.cell 0 rfl
  have c1 : w.cell? ⟨g, 1, none⟩ = some (.int .i64 k0) := hA.cell 1 rfl
  go_enter Tryz.func53, Tryz.ntmps53
  go_wp2
  clear c0 c1
  go_loopg [] (s.size - k0) (fun m wr => ∃ k : Nat, m = s.size - k ∧ k0 ≤ k ∧ k ≤ s.size ∧ At wr g s k ∧ w.grownBy wr (some g) ∧ nameEnd s k0 k = nameEnd s k0 k0)
  case atStart => exact ⟨k0, rfl, Nat.le_refl _, hk0, hA, World.grownBy.refl _ _, rfl⟩
  case round =>
    obtain ⟨k, hmm, hk1, hk2, hB, hg, hend⟩ := hrel
    have c0 : wr.cell? ⟨g, 0, none⟩ = some (.string s) := hB.cell 0 rfl
    have c1 : wr.cell? ⟨g, 1, none⟩ = some (.int .i64 k) := hB.cell 1 rfl
    have fz : wr.frozen? ⟨g, 1, none⟩ = false := hB.free 1
    have HE : Hid (nameEnd s k0 k = nameEnd s k0 k0) := hend
    have HM : Hid (gk = s.size - k) := hmm
    clear hend hmm hA
    have hw : IntKind.i64.wrap ((k : Int) - (k0 : Int)) = (k : Int) - (k0 : Int) := IntWalk.i64_in _ (by omega)
    by_cases h1 : k < s.size
    · have d1 : decide (k < s.size) = true := by simpa using h1
      by_cases h2 : k < k0 + 64
      · have d2 : decide ((k : Int) - (k0 : Int) < 64) = true := by simp; omega
        cases h3 : isLet (gb s k) with
        | true =>
          have H3 : Hid (isLet (gb s k) = true) := h3
          have H4 : Hid (isDig (gb s k) = isDig (gb s k)) := rfl
          have HG : Hid (nameGo s k0 k = true) := nameGo_of h1 h2 (.inl h3)
          clear h3
          go_wp2
          go_big_quiet (first
            | (go_at_call 32; exact Calls.quiet_of (now_any s g k _ c0 c1))
            | (go_at_call 76; exact qsame (by rw [H3.out]) (letter_any _ _))
            | (go_at_call 77; exact qsame (by rw [H4.out]) (digit_any _ _)))
          go_wp2
          go_roundg (s.size - (k + 1))
          case measure => rw [HM.out]; omega
          case rel => exact ⟨k + 1, rfl, by omega, by omega, At.set (hB.drewN _) (k + 1), grown_set (grown_drewN hg _) _ _, (nameEnd_go HG.out).trans HE.out⟩
        | false =>
          have H3 : Hid (isLet (gb s k) = false) := h3
          by_cases h4 : k0 < k
          · have d4 : decide (k0 < k) = true := by simpa using h4
            cases h5 : isDig (gb s k) with
            | true =>
              have H4 : Hid (isDig (gb s k) = true) := h5
              have HG : Hid (nameGo s k0 k = true) := nameGo_of h1 h2 (.inr ⟨h4, h5⟩)
              clear h3 h5
              go_wp2
              go_big_quiet (first
                | (go_at_call 32; exact Calls.quiet_of (now_any s g k _ c0 c1))
                | (go_at_call 76; exact qsame (by rw [H3.out]) (letter_any _ _))
                | (go_at_call 77; exact qsame (by rw [H4.out]) (digit_any _ _)))
              go_wp2
              go_roundg (s.size - (k + 1))
              case measure => rw [HM.out]; omega
              case rel => exact ⟨k + 1, rfl, by omega, by omega, At.set (hB.drewN _) (k + 1), grown_set (grown_drewN hg _) _ _, (nameEnd_go HG.out).trans HE.out⟩
            | false =>
              have H4 : Hid (isDig (gb s k) = false) := h5
              have HG : Hid (nameGo s k0 k = false) := by unfold Hid nameGo; rw [h3, h5]; simp
              clear h3 h5
              have HS : Hid (nameEnd s k0 k0 = k) := by rw [Hid, ← HE.out]; exact nameEnd_stop HG.out
              have HL : Hid (Value.string (s.extract k0 k) = .string (s.extract k0 (nameEnd s k0 k0))) := by rw [Hid, HS.out]
              have HR : Hid (decide (k0 < nameEnd s k0 k0) = decide (k0 < k)) := by rw [Hid, HS.out]
              go_wp2
              go_big_quiet (first
                          | (go_at_call 32; exact Calls.quiet_of (now_any s g k _ c0 c1))
                          | (go_at_call 76; exact qsame (by rw [H3.out]) (letter_any _ _))
                          | (go_at_call 77; exact qsame (by rw [H4.out]) (digit_any _ _)))
              go_wp2
              go_big_quiet (fail)
              go_wp2
              go_ret2
              exact ⟨by rw [HS.out]; first | rfl | (rw [d4]; rfl), by rw [HS.out]; exact hB, grown_drewN (grown_drewN hg _) _⟩
          · have d4 : decide (k0 < k) = false := by simpa using h4
            have H4 : Hid (isDig (gb s k) = isDig (gb s k)) := rfl
            have HG : Hid (nameGo s k0 k = false) := by unfold Hid nameGo; rw [h3, d4]; simp
            clear h3
            have HS : Hid (nameEnd s k0 k0 = k) := by rw [Hid, ← HE.out]; exact nameEnd_stop HG.out
            have HL : Hid (Value.string (s.extract k0 k) = .string (s.extract k0 (nameEnd s k0 k0))) := by rw [Hid, HS.out]
            have HR : Hid (decide (k0 < nameEnd s k0 k0) = decide (k0 < k)) := by rw [Hid, HS.out]
            go_wp2
            go_big_quiet (first
                        | (go_at_call 32; exact Calls.quiet_of (now_any s g k _ c0 c1))
                        | (go_at_call 76; exact qsame (by rw [H3.out]) (letter_any _ _))
                        | (go_at_call 77; exact qsame (by rw [H4.out]) (digit_any _ _)))
            go_wp2
            go_big_quiet (fail)
            go_wp2
            go_ret2
            exact ⟨by rw [HS.out]; first | rfl | (rw [d4]; rfl), by rw [HS.out]; exact hB, grown_drewN (grown_drewN hg _) _⟩
      · have d2 : decide ((k : Int) - (k0 : Int) < 64) = false := by simp; omega
        have HG : Hid (nameGo s k0 k = false) := by unfold Hid nameGo; simp [h2]
        have HS : Hid (nameEnd s k0 k0 = k) := by rw [Hid, ← HE.out]; exact nameEnd_stop HG.out
        have HL : Hid (Value.string (s.extract k0 k) = .string (s.extract k0 (nameEnd s k0 k0))) := by rw [Hid, HS.out]
        have HR : Hid (decide (k0 < nameEnd s k0 k0) = decide (k0 < k)) := by rw [Hid, HS.out]
        go_wp2
        go_big_quiet (fail)
        go_wp2
        go_big_quiet (fail)
        go_wp2
        go_ret2
        exact ⟨by rw [HS.out]; first | rfl | (rw [d4]; rfl), by rw [HS.out]; exact hB, grown_drewN (grown_drewN hg _) _⟩
    · have d1 : decide (k < s.size) = false := by simpa using h1
      have HG : Hid (nameGo s k0 k = false) := by unfold Hid nameGo; simp [h1]
      have HS : Hid (nameEnd s k0 k0 = k) := by rw [Hid, ← HE.out]; exact nameEnd_stop HG.out
      have HL : Hid (Value.string (s.extract k0 k) = .string (s.extract k0 (nameEnd s k0 k0))) := by rw [Hid, HS.out]
      have HR : Hid (decide (k0 < nameEnd s k0 k0) = decide (k0 < k)) := by rw [Hid, HS.out]
      go_wp2
      go_big_quiet (fail)
      go_wp2
      go_big_quiet (fail)
      go_wp2
      go_ret2
      exact ⟨by rw [HS.out]; first | rfl | (rw [d4]; rfl), by rw [HS.out]; exact hB, grown_drewN (grown_drewN hg _) _⟩
end Go.Proofs.YtjohlabdjdhpfaaGreatDoor.Lk
