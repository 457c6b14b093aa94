/-
  Walks: package look's reader of a path's text: numbers, steps.
-/
import Derived.Test.YtjohlabdjdhpfaaGreatDoorLookW1
namespace Go.Proofs.YtjohlabdjdhpfaaGreatDoor.Lk
open Go.RowKit Go.Proofs.YtjohlabdjdhpfaaGreatDoor.Kt
set_option linter.unusedSimpArgs false
set_option linter.unusedVariables false

theorem dig_bounds {c : Nat} (h : isDig c = true) : 48 ≤ c ∧ c ≤ 57 := by unfold isDig at h; simpa using h

theorem num_no (s : ByteArray) (g k0 : Nat) (w : World) (hd : isDig (gb s k0) = false) (hA : At w g s k0) :
    Calls Tryz.prog 54 #[.pointer (some ⟨g, 0, none⟩)] w fun e w' => e = .returned (.tuple #[.int .i64 0, .bool false]) ∧ At w' g s k0 ∧ w.grownBy w' (some g) := by
  have c0 : w.cell? ⟨g, 0, none⟩ = some (.string s) := hA.cell 0 rfl
  have c1 : w.cell? ⟨g, 1, none⟩ = some (.int .i64 k0) := hA.cell 1 rfl
  go_enter Tryz.func54, Tryz.ntmps54
  go_wp2_with (first
    | (go_at_call 32; refine (now_any s g k0 _ (by exact c0) (by exact c1)).mono ?_; rintro e w' ⟨rfl, nq, rfl⟩)
    | (go_at_call 77; refine (digit_any _ _).mono ?_; rintro e w' ⟨rfl, rfl⟩))
  go_ret2
  exact ⟨rfl, hA, grown_drewN (World.grownBy.refl _ _) _⟩

set_option maxHeartbeats 800000 in
theorem num_yes (s : ByteArray) (g k0 : Nat) (w : World) (hm : s.size ≤ 1048576) (hd0 : isDig (gb s k0) = true) (hA : At w g s k0) :
    Calls Tryz.prog 54 #[.pointer (some ⟨g, 0, none⟩)] w fun e w' =>
      e = .returned (.tuple #[.int .i64 (numEnd s (k0 + 1) (gb s k0 - 48)).2, .bool true]) ∧ At w' g s (numEnd s (k0 + 1) (gb s k0 - 48)).1 ∧ w.grownBy w' (some g) := by
  have c0 : w.cell? ⟨g, 0, none⟩ = some (.string s) := hA.cell 0 rfl
  have c1 : w.cell? ⟨g, 1, none⟩ = some (.int .i64 k0) := hA.cell 1 rfl
  have fz : w.frozen? ⟨g, 1, none⟩ = false := hA.free 1
  obtain ⟨hb1, hb2⟩ := dig_bounds hd0
  have hlt0 := lt_of_dig hd0
  go_enter Tryz.func54, Tryz.ntmps54
  go_wp2_with (first
    | (go_at_call 32; refine (now_any s g k0 _ (by exact c0) (by exact c1)).mono ?_; rintro e w' ⟨rfl, nq, rfl⟩)
    | (go_at_call 77; refine (digit_any _ _).mono ?_; rintro e w' ⟨rfl, rfl⟩))
  clear c0 c1
  go_loopg [4] (s.size - (k0 + 1)) (fun m v wr => ∃ k n : Nat, m = s.size - k ∧ k ≤ s.size ∧ n ≤ 65535 ∧ v = .int .i64 n ∧ At wr g s k ∧ w.grownBy wr (some g) ∧ numEnd s k n = numEnd s (k0 + 1) (gb s k0 - 48))
  case atStart =>
    refine ⟨k0 + 1, gb s k0 - 48, rfl, by omega, by omega, ?_, At.set (hA.drewN _) (k0 + 1), grown_set (grown_drewN (World.grownBy.refl _ _) _) _ _, rfl⟩
    congr 1; omega
  case round =>
    obtain ⟨k, n, hmm, hk2, hn, rfl, hB, hg, hend⟩ := hrel
    have c0 : wr.cell? ⟨g, 0, none⟩ = some (.string s) := hB.cell 0 rfl
    have c1 : wr.cell? ⟨g, 1, none⟩ = some (.int .i64 k) := hB.cell 1 rfl
    have fz : wr.frozen? ⟨g, 1, none⟩ = false := hB.free 1
    have HE : Hid (numEnd s k n = numEnd s (k0 + 1) (gb s k0 - 48)) := hend
    have HM : Hid (gk = s.size - k) := hmm
    clear hend hmm hA hd0 hb1 hb2 hlt0
    by_cases h1 : 0 < n
    · cases h2 : isDig (gb s k) with
      | true =>
        have H4 : Hid (isDig (gb s k) = true) := h2
        obtain ⟨hb1, hb2⟩ := dig_bounds h2
        have hlt := lt_of_dig h2
        by_cases h3 : n * 10 + (gb s k - 48) ≤ 65535
        · have HG : Hid (numGo s k n = true) := by unfold Hid numGo; simp [h1, h2, h3]
          clear h2
          have h3' : (n : Int) * 10 + ((gb s k : Int) - 48) ≤ 65535 := by omega
          go_wp2_with (first
            | (go_at_call 32; refine (now_any s g k _ (by exact c0) (by exact c1)).mono ?_; rintro e w' ⟨rfl, nq, rfl⟩)
            | (go_at_call 77; refine (digit_any _ _).mono ?_; rintro e w' ⟨he, rfl⟩; rw [H4.out] at he; subst he))
          go_roundg (s.size - (k + 1))
          case measure => rw [HM.out]; omega
          case rel => exact ⟨k + 1, n * 10 + (gb s k - 48), rfl, by omega, by omega, by congr 1; omega, At.set (hB.drewN _) (k + 1), by first | exact grown_set (grown_drewN hg _) _ _ | exact grown_set (grown_drewN (grown_drewN hg _) _) _ _ , (numEnd_go HG.out).trans HE.out⟩
        · have HG : Hid (numGo s k n = false) := by unfold Hid numGo; simp [h3]
          clear h2
          have h3' : ¬ (n : Int) * 10 + ((gb s k : Int) - 48) ≤ 65535 := by omega
          have HS : Hid (numEnd s (k0 + 1) (gb s k0 - 48) = (k, n)) := by rw [Hid, ← HE.out]; exact numEnd_stop HG.out
          go_wp2_with (first
            | (go_at_call 32; refine (now_any s g k _ (by exact c0) (by exact c1)).mono ?_; rintro e w' ⟨rfl, nq, rfl⟩)
            | (go_at_call 77; refine (digit_any _ _).mono ?_; rintro e w' ⟨he, rfl⟩; rw [H4.out] at he; subst he))
          go_ret2
          exact ⟨by rw [HS.out]; rfl, by rw [HS.out]; exact hB, by first | exact hg | exact grown_drewN hg _ | exact grown_drewN (grown_drewN hg _) _⟩
      | false =>
        have H4 : Hid (isDig (gb s k) = false) := h2
        have HG : Hid (numGo s k n = false) := by unfold Hid numGo; simp [h2]
        clear h2
        have HS : Hid (numEnd s (k0 + 1) (gb s k0 - 48) = (k, n)) := by rw [Hid, ← HE.out]; exact numEnd_stop HG.out
        go_wp2_with (first
          | (go_at_call 32; refine (now_any s g k _ (by exact c0) (by exact c1)).mono ?_; rintro e w' ⟨rfl, nq, rfl⟩)
          | (go_at_call 77; refine (digit_any _ _).mono ?_; rintro e w' ⟨he, rfl⟩; rw [H4.out] at he; subst he))
        go_ret2
        exact ⟨by rw [HS.out]; rfl, by rw [HS.out]; exact hB, by first | exact hg | exact grown_drewN hg _ | exact grown_drewN (grown_drewN hg _) _⟩
    · have HG : Hid (numGo s k n = false) := by unfold Hid numGo; simp [h1]
      have H4 : Hid (isDig (gb s k) = isDig (gb s k)) := rfl
      obtain rfl : n = 0 := by omega
      have HS : Hid (numEnd s (k0 + 1) (gb s k0 - 48) = (k, 0)) := by rw [Hid, ← HE.out]; exact numEnd_stop HG.out
      go_wp2_with (first
        | (go_at_call 32; refine (now_any s g k _ (by exact c0) (by exact c1)).mono ?_; rintro e w' ⟨rfl, nq, rfl⟩)
        | (go_at_call 77; refine (digit_any _ _).mono ?_; rintro e w' ⟨he, rfl⟩; rw [H4.out] at he; subst he))
      go_ret2
      exact ⟨by rw [HS.out]; rfl, by rw [HS.out]; exact hB, by first | exact hg | exact grown_drewN hg _ | exact grown_drewN (grown_drewN hg _) _⟩
end Go.Proofs.YtjohlabdjdhpfaaGreatDoor.Lk
