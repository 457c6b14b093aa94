/-
  Walks: package script's Print.
-/
import Derived.Test.YtijnbohjcmcfjaaGreatDoorLSp
import Derived.Test.YtijnbohjcmcfjaaGreatDoorLQuo
import Derived.Outline
namespace Go.Proofs.YtijnbohjcmcfjaaGreatDoor.Sc
open Go.RowKit Go.Proofs.YtijnbohjcmcfjaaGreatDoor.Kt Go.Proofs.YtijnbohjcmcfjaaGreatDoor.Lk Go.Proofs.YtijnbohjcmcfjaaGreatDoor.Sp Go.Proofs.YtijnbohjcmcfjaaGreatDoor.Rw Go.Proofs.YtijnbohjcmcfjaaGreatDoor.Rg
open Go.Proofs.YtijnbohjcmcfjaaGreatDoor.Nu (dgt Sizes isInt pwOf)
set_option linter.unusedSimpArgs false
set_option linter.unusedVariables false
set_option maxRecDepth 100000

/-- a row of words that came in -/
def WA (w : World) (v : Value) (l : List Nat) : Prop :=
  (v = .slice none 0 0 ∧ l = []) ∨ (∃ ad cap, v = .slice (some ad) 0 cap ∧ l = []) ∨ ∃ b off cap, v = .slice (some ⟨b, off, none⟩) l.length cap ∧ RW w b off l
theorem WA.below {w w' : World} {v : Value} {l : List Nat} (h : WA w v l) (hb : Below w.heap.size w w') : WA w' v l := by
  rcases h with h | h | ⟨b, off, cap, h1, h2⟩
  · exact .inl h
  · exact .inr (.inl h)
  · exact .inr (.inr ⟨b, off, cap, h1, h2.below hb⟩)
theorem WA.len {w : World} {v : Value} {l : List Nat} (h : WA w v l) : ∃ A cap, v = .slice A l.length cap := by
  rcases h with ⟨rfl, rfl⟩ | ⟨ad, cap, rfl, rfl⟩ | ⟨b, off, cap, rfl, h2⟩
  · exact ⟨_, _, rfl⟩
  · exact ⟨_, _, rfl⟩
  · exact ⟨_, _, rfl⟩
theorem sp_b {b b1 b2 b3 b4 b5 b6 : Bool} (h : b = ((b1 && b2) || (b3 && b4) || (b5 && b6))) : Ending.returned (.bool ((b1 && b2) || (b3 && b4) || (b5 && b6))) = .returned (.bool b) := by rw [h]
set_option maxHeartbeats 1600000 in
theorem spare_any (c : CallP) (A : Option Addr) (cap : Nat) (w : World) (hl : c.words.length ≤ 1048577) :
    Calls Tryz.prog 16 #[.agg (callV c (.slice A c.words.length cap))] w fun e w' => e = .returned (.bool (spareF c)) ∧ Below w.heap.size w w' := by
  obtain ⟨kd, nm, ws, ct, tx⟩ := c
  dsimp only at hl
  have HS : Hid (spareF ⟨kd, nm, ws, ct, tx⟩ = ((decide (kd ≠ 0) && decide (ws ≠ [])) || (decide (kd ≠ 1) && decide (ct ≠ 0)) || (decide (kd ≠ 3) && decide (tx.size ≠ 0)))) := rfl
  generalize spareF ⟨kd, nm, ws, ct, tx⟩ = B at HS ⊢
  unfold callV
  dsimp only
  by_cases hw : ws = []
  all_goals by_cases ht : tx.size = 0
  · subst hw
    obtain rfl := empty_of_size ht
    clear ht
    go_enter Tryz.func16, Tryz.ntmps16
    go_wp2
    all_goals go_ret
    all_goals exact ⟨ret_bool (by rw [HS.out]; simp [*]; try (first | omega | rfl)), (Below.refl _ _).alloc (Nat.le_refl _) _⟩
  · subst hw
    have ie := isEmpty_false ht
    have HT : Hid (¬ tx.size = 0) := ht
    clear ht
    go_enter Tryz.func16, Tryz.ntmps16
    go_wp2
    all_goals go_ret
    all_goals have ht := HT.out
    all_goals exact ⟨ret_bool (by rw [HS.out]; simp [*]; try (first | omega | rfl)), (Below.refl _ _).alloc (Nat.le_refl _) _⟩
  · have HW : Hid (ws ≠ []) := hw
    have hp : 0 < ws.length := List.length_pos_iff.2 hw
    obtain rfl := empty_of_size ht
    clear ht hw
    go_enter Tryz.func16, Tryz.ntmps16
    go_wp2
    all_goals go_ret
    all_goals have hw := HW.out
    all_goals exact ⟨ret_bool (by rw [HS.out]; simp [*]; try (first | omega | rfl)), (Below.refl _ _).alloc (Nat.le_refl _) _⟩
  · have ie := isEmpty_false ht
    have HT : Hid (¬ tx.size = 0) := ht
    have HW : Hid (ws ≠ []) := hw
    have hp : 0 < ws.length := List.length_pos_iff.2 hw
    clear ht hw
    go_enter Tryz.func16, Tryz.ntmps16
    go_wp2
    all_goals go_ret
    all_goals have ht := HT.out
    all_goals have hw := HW.out
    all_goals exact ⟨ret_bool (by rw [HS.out]; simp [*]; try (first | omega | rfl)), (Below.refl _ _).alloc (Nat.le_refl _) _⟩
end Go.Proofs.YtijnbohjcmcfjaaGreatDoor.Sc
