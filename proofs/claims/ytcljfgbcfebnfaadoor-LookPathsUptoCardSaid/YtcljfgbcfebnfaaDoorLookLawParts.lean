/-
  Walks: the statement's own small functions: num, sameSteps, sameWords at two empty lists.
-/
import Derived.Test.YtcljfgbcfebnfaaDoorLookText
import Derived.Deep.DeepCutAuto
import Derived.Deep.CutBlock
namespace Go.Proofs.YtcljfgbcfebnfaaDoor.Lk
open Go.RowKit Go.Proofs.YtcljfgbcfebnfaaDoor.Kt
set_option linter.unusedSimpArgs false
set_option linter.unusedVariables false

theorem num_any (n : Int) (w : World) : Calls Tryd.prog 9 #[.int .i64 n] w fun e w' => e = .returned (.int .i64 n) ∧ w = w' := by
  go_enter Tryd.func9, Tryd.ntmps9
  go_wp2
  go_ret
  exact ⟨rfl, rfl⟩
theorem sameWords_none (A B : Option Addr) (c d : Nat) (w : World) : Calls Tryd.prog 20 #[.slice A 0 c, .slice B 0 d] w fun e w' => e = .returned (.bool true) ∧ ∃ n, w' = w.drewN n := by
  go_enter Tryd.func20, Tryd.ntmps20
  go_wp2
  refine wp_loop_rounds 1 ?_
  rw [rounds_succ]
  go_wp2
  go_ret
  exact ⟨rfl, 0, rfl⟩
theorem sameSteps_none (A B : Option Addr) (c d : Nat) (w : World) : Calls Tryd.prog 10 #[.slice A 0 c, .slice B 0 d] w fun e w' => e = .returned (.bool true) ∧ ∃ n, w' = w.drewN n := by
  go_enter Tryd.func10, Tryd.ntmps10
  go_wp2
  refine wp_loop_rounds 1 ?_
  rw [rounds_succ]
  go_wp2
  go_ret
  exact ⟨rfl, 0, rfl⟩
theorem sameSteps_some (b1 o1 c1 b2 o2 c2 : Nat) (l : List Step) (w : World) (hl : l.length ≤ 2097152) (h1 : ReadsAt w b1 o1 l) (h2 : ReadsAt w b2 o2 l) :
    Calls Tryd.prog 10 #[.slice (some ⟨b1, o1, none⟩) l.length c1, .slice (some ⟨b2, o2, none⟩) l.length c2] w fun e w' => e = .returned (.bool true) ∧ ∃ n, w' = w.drewN n := by
  go_enter Tryd.func10, Tryd.ntmps10
  go_wp2
  go_loopw [5] (fun i wr => ∃ k n : Nat, i = .int .i64 k ∧ k ≤ l.length ∧ wr = w.drewN n) (fun i _ => l.length - (intOf i).toNat)
  case atStart => exact ⟨0, 0, rfl, Nat.zero_le _, rfl⟩
  case round =>
    obtain ⟨k, n, rfl, hk, rfl⟩ := hrel
    by_cases hlt : k < l.length
    · obtain ⟨x0, x1⟩ := h1 k hlt
      obtain ⟨y0, y1⟩ := h2 k hlt
      clear h1 h2
      generalize l[k] = x at x0 x1 y0 y1
      obtain ⟨nm, en⟩ := x
      dsimp only at x0 x1 y0 y1
      go_wp2
      go_big_quiet (fail)
      go_wp2
      go_roundw
      case rel => exact ⟨k + 1, _, by go_num, by omega, rfl⟩
      case measure => simp [intOf]; omega
    · obtain rfl : k = l.length := by omega
      clear h1 h2
      go_wp2
      go_ret
      exact ⟨rfl, _, rfl⟩
theorem sameSteps_any (v1 v2 : Value) (l : List Step) (w : World) (hl : l.length ≤ 2097152) (h1 : Reads w v1 l) (h2 : Reads w v2 l) :
    Calls Tryd.prog 10 #[v1, v2] w fun e w' => e = .returned (.bool true) ∧ ∃ n, w' = w.drewN n := by
  rcases h1 with ⟨rfl, rfl | ⟨a, ca, rfl⟩⟩ | ⟨b1, o1, c1, rfl, r1⟩
  · rcases h2 with ⟨_, rfl | ⟨b, cb, rfl⟩⟩ | ⟨b2, o2, c2, rfl, r2⟩
    · exact sameSteps_none _ _ _ _ w
    · exact sameSteps_none _ _ _ _ w
    · exact sameSteps_none _ _ _ _ w
  · rcases h2 with ⟨_, rfl | ⟨b, cb, rfl⟩⟩ | ⟨b2, o2, c2, rfl, r2⟩
    · exact sameSteps_none _ _ _ _ w
    · exact sameSteps_none _ _ _ _ w
    · exact sameSteps_none _ _ _ _ w
  · rcases h2 with ⟨rfl, rfl | ⟨b, cb, rfl⟩⟩ | ⟨b2, o2, c2, rfl, r2⟩
    · exact sameSteps_none _ _ _ _ w
    · exact sameSteps_none _ _ _ _ w
    · exact sameSteps_some _ _ _ _ _ _ l w hl r1 r2
theorem Reads.below {w w' : World} {v : Value} {l : List Step} (h : Reads w v l) (hb : Below w.heap.size w w') : Reads w' v l :=
  h.imp id fun ⟨b, off, cap, e, r⟩ => ⟨b, off, cap, e, r.below hb⟩
/-- steps that a call owns, read -/
theorem Reads.of_row {w : World} {base : Nat} {v : Value} {l : List Step} (h : w.ownsRow base 46 2 v l.length (cellsOf l)) : Reads w v l := by
  rcases h.2 with ⟨rfl, hn⟩ | ⟨g, cap, cur, rfl, hg, hh, hnc, hcm, hcs, htake⟩
  · exact .inl ⟨List.eq_nil_of_length_eq_zero hn, .inl rfl⟩
  · refine .inr ⟨g, 0, cap, rfl, fun i hi => ?_⟩
    have hc : ∀ j u, (cellsOf l)[j]? = some u → w.cell? ⟨g, j, none⟩ = some u := fun j u hu => by
      have := h.cells (g := g) rfl j u hu
      rwa [show (⟨g, 0, none⟩ : Addr).add j = ⟨g, j, none⟩ from by unfold Addr.add; split <;> simp_all] at this
    exact ⟨by rw [Nat.zero_add, Nat.mul_comm]; exact hc _ _ (cellsOf_name hi), by rw [Nat.zero_add, Nat.mul_comm]; exact hc _ _ (cellsOf_entry hi)⟩
end Go.Proofs.YtcljfgbcfebnfaaDoor.Lk
