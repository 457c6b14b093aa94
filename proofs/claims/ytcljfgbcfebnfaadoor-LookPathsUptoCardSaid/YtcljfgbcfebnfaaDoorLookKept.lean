/-
  Walks: kept, at a path.
-/
import Derived.Test.YtcljfgbcfebnfaaDoorLookLawParts
namespace Go.Proofs.YtcljfgbcfebnfaaDoor.Lk
open Go.RowKit Go.Proofs.YtcljfgbcfebnfaaDoor.Kt
set_option linter.unusedSimpArgs false
set_option linter.unusedVariables false

set_option maxRecDepth 100000 in
set_option maxHeartbeats 3200000 in
theorem kept_any (g1 c1 g2 c2 g3 c3 g4 c4 : Nat) (A : Option Addr) (cap : Nat) (l : List Step) (w : World) (hl : l.length ≤ 1048576) (hx : Reads w (.slice A l.length cap) l)
    (h1 : 1 ≤ c1) (m1 : c1 ≤ maxLen) (s1 : w.cell? ⟨g1, 1, none⟩ = some (.string ⟨#[115, 112, 97, 114, 101]⟩)) (h2 : 1 ≤ c2) (m2 : c2 ≤ maxLen) (s2 : w.cell? ⟨g2, 0, none⟩ = some (.int .u8 201))
    (h3 : l.length + 1 ≤ c3) (m3 : c3 ≤ maxLen) (r3 : ReadsAt w g3 0 (l ++ [(⟨#[115, 112, 97, 114, 101]⟩, 0)])) (h4 : 1 ≤ c4) (m4 : c4 ≤ maxLen) (s4 : w.cell? ⟨g4, 0, none⟩ = some (.int .u64 77)) :
    Calls Tryd.prog 11 #[.agg #[.int .i64 0, .int .i64 0, .int .i64 0, .int .i64 0, .int .i64 0, .int .i64 0, .int .i64 0, .int .i64 0, .int .i64 0, .int .i64 0, .int .i64 0, .int .i64 0, .slice (some ⟨g1, 0, none⟩) 0 c1, .slice (some ⟨g2, 0, none⟩) 0 c2, .int .i64 0, .slice (some ⟨g3, 0, none⟩) l.length c3, .slice (some ⟨g4, 0, none⟩) 0 c4],
      .agg #[.int .i64 0, .int .i64 0, .int .i64 0, .int .i64 0, .int .i64 0, .int .i64 0, .int .i64 0, .int .i64 0, .int .i64 0, .int .i64 0, .int .i64 0, .int .i64 0, .slice none 0 0, .slice none 0 0, .int .i64 0, .slice A l.length cap, .slice none 0 0]] w fun e w' => e = .returned (.bool true) ∧ Below w.heap.size w w' := by
  have hpre : Reads w (.slice (some ⟨g3, 0, none⟩) l.length c3) l := .inr ⟨g3, 0, c3, rfl, fun i hi => by
    have := r3 i (by simp; omega)
    rwa [List.getElem_append_left hi] at this⟩
  have p0 : w.cell? ⟨g3, l.length * 2, none⟩ = some (.string ⟨#[115, 112, 97, 114, 101]⟩) := by
    have := (r3 l.length (by simp)).1
    rw [List.getElem_append_right (Nat.le_refl _), Nat.zero_add] at this
    simpa using this
  unfold maxLen at m1 m2 m3 m4
  have b1 := World.block_lt_of_cell? w _ s1
  have b2 := World.block_lt_of_cell? w _ s2
  have b3 := World.block_lt_of_cell? w _ p0
  have b4 := World.block_lt_of_cell? w _ s4
  dsimp only at b1 b2 b3 b4
  clear r3
  have HX : ∀ o1 o2 n, Hid (Reads (((w.alloc o1).alloc o2).drewN n) (.slice A l.length cap) l ∧ Reads (((w.alloc o1).alloc o2).drewN n) (.slice (some ⟨g3, 0, none⟩) l.length c3) l) := fun o1 o2 n => ⟨hx.below (below_drewN (((Below.refl _ _).alloc (Nat.le_refl _) _).alloc (by simp) _) _), hpre.below (below_drewN (((Below.refl _ _).alloc (Nat.le_refl _) _).alloc (by simp) _) _)⟩
  clear hx hpre
  go_enter Tryd.func11, Tryd.ntmps11
  go_upto_region 5 with (fail)
  go_wp2
  refine wp_loop_rounds 1 ?_
  rw [rounds_succ]
  go_upto_region 12 with (fail)
  go_wp2_with (first
    | (go_at_call 10; refine (sameSteps_any _ _ l _ (by omega) (HX _ _ 0).out.2 (HX _ _ 0).out.1).mono ?_; rintro e w' ⟨rfl, nq, rfl⟩)
    | (go_at_call 20; refine (sameWords_none _ _ _ _ _).mono ?_; rintro e w' ⟨rfl, nq, rfl⟩))
  go_ret
  exact ⟨rfl, below_drewN (((Below.refl _ _).alloc (Nat.le_refl _) _).alloc (by simp) _) _⟩
end Go.Proofs.YtcljfgbcfebnfaaDoor.Lk
