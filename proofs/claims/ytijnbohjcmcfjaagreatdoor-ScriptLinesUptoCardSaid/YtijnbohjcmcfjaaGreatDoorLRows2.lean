/-
  Small laws on rows that a call has made.
-/
import Derived.Test.YtijnbohjcmcfjaaGreatDoorLKit
import Derived.Maps.AppendAt
import Derived.Laws.AppendOwn
import Derived.Laws.OwnMore
import Derived.Laws.BytesArg
import Derived.Laws.MakeOwn
import Derived.Test.YtijnbohjcmcfjaaGreatDoorProg
namespace Go.Proofs.YtijnbohjcmcfjaaGreatDoor.Rw
open Go.RowKit Go.Proofs.YtijnbohjcmcfjaaGreatDoor.Kt
/-- the value of a row that is not empty -/
theorem row_shape {w : World} {base : Nat} {e : TypeId} {size : Nat} {v : Value} {n : Nat} {xs : List Value} (h : w.ownsRow base e size v n xs) (hn : n ≠ 0) :
    ∃ g cap, v = .slice (some ⟨g, 0, none⟩) n cap ∧ base ≤ g ∧ g < w.heap.size ∧ n ≤ cap ∧ cap ≤ maxLen ∧ ∀ j u, xs[j]? = some u → w.cell? ⟨g, j, none⟩ = some u := by
  rcases h.2 with ⟨_, h0⟩ | ⟨g, cap, cur, rfl, hg, hh, hnc, hcm, hcs, htake⟩
  · exact absurd h0 hn
  · refine ⟨g, cap, rfl, hg, lt_of_block hh, hnc, hcm, fun j u hu => ?_⟩
    have := h.cells (g := g) rfl j u hu
    rwa [show (⟨g, 0, none⟩ : Addr).add j = ⟨g, j, none⟩ from by unfold Addr.add; split <;> simp_all] at this
theorem new_cells (w : World) (xs : List Value) (t : TypeId) : ∀ j u, xs[j]? = some u → (w.alloc (.cells xs.toArray t)).cell? ((⟨w.heap.size, 0, none⟩ : Addr).add j) = some u := by
  intro j u hj
  rw [show (⟨w.heap.size, 0, none⟩ : Addr).add j = ⟨w.heap.size, j, none⟩ from by unfold Addr.add; split <;> simp_all]
  exact (Blk.new w xs.toArray t).cell j (by simpa using hj)
/-- a row that grows leaves what lay below its base -/
theorem below_row {w w' a : World} {base : Nat} {e : TypeId} {size : Nat} {v : Value} {n : Nat} {xs : List Value} (h : Below base a w) (hb : base ≤ w.heap.size) (hown : w.ownsRow base e size v n xs) (hg : w.grownBy w' v.ownBlock) : Below base a w' :=
  h.grown hg hb (fun j hj => (hown.lt j hj).1)
/-- a row of letters made a string -/
theorem conv_row {P : Program} {w : World} {base : Nat} {te : TypeId} {v : Value} {n : Nat} {xs : List Int} (h : w.ownsRow base te 1 v n (xs.map (Value.int .u8))) (src e : TypeId) (hs : P.underlying src = some (.slice e)) (he : P.underlying e = some (.int .u8)) :
    ∀ dst, P.underlying dst = some .string → (convert src dst v).run P w = .ok (.string (strOfNums xs)) w := by
  intro dst hd
  have hlen : xs.length = n := by have := h.1; simpa using this
  rcases h.2 with ⟨rfl, h0⟩ | ⟨g, cap, cur, rfl, hg, hh, hnc, hcm, hcs, htake⟩
  · rw [run_convert_bytes_nil w src e hs he 0 0 dst hd]
    have : xs = [] := by cases xs with | nil => rfl | cons => simp at hlen; omega
    rw [this]; rfl
  · refine run_convert_bytes_arg w src e hs he g 0 n cap xs hlen (fun i hi => ?_) dst hd
    have hu : (xs.map (Value.int .u8))[i]? = some (.int .u8 (xs.getD i 0)) := by
      have hx : i < xs.length := by omega
      simp [List.getD, List.getElem?_eq_getElem hx]
    have := h.cells (g := g) rfl i _ hu
    rwa [show (⟨g, 0, none⟩ : Addr).add i = ⟨g, 0 + i, none⟩ from by unfold Addr.add; split <;> simp_all] at this
end Go.Proofs.YtijnbohjcmcfjaaGreatDoor.Rw
/-
  Letters laid behind a row of letters: the operation, for the walk.
-/
namespace Go.Proofs.YtijnbohjcmcfjaaGreatDoor.Ap
open Go.RowKit Go.Proofs.YtijnbohjcmcfjaaGreatDoor.Kt Go.Proofs.YtijnbohjcmcfjaaGreatDoor.Rw
set_option linter.unusedSimpArgs false
set_option linter.unusedVariables false
set_option maxRecDepth 100000

theorem infoB : (Tryz.prog.info? 5).map (fun i => (i.zero, i.size, i.bytes)) = some (some (.int .u8 0), 1, 1) := by kernel_rfl
theorem one_ints (k : IntKind) (ys : List Int) : ∀ u ∈ ys.map (Value.int k), u.oneCell' = true := by
  intro u hu
  obtain ⟨x, _, rfl⟩ := List.mem_map.1 hu
  rfl
/-- new letters, which lie in the newest block, behind a row of one's own -/
theorem wpList_app {w0 a0 : World} {ops : Array Oper} {rest : List Oper} {o : Oper} {a : Act} {Q : Exit → Act → World → Prop} (hgd : o.guard = none) (s x : Operand)
    (ho : o.op = .call { callee := .builtin .append, args := #[s, x], argTypes := #[72, 72] })
    (base : Nat) (v : Value) (n : Nat) (xs : List Int) (hs : a.eval s = v) (hown : w0.ownsRow base 5 1 v n (xs.map (Value.int .u8))) (hB : Below base a0 w0) (hb : base ≤ w0.heap.size)
    (ys : List Int) (m : Nat) (hm : ys.length = m) (cs : Array Value) (hcs : cs = (ys.map (Value.int .u8)).toArray) (hx : a.eval x = .slice (some ⟨w0.heap.size, 0, none⟩) m m) (hsz : n + m ≤ 140737488355328)
    (h : ∀ v' w', w'.ownsRow base 5 1 v' (n + m) ((xs ++ ys).map (Value.int .u8)) → Below base a0 w' → w0.grownBy w' v.ownBlock → (v'.ownBlock = v.ownBlock ∨ ∃ g, v'.ownBlock = some g ∧ w0.heap.size ≤ g) → wpList Tryz.prog ops Q rest (a.put o.dst v') w') :
    wpList Tryz.prog ops Q (o :: rest) a (w0.alloc (.cells cs 5)) := by
  subst hcs
  obtain ⟨i1, hi1, hz10, hz11, hz12⟩ := info_parts infoB
  refine wpList_append_own_at _ hgd s x 72 ho base 5 i1 (.int .u8 0) 1 1 Tryz.underlying72 hi1 hz10 hz11 hz12 rfl (by decide) v n (xs.map (Value.int .u8)) hs (hown.alloc _) ⟨w0.heap.size, 0, none⟩ m m (ys.map (Value.int .u8)) hx (by simp [hm]) (new_cells _ _ _) (one_ints .u8 ys) (by unfold maxLen; omega) (by omega) (by simp; omega) ?_
  intro v' w' h1 h2 _ h4
  refine h v' w' (by rw [List.map_append]; exact h1) (below_row (hB.alloc hb _) (by simp; omega) (hown.alloc _) h2) ?_ ?_
  · exact ((World.grownBy_alloc _ _ _).trans h2)
  · rcases h4 with h4 | h4
    · exact .inl h4
    · exact .inr ⟨_, h4, by simp⟩
theorem row_nil (w : World) (base : Nat) : w.ownsRow base 5 1 (.slice none 0 0) 0 (([] : List Int).map (Value.int .u8)) := World.ownsRow_nil _ _ _ _
end Go.Proofs.YtijnbohjcmcfjaaGreatDoor.Ap
