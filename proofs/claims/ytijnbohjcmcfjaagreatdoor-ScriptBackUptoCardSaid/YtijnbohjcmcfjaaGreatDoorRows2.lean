/-
  Small laws on rows that a call has made.
-/
import Derived.Test.YtijnbohjcmcfjaaGreatDoorKit
import Derived.Maps.AppendAt
import Derived.Laws.AppendOwn
import Derived.Laws.OwnMore
import Derived.Laws.BytesArg
import Derived.Laws.MakeOwn
namespace Go.Proofs.YtijnbohjcmcfjaaGreatDoor.Rw
open Go.RowKit Go.Proofs.YtijnbohjcmcfjaaGreatDoor.Kt
/-- the value of a row that is not empty -/
theorem row_shape {w : World} {base : Nat} {e : TypeId} {size : Nat} {v : Value} {n : Nat} {xs : List Value} (h : w.ownsRow base e size v n xs) (hn : n ≠ 0) :
    ∃ g cap, v = .slice (some ⟨g, 0, none⟩) n cap ∧ base ≤ g ∧ g < w.heap.size ∧ n ≤ cap ∧ cap ≤ maxLen ∧ ∀ j u, xs[j]? = some u → w.cell? ⟨g, j, none⟩ = some u := by
  rcases h.2 with ⟨_, h0⟩ | ⟨g, cap, cur, rfl, hg, hh, hnc, hcm, hcs, htake⟩
  · exact absurd h0 hn
  · refine ⟨g, cap, rfl, hg, lt_of_block hh, hnc, hcm, fun j u hu => ?_⟩
    have := h.cells (g := g) rfl j u hu
    rwa [show (⟨g, 0, none⟩ : Addr).add j = ⟨g, j, none⟩ from by unfold Addr.add; split <;> simp_all] at this
theorem new_cells (w : World) (xs : List Value) (t : TypeId) : ∀ j u, xs[j]? = some u → (w.alloc (.cells xs.toArray t)).cell? ((⟨w.heap.size, 0, none⟩ : Addr).add j) = some u := by
  intro j u hj
  rw [show (⟨w.heap.size, 0, none⟩ : Addr).add j = ⟨w.heap.size, j, none⟩ from by unfold Addr.add; split <;> simp_all]
  exact (Blk.new w xs.toArray t).cell j (by simpa using hj)
/-- a row that grows leaves what lay below its base -/
theorem below_row {w w' a : World} {base : Nat} {e : TypeId} {size : Nat} {v : Value} {n : Nat} {xs : List Value} (h : Below base a w) (hb : base ≤ w.heap.size) (hown : w.ownsRow base e size v n xs) (hg : w.grownBy w' v.ownBlock) : Below base a w' :=
  h.grown hg hb (fun j hj => (hown.lt j hj).1)
/-- a row of letters made a string -/
theorem conv_row {P : Program} {w : World} {base : Nat} {te : TypeId} {v : Value} {n : Nat} {xs : List Int} (h : w.ownsRow base te 1 v n (xs.map (Value.int .u8))) (src e : TypeId) (hs : P.underlying src = some (.slice e)) (he : P.underlying e = some (.int .u8)) :
    ∀ dst, P.underlying dst = some .string → (convert src dst v).run P w = .ok (.string (strOfNums xs)) w := by
  intro dst hd
  have hlen : xs.length = n := by have := h.1; simpa using this
  rcases h.2 with ⟨rfl, h0⟩ | ⟨g, cap, cur, rfl, hg, hh, hnc, hcm, hcs, htake⟩
  · rw [run_convert_bytes_nil w src e hs he 0 0 dst hd]
    have : xs = [] := by cases xs with | nil => rfl | cons => simp at hlen; omega
    rw [this]; rfl
  · refine run_convert_bytes_arg w src e hs he g 0 n cap xs hlen (fun i hi => ?_) dst hd
    have hu : (xs.map (Value.int .u8))[i]? = some (.int .u8 (xs.getD i 0)) := by
      have hx : i < xs.length := by omega
      simp [List.getD, List.getElem?_eq_getElem hx]
    have := h.cells (g := g) rfl i _ hu
    rwa [show (⟨g, 0, none⟩ : Addr).add i = ⟨g, 0 + i, none⟩ from by unfold Addr.add; split <;> simp_all] at this
end Go.Proofs.YtijnbohjcmcfjaaGreatDoor.Rw
