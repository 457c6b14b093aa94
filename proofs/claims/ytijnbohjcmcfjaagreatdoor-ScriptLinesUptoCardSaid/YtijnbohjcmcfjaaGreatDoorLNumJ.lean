/-
  Walks: package number's Join of words of the widest type.
-/
import Derived.Test.YtijnbohjcmcfjaaGreatDoorLNumL
namespace Go.Proofs.YtijnbohjcmcfjaaGreatDoor.Sc
open Go.RowKit Go.Proofs.YtijnbohjcmcfjaaGreatDoor.Kt Go.Proofs.YtijnbohjcmcfjaaGreatDoor.Lk Go.Proofs.YtijnbohjcmcfjaaGreatDoor.Sp Go.Proofs.YtijnbohjcmcfjaaGreatDoor.Rw
open Go.Proofs.YtijnbohjcmcfjaaGreatDoor.Nu (dgt Sizes isInt pwOf)
set_option linter.unusedSimpArgs false
set_option linter.unusedVariables false
set_option maxRecDepth 100000

theorem infoT : (Tryz.prog.info? 9).map (fun i => (i.zero, i.size, i.bytes)) = some (some (.string ⟨#[]⟩), 1, 16) := by kernel_rfl
/-- a row of words -/
def RW (w : World) (b off : Nat) (l : List Nat) : Prop := ∀ i (h : i < l.length), w.cell? ⟨b, off + i, none⟩ = some (.int .u64 (l[i] : Int))
theorem RW.below {w w' : World} {b off : Nat} {l : List Nat} (h : RW w b off l) (hb : Below w.heap.size w w') : RW w' b off l := fun i hi => cell_later hb (h i hi)
theorem joinL : ∀ l : List Nat, Lib.join ((l.map dgt).map (·.data.toList)) [44] = L (joinF l)
  | [] => rfl
  | [n] => by rw [List.map_cons, List.map_nil, List.map_cons, List.map_nil, Lib.join_one]; rfl
  | n :: m :: r => by
    have ih := joinL (m :: r)
    show [44].intercalate (((n :: m :: r).map dgt).map (·.data.toList)) = L (dgt n ++ ⟨#[44]⟩ ++ joinF (m :: r))
    rw [L_app, L_app, ← ih]
    simp [Lib.join, List.intercalate, List.intersperse]
    rfl
theorem join_eq (l : List Nat) : (⟨(Lib.join ((l.map dgt).map (·.data.toList)) (⟨#[44]⟩ : ByteArray).data.toList).toArray⟩ : ByteArray) = joinF l := L_inj (joinL l)
def JoinPost (l : List Nat) (w : World) (e : Ending) (w' : World) : Prop := e = .returned (.tuple #[.string (joinF l), .int .i64 0]) ∧ Below w.heap.size w w'
set_option maxHeartbeats 1600000 in
theorem join_some (b off cap : Nat) (l : List Nat) (w : World) (hl : l.length ≤ 1048577) (hw : ∀ n ∈ l, n < 2 ^ 64) (hr : RW w b off l) (h : Sizes w) (hne : l ≠ []) :
    Calls Tryz.prog 21 #[.int .i64 8, .slice (some ⟨b, off, none⟩) l.length cap] w (JoinPost l w) := by
  have HNE : Hid (l ≠ []) := hne
  clear hne
  go_enter Tryz.func21, Tryz.ntmps21
  go_wp2_with (go_at_call 44; fail)
  refine (Nu.isPrim_any 8 int8 _ h).mono ?_
  rintro e w1 ⟨rfl, b1⟩
  have h1 := h.below b1
  go_wp2
  go_loopg [6, 16] l.length (fun mm v i wr => ∃ k : Nat, mm = l.length - k ∧ k ≤ l.length ∧ i = .int .i64 k ∧ wr.ownsRow w.heap.size 9 1 v k ((l.take k).map fun n => Value.string (dgt n)) ∧ Below w.heap.size w wr)
  case atStart => exact ⟨0, rfl, Nat.zero_le _, rfl, World.ownsRow_nil _ _ _ _, b1⟩
  case round =>
    obtain ⟨k, hmm, hk, rfl, hown, hB⟩ := hrel
    have HM : Hid (gk = l.length - k) := hmm
    have HOWN : Hid (wr.ownsRow w.heap.size 9 1 u6 k ((l.take k).map fun n => Value.string (dgt n))) := hown
    have HB : Hid (Below w.heap.size w wr) := hB
    have hsz : Sizes wr := h.below hB
    clear hmm hown
    by_cases hlt : k < l.length
    · have c0 := (hr.below hB) k hlt
      have hn := hw l[k] (List.getElem_mem hlt)
      have htk : (l.take (k + 1)).map (fun n => Value.string (dgt n)) = (l.take k).map (fun n => Value.string (dgt n)) ++ [Value.string (dgt l[k])] := by
        rw [List.take_succ_eq_append_getElem hlt, List.map_append]; rfl
      have HT : Hid ((l.take (k + 1)).map (fun n => Value.string (dgt n)) = (l.take k).map (fun n => Value.string (dgt n)) ++ [Value.string (dgt l[k])]) := htk
      clear hB htk
      generalize l[k] = x at c0 hn HT
      go_wp2_with (go_at_call 45; fail)
      refine (print_any x (by omega) _ hsz).mono ?_
      rintro e w2 ⟨rfl, b2⟩
      have HB2 : Hid (Below w.heap.size w w2) := HB.out.trans (b2.mono HB.out.size)
      have HO2 : Hid (w2.ownsRow w.heap.size 9 1 u6 k ((l.take k).map fun n => Value.string (dgt n))) := row_kept HOWN.out b2
      obtain ⟨i1, hi1, hz10, hz11, hz12⟩ := info_parts infoT
      have hbz := HB2.out.size
      clear b2 c0 HB HOWN
      go_wp2_with (at_builtin; refine wpList_append_own_at _ rfl _ _ 59 rfl w.heap.size 9 i1 (.string ⟨#[]⟩) 1 16 Tryz.underlying59 hi1 hz10 hz11 hz12 rfl (by decide) u6 k ((l.take k).map fun n => Value.string (dgt n)) rfl (HO2.out.alloc _) ⟨w2.heap.size, 0, none⟩ 1 1 [.string (dgt x)] rfl rfl (new_cells _ _ _) (by intro u hu; simp at hu; rcases hu with rfl; rfl) ?c3 ?c4 ?c5 ?_)
      case c3 => unfold maxLen; omega
      case c4 => omega
      case c5 => simp; omega
      intro v' w4 own4 grow4 _ _
      have HO4 : Hid (w4.ownsRow w.heap.size 9 1 v' (k + 1) ((l.take (k + 1)).map fun n => Value.string (dgt n))) := by unfold Hid; rw [HT.out, List.map_take]; exact own4
      have HB5 : Hid (Below w.heap.size w w4) := below_row (HB2.out.alloc hbz _) (by simp; omega) (HO2.out.alloc _) grow4
      clear own4 grow4
      go_wp2
      go_roundg (l.length - (k + 1))
      case measure => rw [HM.out]; omega
      case rel => exact ⟨k + 1, rfl, by omega, by go_num, HO4.out, HB5.out⟩
    · obtain rfl : k = l.length := by omega
      have hsm := join_le l hw
      have hjl : (joinF l).size ≤ 140737488355328 := by omega
      have h0 := HNE.out
      by_cases hz : l = []
      · exact absurd hz h0
      · obtain ⟨g, cp, rfl, hg1, hg2, hg3, hg4, hcell⟩ := row_shape HOWN.out (by intro e; exact h0 (List.length_eq_zero_iff.1 e))
        have hjoin : Calls Tryz.prog 46 #[.slice (some ⟨g, 0, none⟩) l.length cp, .string ⟨#[44]⟩] wr fun e w' => e = .returned (.string (joinF l)) ∧ Below wr.heap.size wr w' := by
          have := Tryz.strings_Join g 0 cp (l.map dgt) ⟨#[44]⟩ wr (fun j x hx => by
            rw [Nat.zero_add]
            refine hcell j _ ?_
            rw [List.take_length, List.getElem?_map]
            rw [List.getElem?_map] at hx
            cases hlj : l[j]? with
            | none => rw [hlj] at hx; cases hx
            | some y => rw [hlj] at hx; simp at hx; rw [← hx]; rfl) hg2 (by simp; omega) (by simpa using hg3) (by rw [show (⟨#[44]⟩ : ByteArray).data.toList = [44] from rfl, joinL, L_size]; omega)
          rw [List.length_map, join_eq] at this
          exact this
        clear hcell
        go_wp2_with (go_at_call 46; fail)
        refine hjoin.mono ?_
        rintro e w2 ⟨rfl, b2⟩
        clear hjoin
        go_wp2
        go_ret2
        exact ⟨rfl, HB.out.trans (b2.mono HB.out.size)⟩
end Go.Proofs.YtijnbohjcmcfjaaGreatDoor.Sc
