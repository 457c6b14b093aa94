/-
  The plain side of a path's text (package look, layer 21): what reading a text as a path gives, and what writing a path gives, as functions on bytes. No program in sight.
-/
import Derived.Lib.Strings
import Derived.WalkKit
import Derived.WalkSpells
import Derived.WalkLawsBesides
import Derived.Deep.QuietTactic
import Derived.BigQuiet
import Derived.Deep.LoopGhost
import Derived.Maps.AppendAt
import Derived.Laws.Tables
namespace Go.Proofs.YtijnbohjcmcfjaaGreatDoor.Lk
set_option linter.unusedVariables false

/-- the byte at a place, 0 beyond the end -/
def gb (s : ByteArray) (k : Nat) : Nat := if h : k < s.size then s[k].toNat else 0
theorem gb_lt {s : ByteArray} {k : Nat} (h : k < s.size) : gb s k = s[k].toNat := by unfold gb; rw [dif_pos h]
theorem gb_ge {s : ByteArray} {k : Nat} (h : ¬ k < s.size) : gb s k = 0 := by unfold gb; rw [dif_neg h]
theorem lt_of_gb {s : ByteArray} {k : Nat} (h : gb s k ≠ 0) : k < s.size := by
  apply Classical.byContradiction; intro hn; exact h (gb_ge hn)
theorem gb_byte (s : ByteArray) (k : Nat) : gb s k < 256 := by
  unfold gb; split
  · exact UInt8.toNat_lt _
  · omega

def isLet (c : Nat) : Bool := decide (97 ≤ c ∧ c ≤ 122) || decide (65 ≤ c ∧ c ≤ 90) || c == 95
def isDig (c : Nat) : Bool := decide (48 ≤ c ∧ c ≤ 57)
theorem lt_of_dig {s : ByteArray} {k : Nat} (h : isDig (gb s k) = true) : k < s.size := by
  apply lt_of_gb; intro e; rw [e] at h; cases h

/-- may the byte at k stand in the name that begins at f? -/
def nameGo (s : ByteArray) (f k : Nat) : Bool := decide (k < s.size) && decide (k < f + 64) && (isLet (gb s k) || (decide (f < k) && isDig (gb s k)))
theorem nameGo_lt {s : ByteArray} {f k : Nat} (h : nameGo s f k = true) : k < s.size := by
  unfold nameGo at h; simp at h; exact h.1.1
/-- where the name ends -/
def nameEnd (s : ByteArray) (f k : Nat) : Nat := if h : nameGo s f k = true then nameEnd s f (k + 1) else k
termination_by s.size - k
decreasing_by have := nameGo_lt h; omega
theorem nameEnd_go {s : ByteArray} {f k : Nat} (h : nameGo s f k = true) : nameEnd s f (k + 1) = nameEnd s f k := by
  conv => rhs; rw [nameEnd, dif_pos h]
theorem nameEnd_stop {s : ByteArray} {f k : Nat} (h : nameGo s f k = false) : nameEnd s f k = k := by
  rw [nameEnd, dif_neg (by simp [h])]
theorem nameEnd_ge (s : ByteArray) (f k : Nat) : k ≤ nameEnd s f k := by
  induction hm : s.size - k using Nat.strongRecOn generalizing k with
  | _ m ih =>
    cases h : nameGo s f k with
    | false => rw [nameEnd_stop h]; exact Nat.le_refl _
    | true =>
      have hl := nameGo_lt h
      have := ih (s.size - (k + 1)) (by omega) (k + 1) rfl
      rw [nameEnd_go h] at this; omega
theorem nameEnd_le (s : ByteArray) (f k : Nat) (hk : k ≤ s.size) : nameEnd s f k ≤ s.size := by
  induction hm : s.size - k using Nat.strongRecOn generalizing k with
  | _ m ih =>
    cases h : nameGo s f k with
    | false => rw [nameEnd_stop h]; exact hk
    | true =>
      have hl := nameGo_lt h
      have := ih (s.size - (k + 1)) (by omega) (k + 1) (by omega) rfl
      rwa [nameEnd_go h] at this

/-- may the digit at k stand behind the number n, which is not 0? -/
def numGo (s : ByteArray) (k n : Nat) : Bool := isDig (gb s k) && decide (0 < n) && decide (n * 10 + (gb s k - 48) ≤ 65535)
theorem numGo_lt {s : ByteArray} {k n : Nat} (h : numGo s k n = true) : k < s.size := by
  unfold numGo at h; simp at h; exact lt_of_dig h.1.1
/-- where a number ends, and the number -/
def numEnd (s : ByteArray) (k n : Nat) : Nat × Nat := if h : numGo s k n = true then numEnd s (k + 1) (n * 10 + (gb s k - 48)) else (k, n)
termination_by s.size - k
decreasing_by have := numGo_lt h; omega
theorem numEnd_go {s : ByteArray} {k n : Nat} (h : numGo s k n = true) : numEnd s (k + 1) (n * 10 + (gb s k - 48)) = numEnd s k n := by
  conv => rhs; rw [numEnd, dif_pos h]
theorem numEnd_stop {s : ByteArray} {k n : Nat} (h : numGo s k n = false) : numEnd s k n = (k, n) := by
  rw [numEnd, dif_neg (by simp [h])]
theorem numEnd_all (s : ByteArray) (k n : Nat) (hk : k ≤ s.size) (hn : n ≤ 65535) : k ≤ (numEnd s k n).1 ∧ (numEnd s k n).1 ≤ s.size ∧ (numEnd s k n).2 ≤ 65535 := by
  induction hm : s.size - k using Nat.strongRecOn generalizing k n with
  | _ m ih =>
    cases h : numGo s k n with
    | false => rw [numEnd_stop h]; exact ⟨Nat.le_refl _, hk, hn⟩
    | true =>
      have hl := numGo_lt h
      have hb : n * 10 + (gb s k - 48) ≤ 65535 := by unfold numGo at h; simp at h; exact h.2
      have := ih (s.size - (k + 1)) (by omega) (k + 1) _ (by omega) hb rfl
      rw [numEnd_go h] at this
      exact ⟨by omega, this.2.1, this.2.2⟩

/-- the step that begins at k: is there an opening bracket, does it stand, where does it end (or where is the byte that can't stand there), its name, its entry -/
def brk (s : ByteArray) (k : Nat) : Bool := gb s (nameEnd s k k) == 91
def numAt (s : ByteArray) (k : Nat) : Nat × Nat := numEnd s (nameEnd s k k + 2) (gb s (nameEnd s k k + 1) - 48)
def stepOk (s : ByteArray) (k : Nat) : Bool :=
  if nameEnd s k k = k then false else if brk s k = true then (if isDig (gb s (nameEnd s k k + 1)) = true then gb s (numAt s k).1 == 93 else false) else true
def stepEnd (s : ByteArray) (k : Nat) : Nat :=
  if nameEnd s k k = k then k else if brk s k = true then (if isDig (gb s (nameEnd s k k + 1)) = true then (if gb s (numAt s k).1 = 93 then (numAt s k).1 + 1 else (numAt s k).1) else nameEnd s k k + 1) else nameEnd s k k
def stepName (s : ByteArray) (k : Nat) : ByteArray := s.extract k (nameEnd s k k)
def stepEntry (s : ByteArray) (k : Nat) : Int := if brk s k = true then ((numAt s k).2 : Int) else -1
theorem numAt_all {s : ByteArray} {k : Nat} (h : isDig (gb s (nameEnd s k k + 1)) = true) : nameEnd s k k + 2 ≤ (numAt s k).1 ∧ (numAt s k).1 ≤ s.size ∧ (numAt s k).2 ≤ 65535 := by
  have hl := lt_of_dig h
  have hb := gb_byte s (nameEnd s k k + 1)
  exact numEnd_all s _ _ (by omega) (by omega)
theorem stepEnd_ge (s : ByteArray) (k : Nat) : k ≤ stepEnd s k := by
  have h := nameEnd_ge s k k
  unfold stepEnd
  split
  · exact Nat.le_refl _
  · split
    · split
      · rename_i hd
        have hn := numAt_all hd
        split <;> omega
      · omega
    · exact h
theorem stepEnd_le (s : ByteArray) (k : Nat) (hk : k ≤ s.size) : stepEnd s k ≤ s.size := by
  have h := nameEnd_le s k k hk
  unfold stepEnd
  split
  · exact hk
  · split
    · rename_i hb
      have hlt : nameEnd s k k < s.size := lt_of_gb (by unfold brk at hb; rw [beq_iff_eq.1 hb]; omega)
      split
      · rename_i hd
        have hn := numAt_all hd
        split
        · rename_i h93
          have : (numAt s k).1 < s.size := lt_of_gb (by rw [h93]; omega)
          omega
        · omega
      · omega
    · exact h

abbrev Step := ByteArray × Int
/-- the steps from k on: the steps, the error, the place -/
def pathGo (s : ByteArray) (k : Nat) (acc : List Step) : List Step × Nat × Nat :=
  if stepOk s k = true then
    (if stepEnd s k = s.size then (acc ++ [(stepName s k, stepEntry s k)], 0, 0)
     else if h : gb s (stepEnd s k) = 46 then pathGo s (stepEnd s k + 1) (acc ++ [(stepName s k, stepEntry s k)])
     else ([], 210, stepEnd s k))
  else ([], 210, stepEnd s k)
termination_by s.size - k
decreasing_by
  have h1 : stepEnd s k < s.size := lt_of_gb (by rw [h]; omega)
  have h2 := stepEnd_ge s k
  omega
def pathR (s : ByteArray) : List Step × Nat × Nat := if s.size = 0 then ([], 0, 0) else pathGo s 0 []
theorem pathGo_bad {s : ByteArray} {k : Nat} {acc : List Step} (h : stepOk s k = false) : pathGo s k acc = ([], 210, stepEnd s k) := by
  rw [pathGo, if_neg (by simp [h])]
theorem pathGo_done {s : ByteArray} {k : Nat} {acc : List Step} (h : stepOk s k = true) (he : stepEnd s k = s.size) : pathGo s k acc = (acc ++ [(stepName s k, stepEntry s k)], 0, 0) := by
  rw [pathGo, if_pos h, if_pos he]
theorem pathGo_next {s : ByteArray} {k : Nat} {acc : List Step} (h : stepOk s k = true) (he : gb s (stepEnd s k) = 46) : pathGo s (stepEnd s k + 1) (acc ++ [(stepName s k, stepEntry s k)]) = pathGo s k acc := by
  have h1 : stepEnd s k < s.size := lt_of_gb (by rw [he]; omega)
  conv => rhs; rw [pathGo, if_pos h, if_neg (by omega), dif_pos he]
theorem pathGo_odd {s : ByteArray} {k : Nat} {acc : List Step} (h : stepOk s k = true) (hne : stepEnd s k ≠ s.size) (he : gb s (stepEnd s k) ≠ 46) : pathGo s k acc = ([], 210, stepEnd s k) := by
  rw [pathGo, if_pos h, if_neg hne, dif_neg he]

/-- steps as they lie in memory -/
def cellsOf (l : List Step) : List Value := l.flatMap fun x => [.string x.1, .int .i64 x.2]
theorem cellsOf_length (l : List Step) : (cellsOf l).length = l.length * 2 := by
  induction l with
  | nil => rfl
  | cons x r ih => simp only [cellsOf, List.flatMap_cons, List.length_append, List.length_cons, List.length_nil] at ih ⊢; omega
theorem cellsOf_append (l r : List Step) : cellsOf (l ++ r) = cellsOf l ++ cellsOf r := by simp [cellsOf]
theorem cellsOf_name {l : List Step} {i : Nat} (h : i < l.length) : (cellsOf l)[2 * i]? = some (.string l[i].1) := by
  induction l generalizing i with
  | nil => cases h
  | cons x r ih =>
    cases i with
    | zero => rfl
    | succ i =>
      have := ih (i := i) (by simpa using h)
      simp only [cellsOf, List.flatMap_cons] at this ⊢
      rw [show 2 * (i + 1) = 2 * i + 2 by omega, List.getElem?_append_right (by simp)]
      simpa using this
theorem cellsOf_entry {l : List Step} {i : Nat} (h : i < l.length) : (cellsOf l)[2 * i + 1]? = some (.int .i64 l[i].2) := by
  induction l generalizing i with
  | nil => cases h
  | cons x r ih =>
    cases i with
    | zero => rfl
    | succ i =>
      have := ih (i := i) (by simpa using h)
      simp only [cellsOf, List.flatMap_cons] at this ⊢
      rw [show 2 * (i + 1) + 1 = 2 * i + 1 + 2 by omega, List.getElem?_append_right (by simp)]
      simpa using this

/-- may the byte at i stand there in a symbol? -/
def symAt (s : ByteArray) (i : Nat) : Bool := isLet (gb s i) || (decide (0 < i) && isDig (gb s i))
/-- may the first k? -/
def symAll (s : ByteArray) (k : Nat) : Bool := (List.range k).all (symAt s)
theorem symAll_zero (s : ByteArray) : symAll s 0 = true := rfl
theorem symAll_succ {s : ByteArray} {k : Nat} (h : symAll s k = true) (hk : symAt s k = true) : symAll s (k + 1) = true := by
  unfold symAll at h ⊢; rw [List.range_succ, List.all_append, h]; simp [hk]
theorem symAll_bad {s : ByteArray} {k n : Nat} (hk : symAt s k = false) (hn : k < n) : symAll s n = false := by
  unfold symAll; rw [List.all_eq_false]; exact ⟨k, List.mem_range.2 hn, by simp [hk]⟩
/-- a symbol -/
def symOk (s : ByteArray) : Bool := decide (0 < s.size) && decide (s.size ≤ 64) && symAll s s.size
theorem symAt_one (b : ByteArray) : symAll b 1 = isLet (gb b 0) := by simp [symAll, symAt, List.range_succ]
theorem symAt_two (b : ByteArray) : symAll b 2 = (isLet (gb b 0) && (isLet (gb b 1) || isDig (gb b 1))) := by simp [symAll, symAt, List.range_succ]

/-- the decimal digits of a number -/
def dec (n : Nat) : ByteArray := ⟨(Nat.toDigits 10 n).toArray.map fun c => c.toNat.toUInt8⟩
end Go.Proofs.YtijnbohjcmcfjaaGreatDoor.Lk
/-
  Small laws on blocks of cells that a call has made: what a cell holds, what a store makes of the block, that other blocks stay; all worlds that follow one another by 'Kept g'.
-/
namespace Go.Proofs.YtijnbohjcmcfjaaGreatDoor.Kt
open Go.RowKit

theorem ret_bool {a b : Bool} (h : a = b) : Ending.returned (.bool a) = .returned (.bool b) := by rw [h]
theorem ret_int {k : IntKind} {a b : Int} (h : a = b) : Ending.returned (.int k a) = .returned (.int k b) := by rw [h]

/-- block g holds just these cells, and none of them is frozen -/
def Blk (w : World) (g : Nat) (cs : Array Value) (t : TypeId) : Prop := w.heap[g]? = some (.cells cs t (0, 0))
theorem Blk.lt {w : World} {g : Nat} {cs : Array Value} {t : TypeId} (h : Blk w g cs t) : g < w.heap.size := lt_of_block h
theorem Blk.cell {w : World} {g : Nat} {cs : Array Value} {t : TypeId} (h : Blk w g cs t) (i : Nat) {v : Value} (hi : cs[i]? = some v) : w.cell? ⟨g, i, none⟩ = some v := by
  unfold Blk at h; simp [World.cell?, h, hi]
theorem Blk.free {w : World} {g : Nat} {cs : Array Value} {t : TypeId} (h : Blk w g cs t) (i : Nat) : w.frozen? ⟨g, i, none⟩ = false := by
  unfold Blk at h; simp [World.frozen?, h]
theorem Blk.set {w : World} {g : Nat} {cs : Array Value} {t : TypeId} (h : Blk w g cs t) (i : Nat) (u : Value) : Blk (w.setCell ⟨g, i, none⟩ u) g (cs.setIfInBounds i u) t :=
  heap_setCell_same w g i cs t u h
theorem Blk.other {w : World} {g : Nat} {cs : Array Value} {t : TypeId} (h : Blk w g cs t) (a : Addr) (ha : g ≠ a.block) (u : Value) : Blk (w.setCell a u) g cs t := by
  unfold Blk at h ⊢; rw [Below.heap_setCell _ _ _ _ ha]; exact h
theorem Blk.alloc {w : World} {g : Nat} {cs : Array Value} {t : TypeId} (h : Blk w g cs t) (o : Obj) : Blk (w.alloc o) g cs t := by
  have hl := h.lt
  unfold Blk at h ⊢; rw [Below.heap_alloc _ _ _ hl]; exact h
theorem Blk.drewN {w : World} {g : Nat} {cs : Array Value} {t : TypeId} (h : Blk w g cs t) (n : Nat) : Blk (w.drewN n) g cs t := h
theorem Blk.drew {w : World} {g : Nat} {cs : Array Value} {t : TypeId} (h : Blk w g cs t) : Blk w.drew g cs t := h
theorem Blk.new (w : World) (cs : Array Value) (t : TypeId) : Blk (w.alloc (.cells cs t)) w.heap.size cs t := heap_alloc_new w _
theorem Blk.grown {w w' : World} {g : Nat} {cs : Array Value} {t : TypeId} {row : Option Nat} (h : Blk w g cs t) (hg : w.grownBy w' row) (hne : some g ≠ row) : Blk w' g cs t := by
  have hl := h.lt
  unfold Blk at h ⊢; rw [hg.block g hl hne]; exact h
theorem Blk.below {w w' : World} {g B : Nat} {cs : Array Value} {t : TypeId} (h : Blk w g cs t) (hb : Below B w w') (hlt : g < B) : Blk w' g cs t := by
  unfold Blk at h ⊢; rw [hb.block g hlt]; exact h

theorem grown_drewN {w w' : World} {row : Option Nat} (h : w.grownBy w' row) (n : Nat) : w.grownBy (w'.drewN n) row := ⟨h.os, h.tape, h.output, h.size, h.block⟩
theorem grown_drew {w w' : World} {row : Option Nat} (h : w.grownBy w' row) : w.grownBy w'.drew row := ⟨h.os, h.tape, h.output, h.size, h.block⟩
theorem grown_set {w w' : World} {g : Nat} (h : w.grownBy w' (some g)) (i : Nat) (u : Value) : w.grownBy (w'.setCell ⟨g, i, none⟩ u) (some g) :=
  ⟨h.os, h.tape, h.output, by simpa using h.size, fun k hk hne => by rw [Below.heap_setCell _ _ _ _ (fun e => hne (by simp [e]))]; exact h.block k hk hne⟩
theorem grown_set_new {w w' : World} {row : Option Nat} (h : w.grownBy w' row) (a : Addr) (ha : w.heap.size ≤ a.block) (u : Value) : w.grownBy (w'.setCell a u) row :=
  ⟨h.os, h.tape, h.output, by simpa using h.size, fun k hk hne => by rw [Below.heap_setCell _ _ _ _ (by omega)]; exact h.block k hk hne⟩
theorem grown_alloc {w w' : World} {row : Option Nat} (h : w.grownBy w' row) (o : Obj) : w.grownBy (w'.alloc o) row :=
  ⟨h.os, h.tape, h.output, by have := h.size; simp; omega, fun k hk hne => by rw [Below.heap_alloc _ _ _ (by have := h.size; omega)]; exact h.block k hk hne⟩
theorem grown_below {w w' : World} (hb : Below w.heap.size w w') (row : Option Nat) : w.grownBy w' row := ⟨hb.os, hb.tape, hb.output, hb.size, fun k hk _ => hb.block k hk⟩
theorem below_grown {w w' : World} (hg : w.grownBy w' none) : Below w.heap.size w w' := ⟨hg.os, hg.tape, hg.output, hg.size, fun k hk => hg.block k hk (by simp)⟩
theorem below_drewN {B : Nat} {a w : World} (h : Below B a w) (n : Nat) : Below B a (w.drewN n) := ⟨h.os, h.tape, h.output, h.size, h.block⟩

/-- A callee's contract inside a region that draws its order, its answer said otherwise. -/
theorem qsame {P : Program} {f : FuncId} {args : Array Value} {w : World} {n : Nat} {v v' : Value} (hv : v = v')
    (h : Calls P f args (w.drewN n) fun e w' => e = .returned v ∧ w.drewN n = w') : Calls P f args (w.drewN n) fun e w'' => e = .returned v' ∧ ∃ m, w'' = w.drewN m :=
  h.mono fun _ _ ⟨he, hm⟩ => ⟨hv ▸ he, n, hm.symm⟩
theorem qdraw {P : Program} {f : FuncId} {args : Array Value} {w : World} {n : Nat} {v v' : Value} (hv : v = v')
    (h : Calls P f args (w.drewN n) fun e w' => e = .returned v ∧ ∃ m, w' = (w.drewN n).drewN m) : Calls P f args (w.drewN n) fun e w'' => e = .returned v' ∧ ∃ m, w'' = w.drewN m :=
  Calls.quiet_of (hv ▸ h)
theorem empty_of_size {s : ByteArray} (h : s.size = 0) : s = ⟨#[]⟩ := by
  obtain ⟨a⟩ := s
  have h' : a.size = 0 := h
  rw [Array.eq_empty_of_size_eq_zero h']
theorem isEmpty_false {s : ByteArray} (h : s.size ≠ 0) : s.toList.isEmpty = false := by
  rw [Lib.toList_data]
  cases hl : s.data.toList with
  | nil => exact absurd (by rw [Lib.size_eq, hl]; rfl) h
  | cons => rfl
theorem setRow_other (w : World) (g k : Nat) (cs : Array Value) (h : k ≠ g) : (w.setRow g cs).heap[k]? = w.heap[k]? := by
  simp only [World.setRow, Array.getElem?_modify]; rw [if_neg (by omega)]
theorem below_setRow {B r : Nat} {a w : World} (h : Below B a w) (hB : B ≤ r) (cs : Array Value) : Below B a (w.setRow r cs) :=
  ⟨h.os, h.tape, h.output, by simpa [World.setRow] using h.size, fun k hk => by rw [setRow_other _ _ _ _ (by omega)]; exact h.block k hk⟩
theorem Blk.setRow {w : World} {g : Nat} {cs : Array Value} {t : TypeId} (h : Blk w g cs t) (cs' : Array Value) : Blk (w.setRow g cs') g cs' t := by
  unfold Blk at h ⊢
  have hlt := lt_of_block h
  have h' : w.heap[g] = .cells cs t (0, 0) := by simpa [Array.getElem?_eq_getElem hlt] using h
  show (w.heap.modify g _)[g]? = _
  rw [Array.getElem?_eq_getElem (by simpa using hlt), Array.getElem_modify_self, h']
/-- a function whose one result lies in a block of its own -/
theorem ret_cellG {P : Program} {fn : Func} {R : Ending → World → Prop} {p : Tmp} {ty t : TypeId} {d : TypeDesc} (hres : fn.results = #[.cell p ty]) (hu : P.underlying ty = some d) (hd : (match d with | .struct _ | .array _ _ => true | _ => false) = true)
    {cs : Array Value} (hi : (P.info? ty).map (·.size) = some cs.size) {a : Act} {W : World} {g : Nat} (hdef : a.defers = []) (h2 : a.tmps.getD p undef = .pointer (some ⟨g, 0, none⟩)) (hb : Blk W g cs t)
    (hR : R (.returned (.agg cs)) W) : bodyPost P fn R .ret a W :=
  bodyPost_ret (v := .agg cs) (results_cell_row hres a.tmps W g t cs (0, 0) d h2 hb hu hd hi) hdef hR
end Go.Proofs.YtijnbohjcmcfjaaGreatDoor.Kt
