/-
  The plain side of a path's text (package look, layer 21): what reading a text as a path gives, and what writing a path gives, as functions on bytes. No program in sight.
-/
import Derived.Lib.Strings
namespace Go.Proofs.YtijnbohjcmcfjaaGreatDoor.Lk
set_option linter.unusedVariables false

/-- the byte at a place, 0 beyond the end -/
def gb (s : ByteArray) (k : Nat) : Nat := if h : k < s.size then s[k].toNat else 0
theorem gb_lt {s : ByteArray} {k : Nat} (h : k < s.size) : gb s k = s[k].toNat := by unfold gb; rw [dif_pos h]
theorem gb_ge {s : ByteArray} {k : Nat} (h : ¬ k < s.size) : gb s k = 0 := by unfold gb; rw [dif_neg h]
theorem lt_of_gb {s : ByteArray} {k : Nat} (h : gb s k ≠ 0) : k < s.size := by
  apply Classical.byContradiction; intro hn; exact h (gb_ge hn)
theorem gb_byte (s : ByteArray) (k : Nat) : gb s k < 256 := by
  unfold gb; split
  · exact UInt8.toNat_lt _
  · omega

def isLet (c : Nat) : Bool := decide (97 ≤ c ∧ c ≤ 122) || decide (65 ≤ c ∧ c ≤ 90) || c == 95
def isDig (c : Nat) : Bool := decide (48 ≤ c ∧ c ≤ 57)
theorem lt_of_dig {s : ByteArray} {k : Nat} (h : isDig (gb s k) = true) : k < s.size := by
  apply lt_of_gb; intro e; rw [e] at h; cases h

/-- may the byte at k stand in the name that begins at f? -/
def nameGo (s : ByteArray) (f k : Nat) : Bool := decide (k < s.size) && decide (k < f + 64) && (isLet (gb s k) || (decide (f < k) && isDig (gb s k)))
theorem nameGo_lt {s : ByteArray} {f k : Nat} (h : nameGo s f k = true) : k < s.size := by
  unfold nameGo at h; simp at h; exact h.1.1
/-- where the name ends -/
def nameEnd (s : ByteArray) (f k : Nat) : Nat := if h : nameGo s f k = true then nameEnd s f (k + 1) else k
termination_by s.size - k
decreasing_by have := nameGo_lt h; omega
theorem nameEnd_go {s : ByteArray} {f k : Nat} (h : nameGo s f k = true) : nameEnd s f (k + 1) = nameEnd s f k := by
  conv => rhs; rw [nameEnd, dif_pos h]
theorem nameEnd_stop {s : ByteArray} {f k : Nat} (h : nameGo s f k = false) : nameEnd s f k = k := by
  rw [nameEnd, dif_neg (by simp [h])]
theorem nameEnd_ge (s : ByteArray) (f k : Nat) : k ≤ nameEnd s f k := by
  induction hm : s.size - k using Nat.strongRecOn generalizing k with
  | _ m ih =>
    cases h : nameGo s f k with
    | false => rw [nameEnd_stop h]; exact Nat.le_refl _
    | true =>
      have hl := nameGo_lt h
      have := ih (s.size - (k + 1)) (by omega) (k + 1) rfl
      rw [nameEnd_go h] at this; omega
theorem nameEnd_le (s : ByteArray) (f k : Nat) (hk : k ≤ s.size) : nameEnd s f k ≤ s.size := by
  induction hm : s.size - k using Nat.strongRecOn generalizing k with
  | _ m ih =>
    cases h : nameGo s f k with
    | false => rw [nameEnd_stop h]; exact hk
    | true =>
      have hl := nameGo_lt h
      have := ih (s.size - (k + 1)) (by omega) (k + 1) (by omega) rfl
      rwa [nameEnd_go h] at this

/-- may the digit at k stand behind the number n, which is not 0? -/
def numGo (s : ByteArray) (k n : Nat) : Bool := isDig (gb s k) && decide (0 < n) && decide (n * 10 + (gb s k - 48) ≤ 65535)
theorem numGo_lt {s : ByteArray} {k n : Nat} (h : numGo s k n = true) : k < s.size := by
  unfold numGo at h; simp at h; exact lt_of_dig h.1.1
/-- where a number ends, and the number -/
def numEnd (s : ByteArray) (k n : Nat) : Nat × Nat := if h : numGo s k n = true then numEnd s (k + 1) (n * 10 + (gb s k - 48)) else (k, n)
termination_by s.size - k
decreasing_by have := numGo_lt h; omega
theorem numEnd_go {s : ByteArray} {k n : Nat} (h : numGo s k n = true) : numEnd s (k + 1) (n * 10 + (gb s k - 48)) = numEnd s k n := by
  conv => rhs; rw [numEnd, dif_pos h]
theorem numEnd_stop {s : ByteArray} {k n : Nat} (h : numGo s k n = false) : numEnd s k n = (k, n) := by
  rw [numEnd, dif_neg (by simp [h])]
theorem numEnd_all (s : ByteArray) (k n : Nat) (hk : k ≤ s.size) (hn : n ≤ 65535) : k ≤ (numEnd s k n).1 ∧ (numEnd s k n).1 ≤ s.size ∧ (numEnd s k n).2 ≤ 65535 := by
  induction hm : s.size - k using Nat.strongRecOn generalizing k n with
  | _ m ih =>
    cases h : numGo s k n with
    | false => rw [numEnd_stop h]; exact ⟨Nat.le_refl _, hk, hn⟩
    | true =>
      have hl := numGo_lt h
      have hb : n * 10 + (gb s k - 48) ≤ 65535 := by unfold numGo at h; simp at h; exact h.2
      have := ih (s.size - (k + 1)) (by omega) (k + 1) _ (by omega) hb rfl
      rw [numEnd_go h] at this
      exact ⟨by omega, this.2.1, this.2.2⟩

/-- the step that begins at k: is there an opening bracket, does it stand, where does it end (or where is the byte that can't stand there), its name, its entry -/
def brk (s : ByteArray) (k : Nat) : Bool := gb s (nameEnd s k k) == 91
def numAt (s : ByteArray) (k : Nat) : Nat × Nat := numEnd s (nameEnd s k k + 2) (gb s (nameEnd s k k + 1) - 48)
def stepOk (s : ByteArray) (k : Nat) : Bool :=
  if nameEnd s k k = k then false else if brk s k = true then (if isDig (gb s (nameEnd s k k + 1)) = true then gb s (numAt s k).1 == 93 else false) else true
def stepEnd (s : ByteArray) (k : Nat) : Nat :=
  if nameEnd s k k = k then k else if brk s k = true then (if isDig (gb s (nameEnd s k k + 1)) = true then (if gb s (numAt s k).1 = 93 then (numAt s k).1 + 1 else (numAt s k).1) else nameEnd s k k + 1) else nameEnd s k k
def stepName (s : ByteArray) (k : Nat) : ByteArray := s.extract k (nameEnd s k k)
def stepEntry (s : ByteArray) (k : Nat) : Int := if brk s k = true then ((numAt s k).2 : Int) else -1
theorem numAt_all {s : ByteArray} {k : Nat} (h : isDig (gb s (nameEnd s k k + 1)) = true) : nameEnd s k k + 2 ≤ (numAt s k).1 ∧ (numAt s k).1 ≤ s.size ∧ (numAt s k).2 ≤ 65535 := by
  have hl := lt_of_dig h
  have hb := gb_byte s (nameEnd s k k + 1)
  exact numEnd_all s _ _ (by omega) (by omega)
theorem stepEnd_ge (s : ByteArray) (k : Nat) : k ≤ stepEnd s k := by
  have h := nameEnd_ge s k k
  unfold stepEnd
  split
  · exact Nat.le_refl _
  · split
    · split
      · rename_i hd
        have hn := numAt_all hd
        split <;> omega
      · omega
    · exact h
theorem stepEnd_le (s : ByteArray) (k : Nat) (hk : k ≤ s.size) : stepEnd s k ≤ s.size := by
  have h := nameEnd_le s k k hk
  unfold stepEnd
  split
  · exact hk
  · split
    · rename_i hb
      have hlt : nameEnd s k k < s.size := lt_of_gb (by unfold brk at hb; rw [beq_iff_eq.1 hb]; omega)
      split
      · rename_i hd
        have hn := numAt_all hd
        split
        · rename_i h93
          have : (numAt s k).1 < s.size := lt_of_gb (by rw [h93]; omega)
          omega
        · omega
      · omega
    · exact h

abbrev Step := ByteArray × Int
/-- the steps from k on: the steps, the error, the place -/
def pathGo (s : ByteArray) (k : Nat) (acc : List Step) : List Step × Nat × Nat :=
  if stepOk s k = true then
    (if stepEnd s k = s.size then (acc ++ [(stepName s k, stepEntry s k)], 0, 0)
     else if h : gb s (stepEnd s k) = 46 then pathGo s (stepEnd s k + 1) (acc ++ [(stepName s k, stepEntry s k)])
     else ([], 210, stepEnd s k))
  else ([], 210, stepEnd s k)
termination_by s.size - k
decreasing_by
  have h1 : stepEnd s k < s.size := lt_of_gb (by rw [h]; omega)
  have h2 := stepEnd_ge s k
  omega
def pathR (s : ByteArray) : List Step × Nat × Nat := if s.size = 0 then ([], 0, 0) else pathGo s 0 []
theorem pathGo_bad {s : ByteArray} {k : Nat} {acc : List Step} (h : stepOk s k = false) : pathGo s k acc = ([], 210, stepEnd s k) := by
  rw [pathGo, if_neg (by simp [h])]
theorem pathGo_done {s : ByteArray} {k : Nat} {acc : List Step} (h : stepOk s k = true) (he : stepEnd s k = s.size) : pathGo s k acc = (acc ++ [(stepName s k, stepEntry s k)], 0, 0) := by
  rw [pathGo, if_pos h, if_pos he]
theorem pathGo_next {s : ByteArray} {k : Nat} {acc : List Step} (h : stepOk s k = true) (he : gb s (stepEnd s k) = 46) : pathGo s (stepEnd s k + 1) (acc ++ [(stepName s k, stepEntry s k)]) = pathGo s k acc := by
  have h1 : stepEnd s k < s.size := lt_of_gb (by rw [he]; omega)
  conv => rhs; rw [pathGo, if_pos h, if_neg (by omega), dif_pos he]
theorem pathGo_odd {s : ByteArray} {k : Nat} {acc : List Step} (h : stepOk s k = true) (hne : stepEnd s k ≠ s.size) (he : gb s (stepEnd s k) ≠ 46) : pathGo s k acc = ([], 210, stepEnd s k) := by
  rw [pathGo, if_pos h, if_neg hne, dif_neg he]

/-- steps as they lie in memory -/
def cellsOf (l : List Step) : List Value := l.flatMap fun x => [.string x.1, .int .i64 x.2]
theorem cellsOf_length (l : List Step) : (cellsOf l).length = l.length * 2 := by
  induction l with
  | nil => rfl
  | cons x r ih => simp only [cellsOf, List.flatMap_cons, List.length_append, List.length_cons, List.length_nil] at ih ⊢; omega
theorem cellsOf_append (l r : List Step) : cellsOf (l ++ r) = cellsOf l ++ cellsOf r := by simp [cellsOf]
theorem cellsOf_name {l : List Step} {i : Nat} (h : i < l.length) : (cellsOf l)[2 * i]? = some (.string l[i].1) := by
  induction l generalizing i with
  | nil => cases h
  | cons x r ih =>
    cases i with
    | zero => rfl
    | succ i =>
      have := ih (i := i) (by simpa using h)
      simp only [cellsOf, List.flatMap_cons] at this ⊢
      rw [show 2 * (i + 1) = 2 * i + 2 by omega, List.getElem?_append_right (by simp)]
      simpa using this
theorem cellsOf_entry {l : List Step} {i : Nat} (h : i < l.length) : (cellsOf l)[2 * i + 1]? = some (.int .i64 l[i].2) := by
  induction l generalizing i with
  | nil => cases h
  | cons x r ih =>
    cases i with
    | zero => rfl
    | succ i =>
      have := ih (i := i) (by simpa using h)
      simp only [cellsOf, List.flatMap_cons] at this ⊢
      rw [show 2 * (i + 1) + 1 = 2 * i + 1 + 2 by omega, List.getElem?_append_right (by simp)]
      simpa using this

/-- may the byte at i stand there in a symbol? -/
def symAt (s : ByteArray) (i : Nat) : Bool := isLet (gb s i) || (decide (0 < i) && isDig (gb s i))
/-- may the first k? -/
def symAll (s : ByteArray) (k : Nat) : Bool := (List.range k).all (symAt s)
theorem symAll_zero (s : ByteArray) : symAll s 0 = true := rfl
theorem symAll_succ {s : ByteArray} {k : Nat} (h : symAll s k = true) (hk : symAt s k = true) : symAll s (k + 1) = true := by
  unfold symAll at h ⊢; rw [List.range_succ, List.all_append, h]; simp [hk]
theorem symAll_bad {s : ByteArray} {k n : Nat} (hk : symAt s k = false) (hn : k < n) : symAll s n = false := by
  unfold symAll; rw [List.all_eq_false]; exact ⟨k, List.mem_range.2 hn, by simp [hk]⟩
/-- a symbol -/
def symOk (s : ByteArray) : Bool := decide (0 < s.size) && decide (s.size ≤ 64) && symAll s s.size
theorem symAt_one (b : ByteArray) : symAll b 1 = isLet (gb b 0) := by simp [symAll, symAt, List.range_succ]
theorem symAt_two (b : ByteArray) : symAll b 2 = (isLet (gb b 0) && (isLet (gb b 1) || isDig (gb b 1))) := by simp [symAll, symAt, List.range_succ]

/-- the decimal digits of a number -/
def dec (n : Nat) : ByteArray := ⟨(Nat.toDigits 10 n).toArray.map fun c => c.toNat.toUInt8⟩
end Go.Proofs.YtijnbohjcmcfjaaGreatDoor.Lk
