/-
  Plain: what a line of calls says, and how a call is written, as functions on texts.
-/
import Derived.Test.YtijnbohjcmcfjaaGreatDoorSplit
import Derived.Test.YtijnbohjcmcfjaaGreatDoorNum5
namespace Go.Proofs.YtijnbohjcmcfjaaGreatDoor.Sc
open Go.RowKit Go.Proofs.YtijnbohjcmcfjaaGreatDoor.Kt Go.Proofs.YtijnbohjcmcfjaaGreatDoor.Lk Go.Proofs.YtijnbohjcmcfjaaGreatDoor.Sp
open Go.Proofs.YtijnbohjcmcfjaaGreatDoor.Nu (pwOf magN digEnd worthI dgt)
set_option linter.unusedSimpArgs false
set_option linter.unusedVariables false
set_option maxRecDepth 100000

/-- the first place from k on that holds no space -/
def skipE (s : ByteArray) (k : Nat) : Nat := if h : k < s.size ∧ gb s k = 32 then skipE s (k + 1) else k
termination_by s.size - k
theorem skipE_go {s : ByteArray} {k : Nat} (h1 : k < s.size) (h2 : gb s k = 32) : skipE s (k + 1) = skipE s k := by
  conv => rhs; rw [skipE, dif_pos ⟨h1, h2⟩]
theorem skipE_stop {s : ByteArray} {k : Nat} (h : ¬ (k < s.size ∧ gb s k = 32)) : skipE s k = k := by
  rw [skipE, dif_neg h]
/-- the first place from k on that holds a space -/
def fieldE (s : ByteArray) (k : Nat) : Nat := if h : k < s.size ∧ gb s k ≠ 32 then fieldE s (k + 1) else k
termination_by s.size - k
theorem fieldE_go {s : ByteArray} {k : Nat} (h1 : k < s.size) (h2 : gb s k ≠ 32) : fieldE s (k + 1) = fieldE s k := by
  conv => rhs; rw [fieldE, dif_pos ⟨h1, h2⟩]
theorem fieldE_stop {s : ByteArray} {k : Nat} (h : ¬ (k < s.size ∧ gb s k ≠ 32)) : fieldE s k = k := by
  rw [fieldE, dif_neg h]
theorem skipE_ge (s : ByteArray) (k : Nat) : k ≤ skipE s k := by
  induction hm : s.size - k using Nat.strongRecOn generalizing k with
  | _ m ih =>
    by_cases h : k < s.size ∧ gb s k = 32
    · have := ih (s.size - (k + 1)) (by omega) (k + 1) rfl
      rw [skipE_go h.1 h.2] at this; omega
    · rw [skipE_stop h]; exact Nat.le_refl _
theorem skipE_le (s : ByteArray) (k : Nat) (hk : k ≤ s.size) : skipE s k ≤ s.size := by
  induction hm : s.size - k using Nat.strongRecOn generalizing k with
  | _ m ih =>
    by_cases h : k < s.size ∧ gb s k = 32
    · have := ih (s.size - (k + 1)) (by omega) (k + 1) (by omega) rfl
      rwa [skipE_go h.1 h.2] at this
    · rw [skipE_stop h]; exact hk
theorem fieldE_ge (s : ByteArray) (k : Nat) : k ≤ fieldE s k := by
  induction hm : s.size - k using Nat.strongRecOn generalizing k with
  | _ m ih =>
    by_cases h : k < s.size ∧ gb s k ≠ 32
    · have := ih (s.size - (k + 1)) (by omega) (k + 1) rfl
      rw [fieldE_go h.1 h.2] at this; omega
    · rw [fieldE_stop h]; exact Nat.le_refl _
theorem fieldE_le (s : ByteArray) (k : Nat) (hk : k ≤ s.size) : fieldE s k ≤ s.size := by
  induction hm : s.size - k using Nat.strongRecOn generalizing k with
  | _ m ih =>
    by_cases h : k < s.size ∧ gb s k ≠ 32
    · have := ih (s.size - (k + 1)) (by omega) (k + 1) (by omega) rfl
      rwa [fieldE_go h.1 h.2] at this
    · rw [fieldE_stop h]; exact hk

/-- words with commas between them -/
def listGo : List ByteArray → Nat → List Nat → List Nat × Nat × Nat
  | [], at', l => (l, 0, 0)
  | c :: r, at', l => if (pwOf 8 c).2.1 ≠ 0 then ([], (pwOf 8 c).2.1, at' + (pwOf 8 c).2.2) else listGo r (at' + c.size + 1) (l ++ [(pwOf 8 c).1])
def listF (s : ByteArray) : List Nat × Nat × Nat := if s.size = 0 then ([], 0, 0) else listGo (pcsC 44 s) 0 []
/-- a number up to a bound -/
def intF (s : ByteArray) (most : Nat) : Nat × Nat × Nat :=
  if digEnd s false 0 = 0 ∨ digEnd s false 0 < s.size then (0, 30, digEnd s false 0) else match magN s 10 0 0 with
    | none => (0, 31, 0)
    | some v => if most < v then (0, 31, 0) else (v, 0, 0)

/-- a hex digit's letter -/
def hd (n : Nat) : Int := if n < 10 then 48 + (n : Int) else 87 + (n : Int)
/-- what a letter is written as between quotes -/
def qb (c : Nat) : List Int :=
  if c = 92 ∨ c = 34 then [92, (c : Int)] else if c = 10 then [92, 110] else if c = 13 then [92, 114] else if c = 9 then [92, 116]
  else if 32 ≤ c ∧ c ≤ 126 then [(c : Int)] else [92, 120, hd (c / 16), hd (c % 16)]
def quoteZ (s : ByteArray) (k : Nat) : List Int := 34 :: (List.range k).flatMap fun i => qb (gb s i)
theorem quoteZ_succ (s : ByteArray) (k : Nat) : quoteZ s (k + 1) = quoteZ s k ++ qb (gb s k) := by
  unfold quoteZ; rw [List.range_succ, List.flatMap_append]; simp
theorem qb_length (c : Nat) : (qb c).length ≤ 4 ∧ 1 ≤ (qb c).length := by
  unfold qb; repeat' split
  all_goals simp
theorem quoteZ_length (s : ByteArray) (k : Nat) : (quoteZ s k).length ≤ 4 * k + 1 := by
  induction k with
  | zero => simp [quoteZ]
  | succ k ih => rw [quoteZ_succ, List.length_append]; have := (qb_length (gb s k)).1; omega
def quoteF (s : ByteArray) : ByteArray := strOfNums (quoteZ s s.size ++ [34])

/-- an item between quotes: its letter and the place behind it, or the place where it is none -/
def itemF (s : ByteArray) (k : Nat) : Except Nat (Int × Nat) :=
  if gb s k ≠ 92 then (if gb s k < 32 then .error k else .ok ((gb s k : Int), k + 1))
  else if k + 1 = s.size then .error (k + 1)
  else if gb s (k + 1) = 92 ∨ gb s (k + 1) = 34 then .ok ((gb s (k + 1) : Int), k + 2)
  else if gb s (k + 1) = 110 then .ok (10, k + 2)
  else if gb s (k + 1) = 114 then .ok (13, k + 2)
  else if gb s (k + 1) = 116 then .ok (9, k + 2)
  else if gb s (k + 1) ≠ 120 then .error (k + 1)
  else if k + 2 = s.size then .error (k + 2)
  else if worthI (gb s (k + 2)) < 0 then .error (k + 2)
  else if k + 3 = s.size then .error (k + 3)
  else if worthI (gb s (k + 3)) < 0 then .error (k + 3)
  else .ok (16 * worthI (gb s (k + 2)) + worthI (gb s (k + 3)), k + 4)
theorem itemF_gt {s : ByteArray} {k k' : Nat} {c : Int} (h : itemF s k = .ok (c, k')) : k < k' ∧ k' ≤ k + 4 := by
  unfold itemF at h
  repeat' split at h
  all_goals first | (cases h; done) | (injection h with h; injection h with h1 h2; omega)
/-- what stands between quotes from k on: the letters, the place behind, the error -/
def unqGo (s : ByteArray) (k : Nat) (out : List Int) : List Int × Nat × Nat :=
  if hk : k < s.size then
    if gb s k = 34 then (out, k + 1, 0) else
    match h : itemF s k with
    | .error p => ([], p, 23)
    | .ok (c, k') => unqGo s k' (out ++ [c])
  else ([], s.size, 23)
termination_by s.size - k
decreasing_by have := (itemF_gt h).1; omega
def unqF (s : ByteArray) : List Int × Nat × Nat := if gb s 0 ≠ 34 then ([], 0, 23) else unqGo s 1 []
theorem unqGo_end {s : ByteArray} {k : Nat} (h : ¬ k < s.size) (out : List Int) : unqGo s k out = ([], s.size, 23) := by
  rw [unqGo, dif_neg h]
theorem unqGo_quote {s : ByteArray} {k : Nat} (h : k < s.size) (hq : gb s k = 34) (out : List Int) : unqGo s k out = (out, k + 1, 0) := by
  rw [unqGo, dif_pos h, if_pos hq]
theorem unqGo_bad {s : ByteArray} {k p : Nat} (h : k < s.size) (hq : gb s k ≠ 34) (hi : itemF s k = .error p) (out : List Int) : unqGo s k out = ([], p, 23) := by
  rw [unqGo, dif_pos h, if_neg hq]
  split
  · rename_i q he; rw [hi] at he; injection he with he; rw [he]
  · rename_i c k' he; rw [hi] at he; cases he
theorem unqGo_next {s : ByteArray} {k k' : Nat} {c : Int} (h : k < s.size) (hq : gb s k ≠ 34) (hi : itemF s k = .ok (c, k')) (out : List Int) : unqGo s k out = unqGo s k' (out ++ [c]) := by
  rw [unqGo, dif_pos h, if_neg hq]
  split
  · rename_i q he; rw [hi] at he; cases he
  · rename_i c1 k1 he; rw [hi] at he; injection he with he; injection he with h1 h2; rw [h1, h2]

/-- a call -/
structure CallP where
  kind : Int
  name : ByteArray
  words : List Nat
  count : Int
  text : ByteArray
def CallP.none : CallP := ⟨0, ⟨#[]⟩, [], 0, ⟨#[]⟩⟩
abbrev sub (s : ByteArray) (a b : Nat) : ByteArray := s.extract a b
def wField : ByteArray := ⟨#[102, 105, 101, 108, 100]⟩
def wGroup : ByteArray := ⟨#[103, 114, 111, 117, 112]⟩
def wNext : ByteArray := ⟨#[110, 101, 120, 116]⟩
def wData : ByteArray := ⟨#[100, 97, 116, 97]⟩
/-- a line's end: nothing but spaces from a place on -/
def tailF (s : ByteArray) (k : Nat) (c : CallP) : CallP × Nat × Nat := if skipE s k < s.size then (CallP.none, 250, skipE s k) else (c, 0, 0)
/-- what follows a name, from the place k on, which is no space -/
def restF (s : ByteArray) (kind : Int) (name : ByteArray) (k : Nat) : CallP × Nat × Nat :=
  if kind = 0 then
    if (listF (sub s k (fieldE s k))).2.1 ≠ 0 then (CallP.none, (listF (sub s k (fieldE s k))).2.1, k + (listF (sub s k (fieldE s k))).2.2)
    else tailF s (fieldE s k) ⟨0, name, (listF (sub s k (fieldE s k))).1, 0, ⟨#[]⟩⟩
  else if kind = 1 then
    if (intF (sub s k (fieldE s k)) 4294967295).2.1 ≠ 0 then (CallP.none, (intF (sub s k (fieldE s k)) 4294967295).2.1, k + (intF (sub s k (fieldE s k)) 4294967295).2.2)
    else tailF s (fieldE s k) ⟨1, name, [], (intF (sub s k (fieldE s k)) 4294967295).1, ⟨#[]⟩⟩
  else
    if (unqF (sub s k s.size)).2.2 ≠ 0 then (CallP.none, (unqF (sub s k s.size)).2.2, k + (unqF (sub s k s.size)).2.1)
    else tailF s (k + (unqF (sub s k s.size)).2.1) ⟨3, name, [], 0, strOfNums (unqF (sub s k s.size)).1⟩
/-- a name and what follows it, from the place k on -/
def namedF (s : ByteArray) (kind : Int) (k : Nat) : CallP × Nat × Nat :=
  if fieldE s (skipE s k) = skipE s k then (CallP.none, 250, s.size)
  else if symOk (sub s (skipE s k) (fieldE s (skipE s k))) = false then (CallP.none, 250, skipE s k)
  else if skipE s (fieldE s (skipE s k)) = s.size then (⟨kind, sub s (skipE s k) (fieldE s (skipE s k)), [], 0, ⟨#[]⟩⟩, 0, 0)
  else restF s kind (sub s (skipE s k) (fieldE s (skipE s k))) (skipE s (fieldE s (skipE s k)))
/-- a line -/
def parseF (s : ByteArray) : CallP × Nat × Nat :=
  if fieldE s (skipE s 0) = skipE s 0 then (CallP.none, 250, s.size)
  else if sub s (skipE s 0) (fieldE s (skipE s 0)) = wField then namedF s 0 (fieldE s (skipE s 0))
  else if sub s (skipE s 0) (fieldE s (skipE s 0)) = wGroup then namedF s 1 (fieldE s (skipE s 0))
  else if sub s (skipE s 0) (fieldE s (skipE s 0)) = wNext then tailF s (fieldE s (skipE s 0)) ⟨2, ⟨#[]⟩, [], 0, ⟨#[]⟩⟩
  else if sub s (skipE s 0) (fieldE s (skipE s 0)) = wData then namedF s 3 (fieldE s (skipE s 0))
  else (CallP.none, 250, skipE s 0)

/-- words written with commas between them -/
def joinF : List Nat → ByteArray
  | [] => ⟨#[]⟩
  | [n] => dgt n
  | n :: r => dgt n ++ ⟨#[44]⟩ ++ joinF r
/-- has a call something that its kind does not? -/
def spareF (c : CallP) : Bool := (decide (c.kind ≠ 0) && decide (c.words ≠ [])) || (decide (c.kind ≠ 1) && decide (c.count ≠ 0)) || (decide (c.kind ≠ 3) && decide (c.text.size ≠ 0))
def sp : ByteArray := ⟨#[32]⟩
/-- a call written -/
def printF (c : CallP) : ByteArray × Nat :=
  if c.kind = 2 ∧ c.name.size = 0 ∧ spareF c = false then (wNext, 0)
  else if c.kind < 0 ∨ 3 < c.kind ∨ c.kind = 2 ∨ symOk c.name = false ∨ spareF c = true ∨ c.count < 0 ∨ 4294967295 < c.count then (⟨#[]⟩, 250)
  else if c.kind = 1 then (wGroup ++ sp ++ c.name ++ (sp ++ dgt c.count.toNat), 0)
  else if c.kind = 3 then (wData ++ sp ++ c.name ++ (sp ++ quoteF c.text), 0)
  else if c.words ≠ [] then (wField ++ sp ++ c.name ++ (sp ++ joinF c.words), 0)
  else (wField ++ sp ++ c.name, 0)
end Go.Proofs.YtijnbohjcmcfjaaGreatDoor.Sc
