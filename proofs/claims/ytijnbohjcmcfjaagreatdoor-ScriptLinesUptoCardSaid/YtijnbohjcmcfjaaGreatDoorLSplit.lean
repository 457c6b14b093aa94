/-
  A text cut at a letter: the plain function, the library's answer.
-/
import Derived.Test.YtijnbohjcmcfjaaGreatDoorLKit
import Derived.Lib.SplitLaws
import Derived.Test.YtijnbohjcmcfjaaGreatDoorLNum5
namespace Go.Proofs.YtijnbohjcmcfjaaGreatDoor.Sp
open Go.Proofs.YtijnbohjcmcfjaaGreatDoor.Lk
set_option linter.unusedSimpArgs false
set_option linter.unusedVariables false
set_option maxRecDepth 100000

/-- cut at each letter c -/
def splitL (c : UInt8) : List UInt8 → List (List UInt8)
  | [] => [[]]
  | b :: r => if b = c then [] :: splitL c r else match splitL c r with
    | [] => [[b]]
    | h :: t => (b :: h) :: t
theorem splitL_ne (c : UInt8) (l : List UInt8) : splitL c l ≠ [] := by
  cases l with
  | nil => simp [splitL]
  | cons b r =>
    unfold splitL
    split
    · simp
    · split <;> simp
/-- letters ahead of the first piece -/
def ahead (p : List UInt8) : List (List UInt8) → List (List UInt8)
  | [] => [p]
  | h :: t => (p ++ h) :: t
theorem ahead_nil (l : List (List UInt8)) (h : l ≠ []) : ahead [] l = l := by cases l with
  | nil => exact absurd rfl h
  | cons => rfl
theorem splitL_eq (c : UInt8) (p : List UInt8) (r : List UInt8) : ahead p (splitL c (c :: r)) = p :: splitL c r := by
  rw [splitL, if_pos rfl]; simp [ahead]
theorem splitL_ne' (c b : UInt8) (h : b ≠ c) (p : List UInt8) (r : List UInt8) : ahead p (splitL c (b :: r)) = ahead (p ++ [b]) (splitL c r) := by
  rw [splitL, if_neg h]
  cases hs : splitL c r with
  | nil => exact absurd hs (splitL_ne c r)
  | cons x t => simp [ahead]
open Go.Lib in
theorem splitK_eq (c : UInt8) : ∀ l : List UInt8, splitK [c] 0 (count l [c]) l = splitL c l
  | [] => by rw [count_miss (by simp [index])]; rfl
  | b :: l => by
    by_cases h : b = c
    · subst h
      rw [count_cons_eq, Nat.add_comm]
      have hix : index (b :: l) [b] = 0 := by rw [index]; simp [List.isPrefixOf]
      rw [splitK, hix]
      simp [splitL, splitK_eq b l]
    · rw [count_cons_ne b c l h, splitL, if_neg h, ← splitK_eq c l]
      have hp : ([c] : List UInt8).isPrefixOf (b :: l) = false := by simp [List.isPrefixOf, Ne.symm h]
      have hix : index (b :: l) [c] = if index l [c] == -1 then -1 else index l [c] + 1 := by rw [index, hp]; simp
      by_cases hm : index l [c] = -1
      · rw [count_miss hm]
        rfl
      · have hge := index_ge l [c]
        obtain ⟨j, hj⟩ : ∃ j : Nat, index l [c] = j := ⟨(index l [c]).toNat, by omega⟩
        rw [count_hit (by simp) hj, Nat.add_comm]
        have hm1 : (index l [c] == -1) = false := by simp; omega
        have hix2 : index (b :: l) [c] = (j : Int) + 1 := by rw [hix, hm1, hj]; rfl
        have hm2 : (index (b :: l) [c] == -1) = false := by rw [hix2]; simp; omega
        rw [splitK, splitK, hm1, hm2, hix2, hj]
        have e1 : ((j : Int) + 1).toNat = j + 1 := by omega
        simp [e1]
/-- the pieces of a text, as texts -/
def pcsC (c : UInt8) (s : ByteArray) : List ByteArray := (splitL c s.data.toList).map fun l => ⟨l.toArray⟩
theorem splitB_eq (c : UInt8) (s : ByteArray) : Lib.splitB ⟨#[c]⟩ 0 (Lib.countB s ⟨#[c]⟩) s = pcsC c s := by
  have h := Lib.splitB_data ⟨#[c]⟩ 0 (Lib.countB s ⟨#[c]⟩) s
  have h2 : Lib.splitK [c] 0 (Lib.countB s ⟨#[c]⟩) s.data.toList = splitL c s.data.toList := splitK_eq c s.data.toList
  have h3 := h.trans h2
  unfold pcsC
  rw [← h3, List.map_map]
  conv => lhs; rw [← List.map_id (Lib.splitB ⟨#[c]⟩ 0 (Lib.countB s ⟨#[c]⟩) s)]
  apply List.map_congr_left
  intro x _
  rfl
theorem one_size (c : UInt8) : 1 ≤ (⟨#[c]⟩ : ByteArray).size := Nat.le_refl 1
theorem pcsC_len (c : UInt8) (s : ByteArray) : (pcsC c s).length = Lib.countB s ⟨#[c]⟩ + 1 := by rw [← splitB_eq]; exact Lib.splitB_all _ (one_size c) 0 _ s rfl
theorem pcsC_length (c : UInt8) (s : ByteArray) : (pcsC c s).length ≤ s.size + 1 := by
  rw [pcsC_len]; have := Lib.countB_le ⟨#[c]⟩ (one_size c) s.size s (Nat.le_refl _); omega
theorem splitL_le (c : UInt8) : ∀ (l : List UInt8) (x : List UInt8), x ∈ splitL c l → x.length ≤ l.length
  | [], x, h => by simp [splitL] at h; rw [h]; exact Nat.le_refl _
  | b :: r, x, h => by
    rw [splitL] at h
    split at h
    · rcases List.mem_cons.1 h with rfl | h
      · exact Nat.zero_le _
      · have := splitL_le c r x h; simp; omega
    · cases hs : splitL c r with
      | nil => exact absurd hs (splitL_ne c r)
      | cons y t =>
        rw [hs] at h
        rcases List.mem_cons.1 h with rfl | h
        · have := splitL_le c r y (by rw [hs]; simp); simp; omega
        · have := splitL_le c r x (by rw [hs]; simp [h]); simp; omega
theorem pcsC_le {c : UInt8} {s x : ByteArray} (h : x ∈ pcsC c s) : x.size ≤ s.size := by
  unfold pcsC at h
  obtain ⟨l, hl, rfl⟩ := List.mem_map.1 h
  have := splitL_le c _ l hl
  have e : s.data.toList.length = s.size := by rw [Array.length_toList]; rfl
  have e2 : (⟨l.toArray⟩ : ByteArray).size = l.length := by simp [ByteArray.size]
  omega
/-- a text without the letter is one piece -/
theorem splitL_none (c : UInt8) : ∀ l : List UInt8, c ∉ l → splitL c l = [l]
  | [], _ => rfl
  | b :: r, h => by
    have hb : b ≠ c := fun e => h (by simp [e])
    rw [splitL, if_neg hb, splitL_none c r (fun hr => h (by simp [hr]))]
/-- a piece, the letter, and what follows -/
theorem splitL_cat (c : UInt8) : ∀ (p r : List UInt8), c ∉ p → splitL c (p ++ c :: r) = p :: splitL c r
  | [], r, _ => by rw [List.nil_append, splitL, if_pos rfl]
  | b :: p, r, h => by
    have hb : b ≠ c := fun e => h (by simp [e])
    rw [List.cons_append, splitL, if_neg hb, splitL_cat c p r (fun hr => h (by simp [hr]))]
end Go.Proofs.YtijnbohjcmcfjaaGreatDoor.Sp
/-
  Plain: what a line of calls says, and how a call is written, as functions on texts.
-/
namespace Go.Proofs.YtijnbohjcmcfjaaGreatDoor.Sc
open Go.RowKit Go.Proofs.YtijnbohjcmcfjaaGreatDoor.Kt Go.Proofs.YtijnbohjcmcfjaaGreatDoor.Lk Go.Proofs.YtijnbohjcmcfjaaGreatDoor.Sp
open Go.Proofs.YtijnbohjcmcfjaaGreatDoor.Nu (pwOf magN digEnd worthI dgt)
set_option linter.unusedSimpArgs false
set_option linter.unusedVariables false
set_option maxRecDepth 100000

/-- the first place from k on that holds no space -/
def skipE (s : ByteArray) (k : Nat) : Nat := if h : k < s.size ∧ gb s k = 32 then skipE s (k + 1) else k
termination_by s.size - k
theorem skipE_go {s : ByteArray} {k : Nat} (h1 : k < s.size) (h2 : gb s k = 32) : skipE s (k + 1) = skipE s k := by
  conv => rhs; rw [skipE, dif_pos ⟨h1, h2⟩]
theorem skipE_stop {s : ByteArray} {k : Nat} (h : ¬ (k < s.size ∧ gb s k = 32)) : skipE s k = k := by
  rw [skipE, dif_neg h]
/-- the first place from k on that holds a space -/
def fieldE (s : ByteArray) (k : Nat) : Nat := if h : k < s.size ∧ gb s k ≠ 32 then fieldE s (k + 1) else k
termination_by s.size - k
theorem fieldE_go {s : ByteArray} {k : Nat} (h1 : k < s.size) (h2 : gb s k ≠ 32) : fieldE s (k + 1) = fieldE s k := by
  conv => rhs; rw [fieldE, dif_pos ⟨h1, h2⟩]
theorem fieldE_stop {s : ByteArray} {k : Nat} (h : ¬ (k < s.size ∧ gb s k ≠ 32)) : fieldE s k = k := by
  rw [fieldE, dif_neg h]
theorem skipE_ge (s : ByteArray) (k : Nat) : k ≤ skipE s k := by
  induction hm : s.size - k using Nat.strongRecOn generalizing k with
  | _ m ih =>
    by_cases h : k < s.size ∧ gb s k = 32
    · have := ih (s.size - (k + 1)) (by omega) (k + 1) rfl
      rw [skipE_go h.1 h.2] at this; omega
    · rw [skipE_stop h]; exact Nat.le_refl _
theorem skipE_le (s : ByteArray) (k : Nat) (hk : k ≤ s.size) : skipE s k ≤ s.size := by
  induction hm : s.size - k using Nat.strongRecOn generalizing k with
  | _ m ih =>
    by_cases h : k < s.size ∧ gb s k = 32
    · have := ih (s.size - (k + 1)) (by omega) (k + 1) (by omega) rfl
      rwa [skipE_go h.1 h.2] at this
    · rw [skipE_stop h]; exact hk
theorem fieldE_ge (s : ByteArray) (k : Nat) : k ≤ fieldE s k := by
  induction hm : s.size - k using Nat.strongRecOn generalizing k with
  | _ m ih =>
    by_cases h : k < s.size ∧ gb s k ≠ 32
    · have := ih (s.size - (k + 1)) (by omega) (k + 1) rfl
      rw [fieldE_go h.1 h.2] at this; omega
    · rw [fieldE_stop h]; exact Nat.le_refl _
theorem fieldE_le (s : ByteArray) (k : Nat) (hk : k ≤ s.size) : fieldE s k ≤ s.size := by
  induction hm : s.size - k using Nat.strongRecOn generalizing k with
  | _ m ih =>
    by_cases h : k < s.size ∧ gb s k ≠ 32
    · have := ih (s.size - (k + 1)) (by omega) (k + 1) (by omega) rfl
      rwa [fieldE_go h.1 h.2] at this
    · rw [fieldE_stop h]; exact hk

/-- words with commas between them -/
def listGo : List ByteArray → Nat → List Nat → List Nat × Nat × Nat
  | [], at', l => (l, 0, 0)
  | c :: r, at', l => if (pwOf 8 c).2.1 ≠ 0 then ([], (pwOf 8 c).2.1, at' + (pwOf 8 c).2.2) else listGo r (at' + c.size + 1) (l ++ [(pwOf 8 c).1])
def listF (s : ByteArray) : List Nat × Nat × Nat := if s.size = 0 then ([], 0, 0) else listGo (pcsC 44 s) 0 []
/-- a number up to a bound -/
def intF (s : ByteArray) (most : Nat) : Nat × Nat × Nat :=
  if digEnd s false 0 = 0 ∨ digEnd s false 0 < s.size then (0, 30, digEnd s false 0) else match magN s 10 0 0 with
    | none => (0, 31, 0)
    | some v => if most < v then (0, 31, 0) else (v, 0, 0)

/-- a hex digit's letter -/
def hd (n : Nat) : Int := if n < 10 then 48 + (n : Int) else 87 + (n : Int)
/-- what a letter is written as between quotes -/
def qb (c : Nat) : List Int :=
  if c = 92 ∨ c = 34 then [92, (c : Int)] else if c = 10 then [92, 110] else if c = 13 then [92, 114] else if c = 9 then [92, 116]
  else if 32 ≤ c ∧ c ≤ 126 then [(c : Int)] else [92, 120, hd (c / 16), hd (c % 16)]
def quoteZ (s : ByteArray) (k : Nat) : List Int := 34 :: (List.range k).flatMap fun i => qb (gb s i)
theorem quoteZ_succ (s : ByteArray) (k : Nat) : quoteZ s (k + 1) = quoteZ s k ++ qb (gb s k) := by
  unfold quoteZ; rw [List.range_succ, List.flatMap_append]; simp
theorem qb_length (c : Nat) : (qb c).length ≤ 4 ∧ 1 ≤ (qb c).length := by
  unfold qb; repeat' split
  all_goals simp
theorem quoteZ_length (s : ByteArray) (k : Nat) : (quoteZ s k).length ≤ 4 * k + 1 := by
  induction k with
  | zero => simp [quoteZ]
  | succ k ih => rw [quoteZ_succ, List.length_append]; have := (qb_length (gb s k)).1; omega
def quoteF (s : ByteArray) : ByteArray := strOfNums (quoteZ s s.size ++ [34])

/-- an item between quotes: its letter and the place behind it, or the place where it is none -/
def itemF (s : ByteArray) (k : Nat) : Except Nat (Int × Nat) :=
  if gb s k ≠ 92 then (if gb s k < 32 then .error k else .ok ((gb s k : Int), k + 1))
  else if k + 1 = s.size then .error (k + 1)
  else if gb s (k + 1) = 92 ∨ gb s (k + 1) = 34 then .ok ((gb s (k + 1) : Int), k + 2)
  else if gb s (k + 1) = 110 then .ok (10, k + 2)
  else if gb s (k + 1) = 114 then .ok (13, k + 2)
  else if gb s (k + 1) = 116 then .ok (9, k + 2)
  else if gb s (k + 1) ≠ 120 then .error (k + 1)
  else if k + 2 = s.size then .error (k + 2)
  else if worthI (gb s (k + 2)) < 0 then .error (k + 2)
  else if k + 3 = s.size then .error (k + 3)
  else if worthI (gb s (k + 3)) < 0 then .error (k + 3)
  else .ok (16 * worthI (gb s (k + 2)) + worthI (gb s (k + 3)), k + 4)
theorem itemF_gt {s : ByteArray} {k k' : Nat} {c : Int} (h : itemF s k = .ok (c, k')) : k < k' ∧ k' ≤ k + 4 := by
  unfold itemF at h
  repeat' split at h
  all_goals first | (cases h; done) | (injection h with h; injection h with h1 h2; omega)
/-- what stands between quotes from k on: the letters, the place behind, the error -/
def unqGo (s : ByteArray) (k : Nat) (out : List Int) : List Int × Nat × Nat :=
  if hk : k < s.size then
    if gb s k = 34 then (out, k + 1, 0) else
    match h : itemF s k with
    | .error p => ([], p, 23)
    | .ok (c, k') => unqGo s k' (out ++ [c])
  else ([], s.size, 23)
termination_by s.size - k
decreasing_by have := (itemF_gt h).1; omega
def unqF (s : ByteArray) : List Int × Nat × Nat := if gb s 0 ≠ 34 then ([], 0, 23) else unqGo s 1 []
theorem unqGo_end {s : ByteArray} {k : Nat} (h : ¬ k < s.size) (out : List Int) : unqGo s k out = ([], s.size, 23) := by
  rw [unqGo, dif_neg h]
theorem unqGo_quote {s : ByteArray} {k : Nat} (h : k < s.size) (hq : gb s k = 34) (out : List Int) : unqGo s k out = (out, k + 1, 0) := by
  rw [unqGo, dif_pos h, if_pos hq]
theorem unqGo_bad {s : ByteArray} {k p : Nat} (h : k < s.size) (hq : gb s k ≠ 34) (hi : itemF s k = .error p) (out : List Int) : unqGo s k out = ([], p, 23) := by
  rw [unqGo, dif_pos h, if_neg hq]
  split
  · rename_i q he; rw [hi] at he; injection he with he; rw [he]
  · rename_i c k' he; rw [hi] at he; cases he
theorem unqGo_next {s : ByteArray} {k k' : Nat} {c : Int} (h : k < s.size) (hq : gb s k ≠ 34) (hi : itemF s k = .ok (c, k')) (out : List Int) : unqGo s k out = unqGo s k' (out ++ [c]) := by
  rw [unqGo, dif_pos h, if_neg hq]
  split
  · rename_i q he; rw [hi] at he; cases he
  · rename_i c1 k1 he; rw [hi] at he; injection he with he; injection he with h1 h2; rw [h1, h2]

/-- a call -/
structure CallP where
  kind : Int
  name : ByteArray
  words : List Nat
  count : Int
  text : ByteArray
def CallP.none : CallP := ⟨0, ⟨#[]⟩, [], 0, ⟨#[]⟩⟩
abbrev sub (s : ByteArray) (a b : Nat) : ByteArray := s.extract a b
def wField : ByteArray := ⟨#[102, 105, 101, 108, 100]⟩
def wGroup : ByteArray := ⟨#[103, 114, 111, 117, 112]⟩
def wNext : ByteArray := ⟨#[110, 101, 120, 116]⟩
def wData : ByteArray := ⟨#[100, 97, 116, 97]⟩
/-- a line's end: nothing but spaces from a place on -/
def tailF (s : ByteArray) (k : Nat) (c : CallP) : CallP × Nat × Nat := if skipE s k < s.size then (CallP.none, 250, skipE s k) else (c, 0, 0)
/-- what follows a name, from the place k on, which is no space -/
def restF (s : ByteArray) (kind : Int) (name : ByteArray) (k : Nat) : CallP × Nat × Nat :=
  if kind = 0 then
    if (listF (sub s k (fieldE s k))).2.1 ≠ 0 then (CallP.none, (listF (sub s k (fieldE s k))).2.1, k + (listF (sub s k (fieldE s k))).2.2)
    else tailF s (fieldE s k) ⟨0, name, (listF (sub s k (fieldE s k))).1, 0, ⟨#[]⟩⟩
  else if kind = 1 then
    if (intF (sub s k (fieldE s k)) 4294967295).2.1 ≠ 0 then (CallP.none, (intF (sub s k (fieldE s k)) 4294967295).2.1, k + (intF (sub s k (fieldE s k)) 4294967295).2.2)
    else tailF s (fieldE s k) ⟨1, name, [], (intF (sub s k (fieldE s k)) 4294967295).1, ⟨#[]⟩⟩
  else
    if (unqF (sub s k s.size)).2.2 ≠ 0 then (CallP.none, (unqF (sub s k s.size)).2.2, k + (unqF (sub s k s.size)).2.1)
    else tailF s (k + (unqF (sub s k s.size)).2.1) ⟨3, name, [], 0, strOfNums (unqF (sub s k s.size)).1⟩
/-- a name and what follows it, from the place k on -/
def namedF (s : ByteArray) (kind : Int) (k : Nat) : CallP × Nat × Nat :=
  if fieldE s (skipE s k) = skipE s k then (CallP.none, 250, s.size)
  else if symOk (sub s (skipE s k) (fieldE s (skipE s k))) = false then (CallP.none, 250, skipE s k)
  else if skipE s (fieldE s (skipE s k)) = s.size then (⟨kind, sub s (skipE s k) (fieldE s (skipE s k)), [], 0, ⟨#[]⟩⟩, 0, 0)
  else restF s kind (sub s (skipE s k) (fieldE s (skipE s k))) (skipE s (fieldE s (skipE s k)))
/-- a line -/
def parseF (s : ByteArray) : CallP × Nat × Nat :=
  if fieldE s (skipE s 0) = skipE s 0 then (CallP.none, 250, s.size)
  else if sub s (skipE s 0) (fieldE s (skipE s 0)) = wField then namedF s 0 (fieldE s (skipE s 0))
  else if sub s (skipE s 0) (fieldE s (skipE s 0)) = wGroup then namedF s 1 (fieldE s (skipE s 0))
  else if sub s (skipE s 0) (fieldE s (skipE s 0)) = wNext then tailF s (fieldE s (skipE s 0)) ⟨2, ⟨#[]⟩, [], 0, ⟨#[]⟩⟩
  else if sub s (skipE s 0) (fieldE s (skipE s 0)) = wData then namedF s 3 (fieldE s (skipE s 0))
  else (CallP.none, 250, skipE s 0)

/-- words written with commas between them -/
def joinF : List Nat → ByteArray
  | [] => ⟨#[]⟩
  | [n] => dgt n
  | n :: r => dgt n ++ ⟨#[44]⟩ ++ joinF r
/-- has a call something that its kind does not? -/
def spareF (c : CallP) : Bool := (decide (c.kind ≠ 0) && decide (c.words ≠ [])) || (decide (c.kind ≠ 1) && decide (c.count ≠ 0)) || (decide (c.kind ≠ 3) && decide (c.text.size ≠ 0))
def sp : ByteArray := ⟨#[32]⟩
/-- a call written -/
def printF (c : CallP) : ByteArray × Nat :=
  if c.kind = 2 ∧ c.name.size = 0 ∧ spareF c = false then (wNext, 0)
  else if c.kind < 0 ∨ 3 < c.kind ∨ c.kind = 2 ∨ symOk c.name = false ∨ spareF c = true ∨ c.count < 0 ∨ 4294967295 < c.count then (⟨#[]⟩, 250)
  else if c.kind = 1 then (wGroup ++ sp ++ c.name ++ (sp ++ dgt c.count.toNat), 0)
  else if c.kind = 3 then (wData ++ sp ++ c.name ++ (sp ++ quoteF c.text), 0)
  else if c.words ≠ [] then (wField ++ sp ++ c.name ++ (sp ++ joinF c.words), 0)
  else (wField ++ sp ++ c.name, 0)
end Go.Proofs.YtijnbohjcmcfjaaGreatDoor.Sc
/-
  Plain laws: a call that is written is read as itself; what is read is written so that it is read as itself.
-/
namespace Go.Proofs.YtijnbohjcmcfjaaGreatDoor.Sc
open Go.RowKit Go.Proofs.YtijnbohjcmcfjaaGreatDoor.Kt Go.Proofs.YtijnbohjcmcfjaaGreatDoor.Lk Go.Proofs.YtijnbohjcmcfjaaGreatDoor.Sp
open Go.Proofs.YtijnbohjcmcfjaaGreatDoor.Nu (pwOf magN digEnd worthI dgt)
set_option linter.unusedSimpArgs false
set_option linter.unusedVariables false
set_option maxRecDepth 100000

/-- a text's letters -/
abbrev L (s : ByteArray) : List UInt8 := s.data.toList
theorem L_size (s : ByteArray) : (L s).length = s.size := by show s.data.toList.length = _; rw [Array.length_toList]; rfl
theorem L_app (a b : ByteArray) : L (a ++ b) = L a ++ L b := by show (a ++ b).data.toList = _; rw [ByteArray.data_append, Array.toList_append]
theorem L_inj {a b : ByteArray} (h : L a = L b) : a = b := ByteArray.ext (Array.toList_inj.1 h)
theorem gb_mid {s : ByteArray} {A C : List UInt8} {b : UInt8} (h : L s = A ++ b :: C) : A.length < s.size ∧ gb s A.length = b.toNat := by
  have hl : A.length < s.size := by rw [← L_size, h]; simp
  refine ⟨hl, ?_⟩
  have h1 := Nu.gb_list s A.length hl
  have h2 : s.data.toList[A.length]? = some b := by
    have : s.data.toList = A ++ b :: C := h
    rw [this]; simp
  rw [h2] at h1
  rw [gb_lt hl, ← Option.some.inj h1]
theorem gb_mid' {s : ByteArray} {A C : List UInt8} {b : UInt8} {k : Nat} (h : L s = A ++ b :: C) (hk : k = A.length) : k < s.size ∧ gb s k = b.toNat := by subst hk; exact gb_mid h
theorem toNat_ne {b : UInt8} {n : Nat} (hn : n < 256) (h : b ≠ UInt8.ofNat n) : b.toNat ≠ n := by
  intro e
  apply h
  apply UInt8.toNat_inj.1
  rw [e]; simp; omega
theorem field_at {s : ByteArray} : ∀ (B A C : List UInt8), L s = A ++ B ++ C → (∀ b ∈ B, b ≠ 32) → (C = [] ∨ ∃ r, C = 32 :: r) → fieldE s A.length = A.length + B.length
  | [], A, C, h, _, hC => by
    rw [List.append_nil] at h
    rcases hC with rfl | ⟨r, rfl⟩
    · have : A.length = s.size := by rw [← L_size, h]; simp
      rw [fieldE_stop (by omega)]; rfl
    · have h1 := gb_mid h
      rw [fieldE_stop (by rw [h1.2]; simp)]; rfl
  | b :: B, A, C, h, hB, hC => by
    have h1 := gb_mid (s := s) (A := A) (b := b) (C := B ++ C) (by rw [h]; simp)
    have hb : gb s A.length ≠ 32 := by rw [h1.2]; exact toNat_ne (by omega) (hB b (by simp))
    rw [← fieldE_go h1.1 hb]
    have := field_at B (A ++ [b]) C (by rw [h]; simp) (fun x hx => hB x (by simp [hx])) hC
    rw [List.length_append, List.length_singleton] at this
    rw [this, List.length_cons]; omega
theorem skip_at {s : ByteArray} : ∀ (n : Nat) (A C : List UInt8), L s = A ++ List.replicate n 32 ++ C → (C = [] ∨ ∃ c r, C = c :: r ∧ c ≠ 32) → skipE s A.length = A.length + n
  | 0, A, C, h, hC => by
    simp only [List.replicate_zero, List.append_nil] at h
    rcases hC with rfl | ⟨c, r, rfl, hc⟩
    · have : A.length = s.size := by rw [← L_size, h]; simp
      rw [skipE_stop (by omega)]; rfl
    · have h1 := gb_mid h
      rw [skipE_stop (by rw [h1.2]; intro hh; exact toNat_ne (n := 32) (by omega) hc hh.2)]; rfl
  | n + 1, A, C, h, hC => by
    have h1 := gb_mid (s := s) (A := A) (b := 32) (C := List.replicate n 32 ++ C) (by rw [h, List.replicate_succ]; simp)
    rw [← skipE_go h1.1 (by rw [h1.2]; rfl)]
    have := skip_at n (A ++ [32]) C (by rw [h, List.replicate_succ]; simp) hC
    rw [List.length_append, List.length_singleton] at this
    rw [this]; omega
theorem sub_at {s : ByteArray} {A B C : List UInt8} (h : L s = A ++ B ++ C) : sub s A.length (A.length + B.length) = ⟨B.toArray⟩ := by
  apply L_inj
  show (s.extract A.length (A.length + B.length)).data.toList = B
  rw [ByteArray.data_extract]
  simp only [Array.toList_extract]
  have e : s.data.toList = A ++ B ++ C := h
  show (s.data.toList.drop A.length).take (A.length + B.length - A.length) = B
  rw [e, List.append_assoc, List.drop_left, show A.length + B.length - A.length = B.length by omega, List.take_left]
theorem tail_at {s : ByteArray} {n : Nat} {A : List UInt8} {c : CallP} (h : L s = A ++ List.replicate n 32) : tailF s A.length c = (c, 0, 0) := by
  have h1 := skip_at n A [] (by simpa using h) (.inl rfl)
  have h2 : s.size = A.length + n := by rw [← L_size, h]; simp
  unfold tailF
  rw [h1, if_neg (by omega)]

/-! ### words -/
theorem fits8 {n : Nat} (hn : n < 2 ^ 64) : pwOf 8 (dgt n) = (n, 0, 0) := by
  have h := Nu.pw_text 8 (by unfold Nu.isInt; omega) 0 n hn
  have e : Nu.padS 0 ++ dgt n = dgt n := by
    apply L_inj; rw [L_app]; rfl
  rw [e] at h
  rw [h, if_pos]
  unfold Nu.fitsSpec
  simp [Nu.topOf, Nu.sizeOf]
  omega
theorem dgt_dig (n : Nat) : ∀ c ∈ L (dgt n), isDig c.toNat = true := Nu.dec_digC n
theorem dig_ne {c : UInt8} (h : isDig c.toNat = true) {m : Nat} (hm : m < 48) : c ≠ UInt8.ofNat m := by
  intro e
  rw [e] at h
  simp [isDig] at h
  omega
theorem dgt_ne (n : Nat) : L (dgt n) ≠ [] := by
  show (Lib.decDigits n) ≠ []
  rw [Lib.decDigits]; split <;> simp
theorem pcs_join : ∀ (l : List Nat), l ≠ [] → pcsC 44 (joinF l) = l.map dgt
  | [], h => absurd rfl h
  | [n], _ => by
    unfold pcsC joinF
    rw [splitL_none 44 _ (fun h => dig_ne (dgt_dig n _ h) (m := 44) (by omega) rfl)]
    rfl
  | n :: m :: r, _ => by
    have ih := pcs_join (m :: r) (by simp)
    unfold pcsC at ih ⊢
    show (splitL 44 (L (dgt n ++ ⟨#[44]⟩ ++ joinF (m :: r)))).map _ = _
    rw [L_app, L_app, List.append_assoc]
    show (splitL 44 (L (dgt n) ++ 44 :: L (joinF (m :: r)))).map _ = _
    rw [splitL_cat 44 _ _ (fun h => dig_ne (dgt_dig n _ h) (m := 44) (by omega) rfl), List.map_cons, ih]
    rfl
theorem listGo_words : ∀ (l : List Nat) (at' : Nat) (acc : List Nat), (∀ n ∈ l, n < 2 ^ 64) → listGo (l.map dgt) at' acc = (acc ++ l, 0, 0)
  | [], at', acc, _ => by simp [listGo]
  | n :: r, at', acc, h => by
    rw [List.map_cons, listGo, fits8 (h n (by simp))]
    rw [if_neg (by simp), listGo_words r _ _ (fun m hm => h m (by simp [hm]))]
    simp
theorem join_size {l : List Nat} (h : l ≠ []) : (joinF l).size ≠ 0 := by
  rw [← L_size]
  match l, h with
  | [n], _ =>
    show (L (dgt n)).length ≠ 0
    exact fun h => dgt_ne n (List.length_eq_zero_iff.1 h)
  | n :: m :: r, _ =>
    show (L (dgt n ++ ⟨#[44]⟩ ++ joinF (m :: r))).length ≠ 0
    rw [L_app, L_app]; simp
theorem list_join {l : List Nat} (h : l ≠ []) (hw : ∀ n ∈ l, n < 2 ^ 64) : listF (joinF l) = (l, 0, 0) := by
  unfold listF
  rw [if_neg (join_size h), pcs_join l h, listGo_words l 0 [] hw]
  rfl
theorem join_nosp : ∀ (l : List Nat), ∀ b ∈ L (joinF l), b ≠ 32
  | [], b, hb => by cases hb
  | [n], b, hb => dig_ne (dgt_dig n b hb) (m := 32) (by omega)
  | n :: m :: r, b, hb => by
    have hb' : b ∈ L (dgt n ++ ⟨#[44]⟩ ++ joinF (m :: r)) := hb
    rw [L_app, L_app] at hb'
    rcases List.mem_append.1 hb' with h | h
    · rcases List.mem_append.1 h with h | h
      · exact dig_ne (dgt_dig n b h) (m := 32) (by omega)
      · have : b = 44 := by simpa using h
        rw [this]; decide
    · exact join_nosp (m :: r) b h
theorem int_dgt {n : Nat} (hn : n ≤ 4294967295) : intF (dgt n) 4294967295 = (n, 0, 0) := by
  have hd : digEnd (dgt n) false 0 = (dgt n).size := Nu.digEnd_full _ _ _ (Nat.zero_le _) (Nu.digAt_list _ _ _ (fun c hc => .inl (dgt_dig n c (by simpa using hc))))
  have hz : (dgt n).size ≠ 0 := by rw [← L_size]; exact fun h => dgt_ne n (List.length_eq_zero_iff.1 h)
  have hm : magN (dgt n) 10 0 0 = some n := by
    rw [Nu.magN_list, List.drop_zero]
    have hv : Nu.valL 10 (Lib.decDigits n) 0 = n := Nu.valL_dec n
    have := Nu.magL_ok 10 (by omega) (Lib.decDigits n) 0 (by rw [hv]; omega)
    rw [hv] at this
    exact this
  unfold intF
  rw [hd, if_neg (by omega), hm]
  simp only []
  rw [if_neg (by omega)]

/-! ### texts -/
def u8 (z : Int) : UInt8 := UInt8.ofNat z.toNat
def qB (c : UInt8) : List UInt8 := (qb c.toNat).map u8
theorem u8_nat (n : Nat) : u8 (n : Int) = UInt8.ofNat n := rfl
theorem u8_of (c : UInt8) : u8 (c.toNat : Int) = c := by show UInt8.ofNat c.toNat = c; simp
theorem L_getElem (s : ByteArray) : (List.range s.size).map (gb s) = (L s).map UInt8.toNat := by
  apply List.ext_getElem
  · simp [L_size]
  · intro i h1 h2
    have hi : i < s.size := by simpa using h1
    simp only [List.getElem_map, List.getElem_range]
    rw [gb_lt hi]; rfl
theorem L_quote (s : ByteArray) : L (quoteF s) = 34 :: ((L s).flatMap qB ++ [34]) := by
  show ((quoteZ s s.size ++ [34]).map u8) = _
  unfold quoteZ
  have e : (List.range s.size).flatMap (fun i => qb (gb s i)) = (L s).flatMap fun c => qb c.toNat := by
    have h1 : (List.range s.size).flatMap (fun i => qb (gb s i)) = ((List.range s.size).map (gb s)).flatMap qb := by rw [List.flatMap_map]
    rw [h1, L_getElem, List.flatMap_map]
  rw [e, List.cons_append, List.map_cons, List.map_append, List.map_flatMap]
  rfl
theorem worth_hd : ∀ d, d < 16 → worthI (u8 (hd d)).toNat = (d : Int) := by decide
/-- an item that was written is read as its letter -/
theorem item_at {s : ByteArray} {A C : List UInt8} (c : UInt8) (h : L s = A ++ qB c ++ C) : A.length < s.size ∧ gb s A.length ≠ 34 ∧ itemF s A.length = .ok ((c.toNat : Int), A.length + (qB c).length) := by
  have hc := UInt8.toNat_lt c
  have key : ∀ (x : UInt8) (r : List UInt8), qB c = x :: r → A.length < s.size ∧ gb s A.length = x.toNat := fun x r hq => gb_mid (C := r ++ C) (by rw [h, hq]; simp)
  have key2 : ∀ (x y : UInt8) (r : List UInt8), qB c = x :: y :: r → A.length + 1 < s.size ∧ gb s (A.length + 1) = y.toNat := fun x y r hq => gb_mid' (A := A ++ [x]) (C := r ++ C) (by rw [h, hq]; simp) (by simp)
  have key3 : ∀ (x y z : UInt8) (r : List UInt8), qB c = x :: y :: z :: r → A.length + 2 < s.size ∧ gb s (A.length + 2) = z.toNat := fun x y z r hq => gb_mid' (A := A ++ [x, y]) (C := r ++ C) (by rw [h, hq]; simp) (by simp)
  have key4 : ∀ (x y z t : UInt8) (r : List UInt8), qB c = x :: y :: z :: t :: r → A.length + 3 < s.size ∧ gb s (A.length + 3) = t.toNat := fun x y z t r hq => gb_mid' (A := A ++ [x, y, z]) (C := r ++ C) (by rw [h, hq]; simp) (by simp)
  by_cases h1 : c.toNat = 92 ∨ c.toNat = 34
  · have hq : qB c = [92, c] := by unfold qB qb; rw [if_pos h1]; simp only [List.map_cons, List.map_nil, u8_of]; rfl
    obtain ⟨a1, a2⟩ := key _ _ hq
    obtain ⟨b1, b2⟩ := key2 _ _ _ hq
    have a2' : gb s A.length = 92 := a2
    refine ⟨a1, by omega, ?_⟩
    unfold itemF
    rw [if_neg (by omega), if_neg (by omega), b2, if_pos h1, hq]; rfl
  by_cases h2 : c.toNat = 10
  · have hq : qB c = [92, 110] := by unfold qB qb; rw [if_neg h1, if_pos h2]; rfl
    obtain ⟨a1, a2⟩ := key _ _ hq
    obtain ⟨b1, b2⟩ := key2 _ _ _ hq
    have a2' : gb s A.length = 92 := a2
    have b2' : gb s (A.length + 1) = 110 := b2
    refine ⟨a1, by omega, ?_⟩
    unfold itemF
    rw [if_neg (by omega), if_neg (by omega), b2', if_neg (by omega), if_pos rfl, hq, h2]; rfl
  by_cases h3 : c.toNat = 13
  · have hq : qB c = [92, 114] := by unfold qB qb; rw [if_neg h1, if_neg h2, if_pos h3]; rfl
    obtain ⟨a1, a2⟩ := key _ _ hq
    obtain ⟨b1, b2⟩ := key2 _ _ _ hq
    have a2' : gb s A.length = 92 := a2
    have b2' : gb s (A.length + 1) = 114 := b2
    refine ⟨a1, by omega, ?_⟩
    unfold itemF
    rw [if_neg (by omega), if_neg (by omega), b2', if_neg (by omega), if_neg (by omega), if_pos rfl, hq, h3]; rfl
  by_cases h4 : c.toNat = 9
  · have hq : qB c = [92, 116] := by unfold qB qb; rw [if_neg h1, if_neg h2, if_neg h3, if_pos h4]; rfl
    obtain ⟨a1, a2⟩ := key _ _ hq
    obtain ⟨b1, b2⟩ := key2 _ _ _ hq
    have a2' : gb s A.length = 92 := a2
    have b2' : gb s (A.length + 1) = 116 := b2
    refine ⟨a1, by omega, ?_⟩
    unfold itemF
    rw [if_neg (by omega), if_neg (by omega), b2', if_neg (by omega), if_neg (by omega), if_neg (by omega), if_pos rfl, hq, h4]; rfl
  by_cases h5 : 32 ≤ c.toNat ∧ c.toNat ≤ 126
  · have hq : qB c = [c] := by unfold qB qb; rw [if_neg h1, if_neg h2, if_neg h3, if_neg h4, if_pos h5]; simp only [List.map_cons, List.map_nil, u8_of]
    obtain ⟨a1, a2⟩ := key _ _ hq
    refine ⟨a1, by omega, ?_⟩
    unfold itemF
    rw [if_pos (by omega), if_neg (by omega), a2, hq]; rfl
  · have hq : qB c = [92, 120, u8 (hd (c.toNat / 16)), u8 (hd (c.toNat % 16))] := by unfold qB qb; rw [if_neg h1, if_neg h2, if_neg h3, if_neg h4, if_neg h5]; rfl
    obtain ⟨a1, a2⟩ := key _ _ hq
    obtain ⟨b1, b2⟩ := key2 _ _ _ hq
    obtain ⟨c1, c2⟩ := key3 _ _ _ _ hq
    obtain ⟨d1, d2⟩ := key4 _ _ _ _ _ hq
    have a2' : gb s A.length = 92 := a2
    have b2' : gb s (A.length + 1) = 120 := b2
    have w1 : worthI (gb s (A.length + 2)) = ((c.toNat / 16 : Nat) : Int) := by rw [c2, worth_hd _ (by omega)]
    have w2 : worthI (gb s (A.length + 3)) = ((c.toNat % 16 : Nat) : Int) := by rw [d2, worth_hd _ (by omega)]
    refine ⟨a1, by omega, ?_⟩
    unfold itemF
    rw [if_neg (by omega), if_neg (by omega), b2', if_neg (by omega), if_neg (by omega), if_neg (by omega), if_neg (by omega), if_neg (by omega), if_neg (by omega), w1, if_neg (by omega), if_neg (by omega), w2, if_neg (by omega), hq]
    have e : 16 * ((c.toNat / 16 : Nat) : Int) + ((c.toNat % 16 : Nat) : Int) = (c.toNat : Int) := by omega
    rw [e]; rfl
theorem unq_at {s : ByteArray} : ∀ (xs A C : List UInt8) (out : List Int), L s = A ++ (xs.flatMap qB ++ 34 :: C) → unqGo s A.length out = (out ++ xs.map (fun c => (c.toNat : Int)), A.length + (xs.flatMap qB).length + 1, 0)
  | [], A, C, out, h => by
    have h' : L s = A ++ 34 :: C := h
    obtain ⟨h1, h2⟩ := gb_mid h'
    rw [unqGo_quote h1 h2]; simp
  | x :: xs, A, C, out, h => by
    have h' : L s = A ++ qB x ++ (xs.flatMap qB ++ 34 :: C) := by rw [h]; simp
    obtain ⟨h1, h2, h3⟩ := item_at x h'
    rw [unqGo_next h1 h2 h3]
    have := unq_at xs (A ++ qB x) C (out ++ [(x.toNat : Int)]) (by rw [h']; try simp)
    rw [List.length_append] at this
    rw [this]
    simp [Nat.add_assoc]
theorem unq_quote {s t : ByteArray} {C : List UInt8} (h : L s = L (quoteF t) ++ C) : unqF s = ((L t).map (fun c => (c.toNat : Int)), (quoteF t).size, 0) := by
  rw [L_quote] at h
  have h0 := gb_mid (s := s) (A := []) (b := 34) (C := ((L t).flatMap qB ++ [34]) ++ C) (by rw [h]; simp)
  have h1 := unq_at (s := s) (L t) [34] C [] (by rw [h]; simp)
  unfold unqF
  have e : gb s 0 = 34 := h0.2
  rw [if_neg (by omega)]
  have e1 : ([34] : List UInt8).length = 1 := rfl
  rw [e1] at h1
  rw [h1]
  have hs : (quoteF t).size = 1 + ((L t).flatMap qB).length + 1 := by rw [← L_size, L_quote]; simp; omega
  rw [hs]; rfl
theorem str_letters (t : ByteArray) : strOfNums ((L t).map fun c => (c.toNat : Int)) = t := by
  apply L_inj
  show (((L t).map fun c => (c.toNat : Int)).map fun n => UInt8.ofNat n.toNat) = L t
  rw [List.map_map]
  conv => rhs; rw [← List.map_id (L t)]
  apply List.map_congr_left
  intro c _
  simp
end Go.Proofs.YtijnbohjcmcfjaaGreatDoor.Sc
