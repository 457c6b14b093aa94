/-
  A text cut at a letter: the plain function, the library's answer.
-/
import Derived.Test.YtijnbohjcmcfjaaGreatDoorLookPlain
import Derived.Lib.SplitLaws
namespace Go.Proofs.YtijnbohjcmcfjaaGreatDoor.Sp
open Go.Proofs.YtijnbohjcmcfjaaGreatDoor.Lk
set_option linter.unusedSimpArgs false
set_option linter.unusedVariables false
set_option maxRecDepth 100000

/-- cut at each letter c -/
def splitL (c : UInt8) : List UInt8 → List (List UInt8)
  | [] => [[]]
  | b :: r => if b = c then [] :: splitL c r else match splitL c r with
    | [] => [[b]]
    | h :: t => (b :: h) :: t
theorem splitL_ne (c : UInt8) (l : List UInt8) : splitL c l ≠ [] := by
  cases l with
  | nil => simp [splitL]
  | cons b r =>
    unfold splitL
    split
    · simp
    · split <;> simp
/-- letters ahead of the first piece -/
def ahead (p : List UInt8) : List (List UInt8) → List (List UInt8)
  | [] => [p]
  | h :: t => (p ++ h) :: t
theorem ahead_nil (l : List (List UInt8)) (h : l ≠ []) : ahead [] l = l := by cases l with
  | nil => exact absurd rfl h
  | cons => rfl
theorem splitL_eq (c : UInt8) (p : List UInt8) (r : List UInt8) : ahead p (splitL c (c :: r)) = p :: splitL c r := by
  rw [splitL, if_pos rfl]; simp [ahead]
theorem splitL_ne' (c b : UInt8) (h : b ≠ c) (p : List UInt8) (r : List UInt8) : ahead p (splitL c (b :: r)) = ahead (p ++ [b]) (splitL c r) := by
  rw [splitL, if_neg h]
  cases hs : splitL c r with
  | nil => exact absurd hs (splitL_ne c r)
  | cons x t => simp [ahead]
open Go.Lib in
theorem splitK_eq (c : UInt8) : ∀ l : List UInt8, splitK [c] 0 (count l [c]) l = splitL c l
  | [] => by rw [count_miss (by simp [index])]; rfl
  | b :: l => by
    by_cases h : b = c
    · subst h
      rw [count_cons_eq, Nat.add_comm]
      have hix : index (b :: l) [b] = 0 := by rw [index]; simp [List.isPrefixOf]
      rw [splitK, hix]
      simp [splitL, splitK_eq b l]
    · rw [count_cons_ne b c l h, splitL, if_neg h, ← splitK_eq c l]
      have hp : ([c] : List UInt8).isPrefixOf (b :: l) = false := by simp [List.isPrefixOf, Ne.symm h]
      have hix : index (b :: l) [c] = if index l [c] == -1 then -1 else index l [c] + 1 := by rw [index, hp]; simp
      by_cases hm : index l [c] = -1
      · rw [count_miss hm]
        rfl
      · have hge := index_ge l [c]
        obtain ⟨j, hj⟩ : ∃ j : Nat, index l [c] = j := ⟨(index l [c]).toNat, by omega⟩
        rw [count_hit (by simp) hj, Nat.add_comm]
        have hm1 : (index l [c] == -1) = false := by simp; omega
        have hix2 : index (b :: l) [c] = (j : Int) + 1 := by rw [hix, hm1, hj]; rfl
        have hm2 : (index (b :: l) [c] == -1) = false := by rw [hix2]; simp; omega
        rw [splitK, splitK, hm1, hm2, hix2, hj]
        have e1 : ((j : Int) + 1).toNat = j + 1 := by omega
        simp [e1]
/-- the pieces of a text, as texts -/
def pcsC (c : UInt8) (s : ByteArray) : List ByteArray := (splitL c s.data.toList).map fun l => ⟨l.toArray⟩
theorem splitB_eq (c : UInt8) (s : ByteArray) : Lib.splitB ⟨#[c]⟩ 0 (Lib.countB s ⟨#[c]⟩) s = pcsC c s := by
  have h := Lib.splitB_data ⟨#[c]⟩ 0 (Lib.countB s ⟨#[c]⟩) s
  have h2 : Lib.splitK [c] 0 (Lib.countB s ⟨#[c]⟩) s.data.toList = splitL c s.data.toList := splitK_eq c s.data.toList
  have h3 := h.trans h2
  unfold pcsC
  rw [← h3, List.map_map]
  conv => lhs; rw [← List.map_id (Lib.splitB ⟨#[c]⟩ 0 (Lib.countB s ⟨#[c]⟩) s)]
  apply List.map_congr_left
  intro x _
  rfl
theorem one_size (c : UInt8) : 1 ≤ (⟨#[c]⟩ : ByteArray).size := Nat.le_refl 1
theorem pcsC_len (c : UInt8) (s : ByteArray) : (pcsC c s).length = Lib.countB s ⟨#[c]⟩ + 1 := by rw [← splitB_eq]; exact Lib.splitB_all _ (one_size c) 0 _ s rfl
theorem pcsC_length (c : UInt8) (s : ByteArray) : (pcsC c s).length ≤ s.size + 1 := by
  rw [pcsC_len]; have := Lib.countB_le ⟨#[c]⟩ (one_size c) s.size s (Nat.le_refl _); omega
theorem splitL_le (c : UInt8) : ∀ (l : List UInt8) (x : List UInt8), x ∈ splitL c l → x.length ≤ l.length
  | [], x, h => by simp [splitL] at h; rw [h]; exact Nat.le_refl _
  | b :: r, x, h => by
    rw [splitL] at h
    split at h
    · rcases List.mem_cons.1 h with rfl | h
      · exact Nat.zero_le _
      · have := splitL_le c r x h; simp; omega
    · cases hs : splitL c r with
      | nil => exact absurd hs (splitL_ne c r)
      | cons y t =>
        rw [hs] at h
        rcases List.mem_cons.1 h with rfl | h
        · have := splitL_le c r y (by rw [hs]; simp); simp; omega
        · have := splitL_le c r x (by rw [hs]; simp [h]); simp; omega
theorem pcsC_le {c : UInt8} {s x : ByteArray} (h : x ∈ pcsC c s) : x.size ≤ s.size := by
  unfold pcsC at h
  obtain ⟨l, hl, rfl⟩ := List.mem_map.1 h
  have := splitL_le c _ l hl
  have e : s.data.toList.length = s.size := by rw [Array.length_toList]; rfl
  have e2 : (⟨l.toArray⟩ : ByteArray).size = l.length := by simp [ByteArray.size]
  omega
/-- a text without the letter is one piece -/
theorem splitL_none (c : UInt8) : ∀ l : List UInt8, c ∉ l → splitL c l = [l]
  | [], _ => rfl
  | b :: r, h => by
    have hb : b ≠ c := fun e => h (by simp [e])
    rw [splitL, if_neg hb, splitL_none c r (fun hr => h (by simp [hr]))]
/-- a piece, the letter, and what follows -/
theorem splitL_cat (c : UInt8) : ∀ (p r : List UInt8), c ∉ p → splitL c (p ++ c :: r) = p :: splitL c r
  | [], r, _ => by rw [List.nil_append, splitL, if_pos rfl]
  | b :: p, r, h => by
    have hb : b ≠ c := fun e => h (by simp [e])
    rw [List.cons_append, splitL, if_neg hb, splitL_cat c p r (fun hr => h (by simp [hr]))]
end Go.Proofs.YtijnbohjcmcfjaaGreatDoor.Sp
