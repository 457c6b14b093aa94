/-
  Whole numbers as rows of limbs of 24 bits, the lowest first: plain arithmetic, no program in sight.
-/
import Derived.Test.YtijnbohjcmcfjaaGreatDoorLKit
namespace Go.Proofs.YtijnbohjcmcfjaaGreatDoor.Bg
open Go.Proofs.YtijnbohjcmcfjaaGreatDoor.Lk
set_option linter.unusedVariables false
set_option linter.unusedSimpArgs false

def Bb : Nat := 16777216
/-- the number that limbs say -/
def val : List Nat → Nat
  | [] => 0
  | x :: r => x + 16777216 * val r
def okL (l : List Nat) : Prop := ∀ x ∈ l, x < 16777216
theorem val_append (a b : List Nat) : val (a ++ b) = val a + 16777216 ^ a.length * val b := by
  induction a with
  | nil => simp [val]
  | cons x r ih =>
    simp only [List.cons_append, val, List.length_cons, ih, Nat.pow_succ]
    rw [Nat.mul_add, show 16777216 ^ r.length * 16777216 * val b = 16777216 * (16777216 ^ r.length * val b) by ac_rfl]
    omega
theorem val_snoc (a : List Nat) (x : Nat) : val (a ++ [x]) = val a + 16777216 ^ a.length * x := by rw [val_append]; simp [val]
theorem okL_snoc {a : List Nat} {x : Nat} (h : okL a) (hx : x < 16777216) : okL (a ++ [x]) := by
  intro y hy
  rcases List.mem_append.1 hy with h1 | h1
  · exact h y h1
  · simp at h1; omega
theorem okL_append {a b : List Nat} (h : okL (a ++ b)) : okL a ∧ okL b := ⟨fun x hx => h x (by simp [hx]), fun x hx => h x (by simp [hx])⟩
theorem okL_drop {a : List Nat} (h : okL a) (i : Nat) : okL (a.drop i) := fun x hx => h x (List.mem_of_mem_drop hx)
theorem okL_take {a : List Nat} (h : okL a) (i : Nat) : okL (a.take i) := fun x hx => h x (List.mem_of_mem_take hx)
theorem okL_get {a : List Nat} (h : okL a) {i : Nat} (hi : i < a.length) : a[i] < 16777216 := h _ (List.getElem_mem hi)
theorem val_lt {l : List Nat} (h : okL l) : val l < 16777216 ^ l.length := by
  induction l with
  | nil => simp [val]
  | cons x r ih =>
    have h1 := ih (fun y hy => h y (List.mem_cons_of_mem _ hy))
    have h2 := h x (List.mem_cons_self ..)
    simp only [val, List.length_cons, Nat.pow_succ]
    have : 16777216 * (val r + 1) ≤ 16777216 * 16777216 ^ r.length := Nat.mul_le_mul_left _ h1
    rw [Nat.mul_comm (16777216 ^ r.length)]
    omega
/-- no zero at the end -/
def trimd (l : List Nat) : Prop := ∀ x, l.getLast? = some x → x ≠ 0
theorem trimd_pos {l : List Nat} (h : trimd l) (hl : l ≠ []) : 16777216 ^ (l.length - 1) ≤ val l := by
  obtain ⟨a, x, rfl⟩ : ∃ a x, l = a ++ [x] := ⟨l.dropLast, l.getLast hl, (List.dropLast_concat_getLast hl).symm⟩
  have hx : x ≠ 0 := h x (by simp)
  rw [val_snoc]
  simp only [List.length_append, List.length_cons, List.length_nil, Nat.zero_add, Nat.add_sub_cancel]
  have : 16777216 ^ a.length * 1 ≤ 16777216 ^ a.length * x := Nat.mul_le_mul_left _ (by omega)
  omega
theorem len_lt {a b : List Nat} (ha : okL a) (hb : trimd b) (h : a.length < b.length) : val a < val b := by
  have h1 := val_lt ha
  have hne : b ≠ [] := by intro e; rw [e] at h; simp at h
  have h2 := trimd_pos hb hne
  have h3 : 16777216 ^ a.length ≤ 16777216 ^ (b.length - 1) := Nat.pow_le_pow_right (by decide) (by omega)
  omega
/-- two numbers whose upper limbs are the same -/
theorem upper_lt {a b : List Nat} (ha : okL a) (hl : a.length = b.length) {i : Nat} (hi : i < a.length) (hi' : i < b.length) (hd : a.drop (i + 1) = b.drop (i + 1)) (hlt : a[i] < b[i]) : val a < val b := by
  have e1 : val a = val (a.take i) + 16777216 ^ i * (a[i] + 16777216 * val (a.drop (i + 1))) := by
    conv => lhs; rw [← List.take_append_drop i a, val_append]
    rw [List.drop_eq_getElem_cons hi, val, List.length_take, Nat.min_eq_left (by omega)]
  have e2 : val b = val (b.take i) + 16777216 ^ i * (b[i] + 16777216 * val (b.drop (i + 1))) := by
    conv => lhs; rw [← List.take_append_drop i b, val_append]
    rw [List.drop_eq_getElem_cons hi', val, List.length_take, Nat.min_eq_left (by omega)]
  have h1 := val_lt (okL_take ha i)
  rw [List.length_take, Nat.min_eq_left (by omega)] at h1
  rw [e1, e2, hd]
  have : 16777216 ^ i * (a[i] + 16777216 * val (b.drop (i + 1)) + 1) ≤ 16777216 ^ i * (b[i] + 16777216 * val (b.drop (i + 1))) := Nat.mul_le_mul_left _ (by omega)
  rw [Nat.mul_add] at this
  omega
/-- one limb of a product -/
theorem step_eq (b : List Nat) (i c k x v N : Nat) (hb : b.length = i) (h : val b + 16777216 ^ i * (c + k * (x + 16777216 * v)) = N) :
    val (b ++ [(c + x * k) % 16777216]) + 16777216 ^ (i + 1) * ((c + x * k) / 16777216 + k * v) = N := by
  rw [val_snoc, hb, ← h, Nat.pow_succ]
  have e := Nat.div_add_mod (c + x * k) 16777216
  have e2 : c + k * (x + 16777216 * v) = (c + x * k) % 16777216 + 16777216 * ((c + x * k) / 16777216 + k * v) := by
    rw [Nat.mul_add, Nat.mul_add, show k * (16777216 * v) = 16777216 * (k * v) by ac_rfl, Nat.mul_comm k x]
    omega
  rw [e2, Nat.mul_add (16777216 ^ i), Nat.mul_assoc]
  omega
theorem last_eq (b : List Nat) (i c N : Nat) (hb : b.length = i) (h : val b + 16777216 ^ i * c = N) : val (b ++ [c % 16777216]) + 16777216 ^ (i + 1) * (c / 16777216) = N := by
  have := step_eq b i c 0 0 0 N hb (by simpa using h)
  simpa using this
theorem take_trim {b : List Nat} {m : Nat} (hm : m < b.length) (hz : b[m] = 0) (h : val (b.take (m + 1)) = val b) : val (b.take m) = val b := by
  rw [← h, List.take_succ_eq_append_getElem hm, val_snoc, hz]
  simp
theorem trimd_take {b : List Nat} {m : Nat} (hm : m < b.length) (hz : b[m] ≠ 0) : trimd (b.take (m + 1)) := by
  intro x hx
  rw [List.take_succ_eq_append_getElem hm, List.getLast?_concat] at hx
  have := Option.some.inj hx
  omega
theorem trimd_nil : trimd [] := fun x h => by simp at h
/-- Horner's way from above -/
theorem val_drop {a : List Nat} {j : Nat} (hj : j < a.length) : val (a.drop j) = val (a.drop (j + 1)) * 16777216 + a[j] := by
  rw [List.drop_eq_getElem_cons hj, val]; omega
theorem val_drop_le (a : List Nat) (j : Nat) : val (a.drop j) ≤ val a := by
  induction j with
  | zero => simp
  | succ j ih =>
    by_cases hj : j < a.length
    · have := val_drop hj; omega
    · rw [List.drop_eq_nil_of_le (by omega)]; simp [val]

/-- the number that the first k digits say -/
def digVal (s : ByteArray) : Nat → Nat
  | 0 => 0
  | k + 1 => digVal s k * 10 + (gb s k - 48)
/-- where the row of digits from k on ends -/
def digEnd (s : ByteArray) (k : Nat) : Nat := if h : isDig (gb s k) = true then digEnd s (k + 1) else k
termination_by s.size - k
decreasing_by have := lt_of_dig h; omega
theorem digEnd_go {s : ByteArray} {k : Nat} (h : isDig (gb s k) = true) : digEnd s k = digEnd s (k + 1) := by conv => lhs; rw [digEnd, dif_pos h]
theorem digEnd_stop {s : ByteArray} {k : Nat} (h : isDig (gb s k) = false) : digEnd s k = k := by rw [digEnd, dif_neg (by simp [h])]
/-- are all letters digits, and is there one? -/
def allDig (s : ByteArray) : Prop := 0 < s.size ∧ ∀ i, i < s.size → isDig (gb s i) = true
theorem digEnd_spec (s : ByteArray) : ∀ (m k : Nat), s.size - k = m → k ≤ s.size → k ≤ digEnd s k ∧ digEnd s k ≤ s.size ∧ (∀ i, k ≤ i → i < digEnd s k → isDig (gb s i) = true) ∧ isDig (gb s (digEnd s k)) = false := by
  intro m
  induction m with
  | zero =>
    intro k hm hk
    have hd : isDig (gb s k) = false := by
      cases h : isDig (gb s k) with
      | false => rfl
      | true => have := lt_of_dig h; omega
    rw [digEnd_stop hd]
    exact ⟨Nat.le_refl _, hk, fun i h1 h2 => absurd h2 (by omega), hd⟩
  | succ m ih =>
    intro k hm hk
    cases hd : isDig (gb s k) with
    | false =>
      rw [digEnd_stop hd]
      exact ⟨Nat.le_refl _, hk, fun i h1 h2 => absurd h2 (by omega), hd⟩
    | true =>
      obtain ⟨h1, h2, h3, h4⟩ := ih (k + 1) (by omega) (by omega)
      rw [digEnd_go hd]
      refine ⟨by omega, h2, fun i hi hi2 => ?_, h4⟩
      by_cases e : i = k
      · rw [e]; exact hd
      · exact h3 i (by omega) hi2
end Go.Proofs.YtijnbohjcmcfjaaGreatDoor.Bg
