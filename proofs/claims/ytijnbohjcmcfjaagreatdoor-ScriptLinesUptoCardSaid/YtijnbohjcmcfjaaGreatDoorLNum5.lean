/-
  Plain laws: what the texts of a whole number say: decimal with zeros ahead, hex.
-/
import Derived.Test.YtijnbohjcmcfjaaGreatDoorLNum3
import Derived.Lib.ItoaNum
namespace Go.Proofs.YtijnbohjcmcfjaaGreatDoor.Nu
open Go.RowKit Go.Proofs.YtijnbohjcmcfjaaGreatDoor.Kt Go.Proofs.YtijnbohjcmcfjaaGreatDoor.Lk
set_option linter.unusedSimpArgs false
set_option linter.unusedVariables false

/-- the decimal digits of a number -/
def dgt (n : Nat) : ByteArray := ⟨(Lib.decDigits n).toArray⟩
theorem dgt_last {n : Nat} (h : n < 10) : dgt n = strOfNums [48 + (n : Int)] := by
  unfold dgt; rw [Lib.decDigits, dif_pos h]
  show (⟨#[UInt8.ofNat (48 + n)]⟩ : ByteArray) = ⟨#[UInt8.ofNat (48 + (n : Int)).toNat]⟩
  have e : (48 + (n : Int)).toNat = 48 + n := by omega
  rw [e]
theorem dgt_more {n : Nat} (h : ¬ n < 10) : dgt n = dgt (n / 10) ++ strOfNums [48 + (n : Int) % 10] := by
  unfold dgt; rw [Lib.decDigits, dif_neg h]
  have e : (48 + (n : Int) % 10).toNat = 48 + n % 10 := by omega
  apply ByteArray.ext
  show (Lib.decDigits (n / 10) ++ [UInt8.ofNat (48 + n % 10)]).toArray = _
  rw [ByteArray.data_append]
  show _ = (Lib.decDigits (n / 10)).toArray ++ #[UInt8.ofNat (48 + (n : Int) % 10).toNat]
  rw [e]; simp
theorem decDigits_length (k n : Nat) (h : n < 10 ^ (k + 1)) : (Lib.decDigits n).length ≤ k + 1 := by
  induction k generalizing n with
  | zero => rw [Lib.decDigits, dif_pos (by simpa using h)]; simp
  | succ k ih =>
    rw [Lib.decDigits]; split
    · simp
    · have : n / 10 < 10 ^ (k + 1) := by rw [Nat.pow_succ] at h; omega
      have := ih _ this
      simp; omega
theorem dgt_size (n : Nat) (h : n < 2 ^ 64) : (dgt n).size ≤ 20 := by
  have := decDigits_length 19 n (by omega)
  show (Lib.decDigits n).toArray.size ≤ 20
  simpa using this

/-- a digit in hex, as the statement types it -/
def hxc (d : Nat) : UInt8 := [48, 49, 50, 51, 52, 53, 54, 55, 56, 57, 97, 98, 99, 68, 69, 70].getD d 0
def hexDigits (n : Nat) : List UInt8 := if h : n < 16 then [hxc n] else hexDigits (n / 16) ++ [hxc (n % 16)]
def hexS (n : Nat) : ByteArray := ⟨(hexDigits n).toArray⟩
def hxS (d : Nat) : ByteArray := ⟨#[hxc d]⟩
theorem hexS_last {n : Nat} (h : n < 16) : hexS n = hxS n := by
  unfold hexS; rw [hexDigits, dif_pos h]; rfl
theorem hexS_more {n : Nat} (h : ¬ n < 16) : hexS n = hexS (n / 16) ++ hxS (n % 16) := by
  unfold hexS; rw [hexDigits, dif_neg h]
  apply ByteArray.ext
  rw [ByteArray.data_append]
  show (hexDigits (n / 16) ++ [hxc (n % 16)]).toArray = (hexDigits (n / 16)).toArray ++ #[hxc (n % 16)]
  simp
theorem hexDigits_length (k n : Nat) (h : n < 16 ^ (k + 1)) : (hexDigits n).length ≤ k + 1 := by
  induction k generalizing n with
  | zero => rw [hexDigits, dif_pos (by simpa using h)]; simp
  | succ k ih =>
    rw [hexDigits]; split
    · simp
    · have : n / 16 < 16 ^ (k + 1) := by rw [Nat.pow_succ] at h; omega
      have := ih _ this
      simp; omega
theorem hexS_size (n : Nat) (h : n < 2 ^ 64) : (hexS n).size ≤ 16 := by
  have := hexDigits_length 15 n (by omega)
  show (hexDigits n).toArray.size ≤ 16
  simpa using this
theorem hexS_pos (n : Nat) : 0 < (hexS n).size := by
  show 0 < (hexDigits n).toArray.size
  rw [hexDigits]; split <;> simp
/-- zeros ahead -/
def padS (z : Nat) : ByteArray := ⟨(List.replicate z (48 : UInt8)).toArray⟩
theorem padS_size (z : Nat) : (padS z).size = z := by show (List.replicate z (48 : UInt8)).toArray.size = z; simp
theorem padS_succ (z : Nat) : padS (z + 1) = padS z ++ ⟨#[48]⟩ := by
  apply ByteArray.ext
  rw [ByteArray.data_append]
  show (List.replicate (z + 1) (48 : UInt8)).toArray = (List.replicate z (48 : UInt8)).toArray ++ #[48]
  apply Array.ext'
  rw [Array.toList_append]
  show List.replicate (z + 1) (48 : UInt8) = List.replicate z (48 : UInt8) ++ [48]
  exact List.replicate_succ'

/-- what digits say, by the list -/
def magL (b : Nat) : List UInt8 → Nat → Option Nat
  | [], v => some v
  | c :: r, v => if (18446744073709551615 - (worthI c.toNat).toNat) / b < v then none else magL b r (v * b + (worthI c.toNat).toNat)
theorem gb_list (s : ByteArray) (k : Nat) (h : k < s.size) : s.data.toList[k]? = some s[k] := by
  have : k < s.data.toList.length := by simpa using h
  rw [List.getElem?_eq_getElem this]; rfl
theorem magN_list (s : ByteArray) (b k v : Nat) : magN s b k v = magL b (s.data.toList.drop k) v := by
  rw [magN]; split
  · rename_i h
    have hl : k < s.data.toList.length := by simpa using h
    rw [List.drop_eq_getElem_cons hl, magL]
    have e : (s.data.toList[k]).toNat = gb s k := by rw [gb_lt h]; rfl
    rw [e, magN_list s b (k + 1)]
  · rename_i h
    rw [List.drop_eq_nil_of_le (by simpa using Nat.le_of_not_lt h), magL]
termination_by s.size - k
def valL (b : Nat) (l : List UInt8) (v : Nat) : Nat := l.foldl (fun v c => v * b + (worthI c.toNat).toNat) v
theorem valL_ge (b : Nat) (hb : 0 < b) (l : List UInt8) (v : Nat) : v ≤ valL b l v := by
  induction l generalizing v with
  | nil => exact Nat.le_refl _
  | cons c r ih =>
    show v ≤ valL b r (v * b + (worthI c.toNat).toNat)
    refine Nat.le_trans ?_ (ih _)
    have : v * 1 ≤ v * b := Nat.mul_le_mul_left _ hb
    omega
theorem magL_ok (b : Nat) (hb : 0 < b) (l : List UInt8) (v : Nat) (h : valL b l v < 18446744073709551616) : magL b l v = some (valL b l v) := by
  induction l generalizing v with
  | nil => rfl
  | cons c r ih =>
    have h' : valL b r (v * b + (worthI c.toNat).toNat) < 18446744073709551616 := h
    have hge := valL_ge b hb r (v * b + (worthI c.toNat).toNat)
    rw [magL, if_neg, ih _ h']
    · rfl
    · have : v ≤ (18446744073709551615 - (worthI c.toNat).toNat) / b := (Nat.le_div_iff_mul_le hb).2 (by omega)
      omega
theorem valL_append (b : Nat) (l r : List UInt8) (v : Nat) : valL b (l ++ r) v = valL b r (valL b l v) := List.foldl_append
theorem valL_zeros (b z : Nat) : valL b (List.replicate z 48) 0 = 0 := by
  induction z with
  | zero => rfl
  | succ z ih =>
    show valL b (List.replicate z 48) (0 * b + (worthI 48).toNat) = 0
    rw [show 0 * b + (worthI 48).toNat = 0 by rw [Nat.zero_mul]; decide]; exact ih
theorem dec_toNat (d : Nat) (h : d < 10) : (UInt8.ofNat (48 + d)).toNat = 48 + d := by simp; omega
theorem worth_dec (d : Nat) (h : d < 10) : (worthI (UInt8.ofNat (48 + d)).toNat).toNat = d := by
  rw [dec_toNat d h]; unfold worthI isDig; rw [if_pos (by simp; omega)]; omega
theorem valL_dec (n : Nat) : valL 10 (Lib.decDigits n) 0 = n := by
  rw [Lib.decDigits]; split
  · rename_i h
    show 0 * 10 + (worthI (UInt8.ofNat (48 + n)).toNat).toNat = n
    rw [worth_dec n h]; omega
  · rename_i h
    rw [valL_append, valL_dec (n / 10)]
    show (n / 10) * 10 + (worthI (UInt8.ofNat (48 + n % 10)).toNat).toNat = n
    rw [worth_dec _ (by omega)]; omega
termination_by n
theorem worth_hex : ∀ d, d < 16 → worthI (hxc d).toNat = (d : Int) := by decide
theorem valL_hex (n : Nat) : valL 16 (hexDigits n) 0 = n := by
  rw [hexDigits]; split
  · rename_i h
    show 0 * 16 + (worthI (hxc n).toNat).toNat = n
    rw [worth_hex n h]; omega
  · rename_i h
    rw [valL_append, valL_hex (n / 16)]
    show (n / 16) * 16 + (worthI (hxc (n % 16)).toNat).toNat = n
    rw [worth_hex _ (by omega)]; omega
termination_by n
/-- the letters of a text are digits -/
def digC (hex : Bool) (c : UInt8) : Prop := isDig c.toNat = true ∨ (hex = true ∧ 0 ≤ worthI c.toNat)
theorem dec_digC (n : Nat) : ∀ c ∈ Lib.decDigits n, isDig c.toNat = true := by
  intro c hc
  rw [Lib.decDigits] at hc; split at hc
  · rename_i h
    obtain rfl : c = _ := List.mem_singleton.1 hc
    rw [dec_toNat n h]; simp [isDig]; omega
  · rename_i h
    rcases List.mem_append.1 hc with h1 | h1
    · exact dec_digC (n / 10) c h1
    · obtain rfl : c = _ := List.mem_singleton.1 h1
      rw [dec_toNat _ (by omega)]; simp [isDig]; omega
termination_by n
theorem hex_digC (n : Nat) : ∀ c ∈ hexDigits n, 0 ≤ worthI c.toNat := by
  intro c hc
  rw [hexDigits] at hc; split at hc
  · rename_i h
    obtain rfl : c = _ := List.mem_singleton.1 hc
    rw [worth_hex n h]; omega
  · rename_i h
    rcases List.mem_append.1 hc with h1 | h1
    · exact hex_digC (n / 16) c h1
    · obtain rfl : c = _ := List.mem_singleton.1 h1
      rw [worth_hex _ (by omega)]; omega
termination_by n
theorem digEnd_full (s : ByteArray) (hex : Bool) (k : Nat) (hk : k ≤ s.size) (h : ∀ j, k ≤ j → j < s.size → digAt s hex j = true) : digEnd s hex k = s.size := by
  rw [digEnd]; split
  · rename_i h1
    exact digEnd_full s hex (k + 1) (by omega) (fun j h2 h3 => h j (by omega) h3)
  · rename_i h1
    rcases Nat.lt_or_ge k s.size with h2 | h2
    · exact absurd ⟨h2, h k (Nat.le_refl _) h2⟩ h1
    · omega
termination_by s.size - k
theorem digAt_list (s : ByteArray) (hex : Bool) (f : Nat) (h : ∀ c ∈ s.data.toList.drop f, digC hex c) (j : Nat) (h1 : f ≤ j) (h2 : j < s.size) : digAt s hex j = true := by
  have hj : j < s.data.toList.length := by simpa using h2
  have hm : s.data.toList[j] ∈ s.data.toList.drop f := by
    rw [List.mem_iff_getElem]
    exact ⟨j - f, by rw [List.length_drop]; omega, by rw [List.getElem_drop]; congr 1; omega⟩
  have e : (s.data.toList[j]).toNat = gb s j := by rw [gb_lt h2]; rfl
  rcases h _ hm with h3 | ⟨h3, h4⟩
  · rw [e] at h3; unfold digAt; rw [h3]; rfl
  · rw [e] at h4; unfold digAt; rw [h3]; simp [h4]
theorem pwOf_dig (p : Nat) (s : ByteArray) (f n : Nat) (hf : pwFrom s = f) (hlt : f < s.size) (hd : ∀ c ∈ s.data.toList.drop f, digC (isHexS s) c) (hv : magL (pwBase s) (s.data.toList.drop f) 0 = some n) :
    pwOf p s = pwNum p (pwMinus s) n := by
  have hE : digEnd s (isHexS s) f = s.size := digEnd_full s _ f (by omega) (digAt_list s _ f hd)
  unfold pwOf
  rw [hf, hE, if_neg (by omega), magN_list]
  have e : (s.extract f s.size).data.toList.drop 0 = s.data.toList.drop f := by
    rw [List.drop_zero, ByteArray.data_extract]
    simp only [Array.toList_extract]
    show (s.data.toList.drop f).take (s.size - f) = _
    exact List.take_of_length_le (by rw [List.length_drop]; show s.data.size - f ≤ s.data.size - f; omega)
  rw [e, hv]
theorem gb0 (s : ByteArray) (c : UInt8) (r : List UInt8) (h : s.data.toList = c :: r) : 0 < s.size ∧ gb s 0 = c.toNat := by
  have hs : s.size = r.length + 1 := by show s.data.toList.length = _; rw [h]; rfl
  have h0 : 0 < s.size := by omega
  refine ⟨h0, ?_⟩
  rw [gb_lt h0]
  show (s.data.toList[0]'(by rw [h]; simp)).toNat = _
  simp only [h]; rfl
theorem gb1 (s : ByteArray) (c d : UInt8) (r : List UInt8) (h : s.data.toList = c :: d :: r) : 1 < s.size ∧ gb s 1 = d.toNat := by
  have hs : s.size = r.length + 2 := by show s.data.toList.length = _; rw [h]; rfl
  have h0 : 1 < s.size := by omega
  refine ⟨h0, ?_⟩
  rw [gb_lt h0]
  show (s.data.toList[1]'(by rw [h]; simp)).toNat = _
  simp only [h]; rfl
theorem dig_bounds {c : UInt8} (h : isDig c.toNat = true) : 48 ≤ c.toNat ∧ c.toNat ≤ 57 := by simpa [isDig] using h
/-- a text of digits alone -/
theorem pw_digits (p n : Nat) (s : ByteArray) (hne : 0 < s.size) (hd : ∀ c ∈ s.data.toList, isDig c.toNat = true) (hv : magL 10 s.data.toList 0 = some n) : pwOf p s = pwNum p false n := by
  have hh : isHexS s = false := by
    unfold isHexS
    cases hl : s.data.toList with
    | nil => have : s.size = 0 := by (show s.data.toList.length = _; rw [hl]; rfl)
             omega
    | cons c r =>
      cases r with
      | nil => have : s.size = 1 := by (show s.data.toList.length = _; rw [hl]; rfl)
               simp [this]
      | cons d r =>
        obtain ⟨_, e⟩ := gb1 s c d r hl
        have := dig_bounds (hd d (by rw [hl]; simp))
        rw [e]; simp; omega
  have hs : sgnS s = false := by
    unfold sgnS
    cases hl : s.data.toList with
    | nil => have : s.size = 0 := by (show s.data.toList.length = _; rw [hl]; rfl)
             omega
    | cons c r =>
      obtain ⟨_, e⟩ := gb0 s c r hl
      have := dig_bounds (hd c (by rw [hl]; simp))
      rw [e]; simp; omega
  obtain ⟨e1, e2, e3⟩ := pw_plain hh hs
  rw [pwOf_dig p s 0 n e1 hne (fun c hc => Or.inl (hd c (List.mem_of_mem_drop hc))) (by rw [e2]; exact hv), e3]
/-- a sign ahead of digits -/
theorem pw_minus (p n : Nat) (s : ByteArray) (hne : 0 < s.size) (hd : ∀ c ∈ s.data.toList, isDig c.toNat = true) (hv : magL 10 s.data.toList 0 = some n) : pwOf p ((⟨#[45]⟩ : ByteArray) ++ s) = pwNum p true n := by
  have hl : ((⟨#[45]⟩ : ByteArray) ++ s).data.toList = 45 :: s.data.toList := by rw [ByteArray.data_append, Array.toList_append]; rfl
  have hz : ((⟨#[45]⟩ : ByteArray) ++ s).size = 1 + s.size := by rw [ByteArray.size_append]; rfl
  obtain ⟨h0, e0⟩ := gb0 _ _ _ hl
  have hh : isHexS ((⟨#[45]⟩ : ByteArray) ++ s) = false := by unfold isHexS; rw [e0]; simp
  have hs : sgnS ((⟨#[45]⟩ : ByteArray) ++ s) = true := by unfold sgnS; rw [e0, decide_eq_true h0]; rfl
  obtain ⟨e1, e2, e3⟩ := pw_sign hh hs
  rw [pwOf_dig p _ 1 n e1 (by omega) (fun c hc => Or.inl (hd c (by rw [hl] at hc; simpa using hc))) (by rw [e2, hl]; exact hv), e3, e0]
  rfl
/-- hex -/
theorem pw_hexa (p n : Nat) (s : ByteArray) (hne : 0 < s.size) (hd : ∀ c ∈ s.data.toList, 0 ≤ worthI c.toNat) (hv : magL 16 s.data.toList 0 = some n) : pwOf p ((⟨#[48, 120]⟩ : ByteArray) ++ s) = pwNum p false n := by
  have hl : ((⟨#[48, 120]⟩ : ByteArray) ++ s).data.toList = 48 :: 120 :: s.data.toList := by rw [ByteArray.data_append, Array.toList_append]; rfl
  have hz : ((⟨#[48, 120]⟩ : ByteArray) ++ s).size = 2 + s.size := by rw [ByteArray.size_append]; rfl
  obtain ⟨h0, e0⟩ := gb0 _ _ _ hl
  obtain ⟨h1, e1⟩ := gb1 _ _ _ _ hl
  have hh : isHexS ((⟨#[48, 120]⟩ : ByteArray) ++ s) = true := by unfold isHexS; rw [e0, e1, decide_eq_true (show 2 ≤ ((⟨#[48, 120]⟩ : ByteArray) ++ s).size from h1)]; rfl
  obtain ⟨f1, f2, f3⟩ := pw_hex hh
  rw [pwOf_dig p _ 2 n f1 (by omega) (fun c hc => Or.inr ⟨hh, hd c (by rw [hl] at hc; simpa using hc)⟩) (by rw [f2, hl]; exact hv), f3]
/-- half of what a type's words are -/
def topOf (k : Nat) : Nat := 2 ^ (8 * sizeOf k - 1)
def fitsSpec (k : Nat) (below : Bool) (n : Nat) : Bool :=
  if k ≤ 4 then decide (n < topOf k) || (below && n == topOf k) else if below then n == 0 else decide (n ≤ topOf k - 1 + topOf k)
def plainSpec (k n : Nat) : Bool := decide (n ≤ topOf k - 1 + topOf k) && (!decide (k ≤ 4) || decide (n < topOf k))
theorem fitsOf_iff (k : Nat) (hk : isInt k) (v : Nat) (hv : v < 2 ^ 64) : fitsOf k v = if k ≤ 4 then decide (v < topOf k) || decide (2 ^ 64 - topOf k ≤ v) else decide (v ≤ topOf k - 1 + topOf k) := by
  obtain ⟨h1, h8⟩ := hk
  rcases Nat.lt_or_ge k 2 with h | _
  · obtain rfl : k = 1 := by omega
    have e1 : sizeOf 1 = 1 := rfl
    unfold fitsOf wordOf topOf signedOf
    rw [e1, Bool.eq_iff_iff]
    simp
    try (first | omega | (split <;> omega))
  rcases Nat.lt_or_ge k 3 with h | _
  · obtain rfl : k = 2 := by omega
    have e1 : sizeOf 2 = 2 := rfl
    unfold fitsOf wordOf topOf signedOf
    rw [e1, Bool.eq_iff_iff]
    simp
    try (first | omega | (split <;> omega))
  rcases Nat.lt_or_ge k 4 with h | _
  · obtain rfl : k = 3 := by omega
    have e1 : sizeOf 3 = 4 := rfl
    unfold fitsOf wordOf topOf signedOf
    rw [e1, Bool.eq_iff_iff]
    simp
    try (first | omega | (split <;> omega))
  rcases Nat.lt_or_ge k 5 with h | _
  · obtain rfl : k = 4 := by omega
    have e1 : sizeOf 4 = 8 := rfl
    unfold fitsOf wordOf topOf signedOf
    rw [e1, Bool.eq_iff_iff]
    simp
    try (first | omega | (split <;> omega))
  rcases Nat.lt_or_ge k 6 with h | _
  · obtain rfl : k = 5 := by omega
    have e1 : sizeOf 5 = 1 := rfl
    unfold fitsOf wordOf topOf signedOf
    rw [e1, Bool.eq_iff_iff]
    simp
    try (first | omega | (split <;> omega))
  rcases Nat.lt_or_ge k 7 with h | _
  · obtain rfl : k = 6 := by omega
    have e1 : sizeOf 6 = 2 := rfl
    unfold fitsOf wordOf topOf signedOf
    rw [e1, Bool.eq_iff_iff]
    simp
    try (first | omega | (split <;> omega))
  rcases Nat.lt_or_ge k 8 with h | _
  · obtain rfl : k = 7 := by omega
    have e1 : sizeOf 7 = 4 := rfl
    unfold fitsOf wordOf topOf signedOf
    rw [e1, Bool.eq_iff_iff]
    simp
    try (first | omega | (split <;> omega))
  · obtain rfl : k = 8 := by omega
    have e1 : sizeOf 8 = 8 := rfl
    unfold fitsOf wordOf topOf signedOf
    rw [e1, Bool.eq_iff_iff]
    simp
    try (first | omega | (split <;> omega))
theorem topOf_le (k : Nat) (hk : isInt k) : 1 ≤ topOf k ∧ topOf k ≤ 9223372036854775808 := by
  obtain ⟨h1, h8⟩ := hk
  have : ∀ q, q < 9 → 1 ≤ q → 1 ≤ topOf q ∧ topOf q ≤ 9223372036854775808 := by decide
  exact this k (by omega) h1
theorem pw_plain_spec (k : Nat) (hk : isInt k) (n : Nat) (hn : n < 2 ^ 64) : pwNum k false n = if plainSpec k n then (n, 0, 0) else (0, 31, 0) := by
  unfold pwNum pwFit
  rw [fitsOf_iff k hk n hn]
  unfold plainSpec signedOf
  have ht := topOf_le k hk
  by_cases h4 : k ≤ 4
  · by_cases hlt : n < topOf k
    · have a1 : ¬ 9223372036854775807 < n := by omega
      have a2 : n ≤ topOf k - 1 + topOf k := by omega
      simp [h4, hlt, a1, a2]
    · by_cases a1 : 9223372036854775807 < n
      · simp [h4, hlt, a1]
      · have a2 : ¬ 18446744073709551616 - topOf k ≤ n := by omega
        simp [h4, hlt, a1, a2]
  · simp [h4]
theorem pw_below_spec (k : Nat) (hk : isInt k) (n : Nat) (hn : n < 2 ^ 64) : pwNum k true n = if fitsSpec k true n then ((18446744073709551616 - n) % 18446744073709551616, 0, 0) else (0, 31, 0) := by
  have ht := topOf_le k hk
  unfold pwNum pwFit
  by_cases hz : n = 0
  · subst hz
    rw [fitsOf_iff k hk 0 (by decide)]
    unfold fitsSpec
    by_cases h4 : k ≤ 4
    · have : 0 < topOf k := by omega
      simp [h4, this]
    · simp [h4]
  · have hF := fitsOf_iff k hk (18446744073709551616 - n) (by omega)
    unfold fitsSpec signedOf
    have e : (18446744073709551616 - n) % 18446744073709551616 = 18446744073709551616 - n := by omega
    rw [e]
    by_cases h4 : k ≤ 4
    · by_cases hb : 9223372036854775808 < n
      · have a1 : ¬ n < topOf k := by omega
        have a2 : ¬ n = topOf k := by omega
        simp [h4, hb, a1, a2]
      · by_cases hle : n ≤ topOf k
        · have a1 : 18446744073709551616 - topOf k ≤ 18446744073709551616 - n := by omega
          have a2 : n < topOf k ∨ n = topOf k := by omega
          rw [if_pos h4] at hF
          simp [h4, hb, hz, a1, a2, hF]
        · have a1 : ¬ 18446744073709551616 - topOf k ≤ 18446744073709551616 - n := by omega
          have a2 : ¬ n < topOf k := by omega
          have a3 : ¬ n = topOf k := by omega
          have a4 : ¬ 18446744073709551616 - n < topOf k := by omega
          rw [if_pos h4] at hF
          simp [h4, hb, hz, a1, a2, a3, a4, hF]
    · simp [h4, hz]
theorem fits_false_spec (k n : Nat) : fitsSpec k false n = plainSpec k n := by
  unfold fitsSpec plainSpec
  by_cases h4 : k ≤ 4
  · simp [h4]; omega
  · simp [h4]
theorem pad_list (z : Nat) (x : ByteArray) : (padS z ++ x).data.toList = List.replicate z 48 ++ x.data.toList := by rw [ByteArray.data_append, Array.toList_append]; rfl
/-- the three texts -/
theorem pw_text (k : Nat) (hk : isInt k) (z n : Nat) (hn : n < 2 ^ 64) : pwOf k (padS z ++ dgt n) = if fitsSpec k false n then (n, 0, 0) else (0, 31, 0) := by
  have hl : (padS z ++ dgt n).data.toList = List.replicate z 48 ++ Lib.decDigits n := pad_list z _
  have hv : valL 10 (padS z ++ dgt n).data.toList 0 = n := by rw [hl, valL_append, valL_zeros, valL_dec]
  rw [pw_digits k n _ ?_ ?_ ?_, pw_plain_spec k hk n hn, fits_false_spec]
  · have : 0 < (Lib.decDigits n).length := by rw [Lib.decDigits]; split <;> simp
    show 0 < (padS z ++ dgt n).data.toList.length
    rw [hl, List.length_append]; omega
  · intro c hc
    rw [hl] at hc
    rcases List.mem_append.1 hc with h | h
    · rw [(List.mem_replicate.1 h).2]; decide
    · exact dec_digC n c h
  · rw [magL_ok 10 (by decide) _ _ (by rw [hv]; omega), hv]
theorem pw_text_below (k : Nat) (hk : isInt k) (z n : Nat) (hn : n < 2 ^ 64) : pwOf k ((⟨#[45]⟩ : ByteArray) ++ (padS z ++ dgt n)) = if fitsSpec k true n then ((18446744073709551616 - n) % 18446744073709551616, 0, 0) else (0, 31, 0) := by
  have hl : (padS z ++ dgt n).data.toList = List.replicate z 48 ++ Lib.decDigits n := pad_list z _
  have hv : valL 10 (padS z ++ dgt n).data.toList 0 = n := by rw [hl, valL_append, valL_zeros, valL_dec]
  rw [pw_minus k n _ ?_ ?_ ?_, pw_below_spec k hk n hn]
  · have : 0 < (Lib.decDigits n).length := by rw [Lib.decDigits]; split <;> simp
    show 0 < (padS z ++ dgt n).data.toList.length
    rw [hl, List.length_append]; omega
  · intro c hc
    rw [hl] at hc
    rcases List.mem_append.1 hc with h | h
    · rw [(List.mem_replicate.1 h).2]; decide
    · exact dec_digC n c h
  · rw [magL_ok 10 (by decide) _ _ (by rw [hv]; omega), hv]
theorem pw_text_hex (k : Nat) (hk : isInt k) (z n : Nat) (hn : n < 2 ^ 64) : pwOf k ((⟨#[48, 120]⟩ : ByteArray) ++ (padS z ++ hexS n)) = if plainSpec k n then (n, 0, 0) else (0, 31, 0) := by
  have hl : (padS z ++ hexS n).data.toList = List.replicate z 48 ++ hexDigits n := pad_list z _
  have hv : valL 16 (padS z ++ hexS n).data.toList 0 = n := by rw [hl, valL_append, valL_zeros, valL_hex]
  rw [pw_hexa k n _ ?_ ?_ ?_, pw_plain_spec k hk n hn]
  · have : 0 < (hexDigits n).length := by rw [hexDigits]; split <;> simp
    show 0 < (padS z ++ hexS n).data.toList.length
    rw [hl, List.length_append]; omega
  · intro c hc
    rw [hl] at hc
    rcases List.mem_append.1 hc with h | h
    · rw [(List.mem_replicate.1 h).2]; decide
    · exact hex_digC n c h
  · rw [magL_ok 16 (by decide) _ _ (by rw [hv]; omega), hv]
end Go.Proofs.YtijnbohjcmcfjaaGreatDoor.Nu
