/-
  Plain laws and walks: the document's whole numbers of the widest type: where they begin, how many bits they have, which they are.
-/
import Derived.Test.YtijnbohjcmcfjaaGreatDoorLQb
import Derived.Test.YtijnbohjcmcfjaaGreatDoorLQa
import Derived.Test.YtijnbohjcmcfjaaGreatDoorLNumP
import Derived.Deep.DeepCutAuto
import Derived.Deep.CutBlock
namespace Go.Proofs.YtijnbohjcmcfjaaGreatDoor.R3
open Go.RowKit Go.Proofs.YtijnbohjcmcfjaaGreatDoor.Kt Go.Proofs.YtijnbohjcmcfjaaGreatDoor.Lk Go.Proofs.YtijnbohjcmcfjaaGreatDoor.Rw Go.Proofs.YtijnbohjcmcfjaaGreatDoor.Bg
open Go.Proofs.YtijnbohjcmcfjaaGreatDoor.Nu (worthI worthI_lt isHexS magN sgnS pwFrom pwBase pwMinus pwOf pwNum pwFit pwV gb_extract digAt worth_of_digAt pwFrom_le)
set_option linter.unusedSimpArgs false
set_option linter.unusedVariables false
set_option maxRecDepth 100000

/-! ### plain -/
theorem bigV_mono (s : ByteArray) {b : Nat} (hb : 1 ≤ b) {k m : Nat} (h : k ≤ m) : bigV s b k ≤ bigV s b m := by
  induction m with
  | zero => have : k = 0 := by omega
            subst this; exact Nat.le_refl _
  | succ m ih =>
    by_cases hk : k = m + 1
    · subst hk; exact Nat.le_refl _
    · have := ih (by omega)
      have h2 : bigV s b m * 1 ≤ bigV s b m * b := Nat.mul_le_mul_left _ hb
      show _ ≤ bigV s b m * b + _
      omega
theorem magN_big (s : ByteArray) {b : Nat} (hb : b = 10 ∨ b = 16) : ∀ (m k : Nat), s.size - k = m → k ≤ s.size → bigV s b k < 18446744073709551616 → magN s b k (bigV s b k) = if bigV s b s.size < 18446744073709551616 then some (bigV s b s.size) else none := by
  intro m
  induction m with
  | zero =>
    intro k hm hk hlt
    obtain rfl : k = s.size := by omega
    rw [magN, dif_neg (by omega), if_pos hlt]
  | succ m ih =>
    intro k hm hk hlt
    have hks : k < s.size := by omega
    rw [magN, dif_pos hks]
    have hd := worthI_lt (gb s k)
    have hb0 : 0 < b := by omega
    have hiff : (18446744073709551615 - (worthI (gb s k)).toNat) / b < bigV s b k ↔ 18446744073709551616 ≤ bigV s b (k + 1) := by
      rw [Nat.div_lt_iff_lt_mul hb0]
      show _ ↔ _ ≤ bigV s b k * b + (worthI (gb s k)).toNat
      omega
    have hmn : bigV s b (k + 1) ≤ bigV s b s.size := bigV_mono s (by omega) (by omega)
    by_cases hov : 18446744073709551616 ≤ bigV s b (k + 1)
    · rw [if_pos (hiff.2 hov), if_neg (by omega)]
    · rw [if_neg (fun h => hov (hiff.1 h))]
      exact ih (k + 1) (by omega) (by omega) (by omega)
theorem magN_all (s : ByteArray) {b : Nat} (hb : b = 10 ∨ b = 16) : magN s b 0 0 = if bigV s b s.size < 18446744073709551616 then some (bigV s b s.size) else none :=
  magN_big s hb s.size 0 rfl (Nat.zero_le _) (by show 0 < _; omega)
/-- what the digits of a text say -/
def wv (s : ByteArray) : Nat := bigV (s.extract (pwFrom s) s.size) (pwBase s) (s.extract (pwFrom s) s.size).size
def wend (s : ByteArray) : Nat := Nu.digEnd s (isHexS s) (pwFrom s)
theorem fit8 {n : Nat} (hn : n < 18446744073709551616) : pwFit 8 n = (n, 0, 0) := by
  have hfit : Nu.fitsOf 8 n = true := by
    have hb : 2 ^ (8 * Nu.sizeOf 8) = 18446744073709551616 := by decide
    have hs : Nu.signedOf 8 = false := by decide
    unfold Nu.fitsOf Nu.wordOf
    simp only [hb, hs]
    rw [if_neg (by simp), Nat.mod_eq_of_lt hn]
    simp
  unfold pwFit
  rw [if_pos hfit]
theorem pw8 (s : ByteArray) : pwOf 8 s = if wend s = pwFrom s ∨ wend s < s.size then (0, 30, wend s) else if 18446744073709551616 ≤ wv s then (0, 31, 0) else if pwMinus s = true ∧ wv s ≠ 0 then (0, 31, 0) else (wv s, 0, 0) := by
  have hb : pwBase s = 10 ∨ pwBase s = 16 := by unfold pwBase; split <;> simp
  unfold pwOf wend
  split
  · rfl
  · rw [magN_all _ hb]
    show (match (if wv s < 18446744073709551616 then some (wv s) else none) with | none => (0, 31, 0) | some v => pwNum 8 (pwMinus s) v) = _
    by_cases h : wv s < 18446744073709551616
    · rw [if_pos h, if_neg (by omega)]
      have hs : Nu.signedOf 8 = false := by decide
      show pwNum 8 (pwMinus s) (wv s) = _
      unfold pwNum
      rw [hs]
      cases hm : pwMinus s with
      | false => rw [if_neg (by simp), if_neg (by simp), if_neg (by simp)]; exact fit8 h
      | true =>
        rw [if_pos rfl]
        by_cases h0 : wv s = 0
        · rw [if_neg (by omega), if_pos h0, if_neg (by simp [h0]), h0]; exact fit8 (by omega)
        · rw [if_pos (show true = true ∧ wv s ≠ 0 from ⟨rfl, h0⟩)]
          split
          · rfl
          · first | rfl | (rw [if_neg h0, if_neg (by simp)]) | (rw [if_neg (by simp)])
    · rw [if_neg h, if_pos (by omega)]
/-- how many bits a number has -/
def bl (x : Nat) : Nat := if h : 0 < x then bl (x / 2) + 1 else 0
termination_by x
decreasing_by omega
theorem bl_pos {x : Nat} (h : 0 < x) : bl x = bl (x / 2) + 1 := by rw [bl, dif_pos h]
theorem bl_zero : bl 0 = 0 := by rw [bl, dif_neg (by omega)]
theorem bl_le : ∀ (k x : Nat), bl x ≤ k ↔ x < 2 ^ k
  | 0, x => by
    by_cases h : 0 < x
    · rw [bl_pos h]; constructor
      · omega
      · intro h2; simp at h2; omega
    · obtain rfl : x = 0 := by omega
      rw [bl_zero]; simp
  | k + 1, x => by
    by_cases h : 0 < x
    · rw [bl_pos h]
      have := bl_le k (x / 2)
      rw [Nat.pow_succ]
      omega
    · obtain rfl : x = 0 := by omega
      rw [bl_zero]
      have : 0 < 2 ^ (k + 1) := Nat.pow_pos (by decide)
      omega
theorem bits_64 {l : List Nat} (ho : okL l) (ht : trimd l) {i : Nat} (hi : i + 1 = l.length) (hx : l[i]'(by omega) ≠ 0) : 64 < 24 * i + bl (l[i]'(by omega)) ↔ 18446744073709551616 ≤ val l := by
  have hlt := okL_get ho (i := i) (by omega)
  have h1 := bl_le 24 (l[i]'(by omega))
  have h16 := bl_le 16 (l[i]'(by omega))
  have h0 := bl_le 0 (l[i]'(by omega))
  have hl : l = l.take i ++ [l[i]'(by omega)] := by
    have := List.take_append_drop i l
    rw [List.drop_eq_getElem_cons (by omega), List.drop_eq_nil_of_le (by omega)] at this
    exact this.symm
  have hv : val l = val (l.take i) + 16777216 ^ i * (l[i]'(by omega)) := by
    conv => lhs; rw [hl]
    rw [val_snoc, List.length_take, Nat.min_eq_left (by omega)]
  have hvt : val (l.take i) < 16777216 ^ i := by
    have := val_lt (okL_take ho i)
    rwa [List.length_take, Nat.min_eq_left (by omega)] at this
  generalize (l[i]'(by omega)) = x at *
  generalize val (l.take i) = r at *
  have e24 : (2 : Nat) ^ 24 = 16777216 := by decide
  have e16 : (2 : Nat) ^ 16 = 65536 := by decide
  have e0 : (2 : Nat) ^ 0 = 1 := by decide
  rw [e24] at h1
  rw [e16] at h16
  rw [e0] at h0
  rcases Nat.lt_or_ge i 3 with h3 | h3
  · have hc : i = 0 ∨ i = 1 ∨ i = 2 := by omega
    rcases hc with rfl | rfl | rfl
    · simp at hv hvt; omega
    · simp at hv hvt; omega
    · have e2 : (16777216 : Nat) ^ 2 = 281474976710656 := by decide
      rw [e2] at hv hvt
      omega
  · have hp : (16777216 : Nat) ^ 3 ≤ 16777216 ^ i := Nat.pow_le_pow_right (by decide) h3
    have e3 : (16777216 : Nat) ^ 3 = 4722366482869645213696 := by decide
    rw [e3] at hp
    have hm : 16777216 ^ i * 1 ≤ 16777216 ^ i * x := Nat.mul_le_mul_left _ (by omega)
    omega

/-! ### walks -/
theorem isHex3_any (s : ByteArray) (w : World) : Calls Tryz.prog 107 #[.string s] w fun e w' => e = .returned (.bool (isHexS s)) ∧ w = w' := by
  by_cases h2 : 2 ≤ s.size
  · have l0 : 0 < s.size := by omega
    have l1 : 1 < s.size := by omega
    have b0 := (gb_lt l0).symm
    have b1 := (gb_lt l1).symm
    have HE : Hid (isHexS s = (gb s 0 == 48 && (gb s 1 == 120 || gb s 1 == 88))) := by unfold Hid isHexS; simp [h2]
    go_enter Tryz.func107, Tryz.ntmps107
    go_wp2
    all_goals go_ret
    all_goals exact ⟨ret_bool (by rw [HE.out, Bool.eq_iff_iff]; simp; omega), rfl⟩
  · have HE : Hid (isHexS s = false) := by unfold Hid isHexS; simp [h2]
    go_enter Tryz.func107, Tryz.ntmps107
    go_wp2
    go_ret
    exact ⟨ret_bool HE.out.symm, rfl⟩


/-- the place behind a sign -/
def sgN (s : ByteArray) : Nat := if sgnS s then 1 else 0
theorem sgN_eq {s : ByteArray} {b : Bool} (h : sgnS s = b) : sgN s = if b then 1 else 0 := by unfold sgN; rw [h]
def enA (s : ByteArray) (k : Nat) : Nat := if k < s.size then 30 else 0
def enB (s : ByteArray) (k : Nat) : Nat := if k < s.size then k else 0
theorem signed3_any (s : ByteArray) (w : World) : Calls Tryz.prog 111 #[.string s] w fun e w' => e = .returned (.int .i64 (sgN s : Int)) ∧ w = w' := by
  by_cases h0 : 0 < s.size
  · have hb := (gb_lt h0).symm
    have HS : Hid (sgnS s = (gb s 0 == 45 || gb s 0 == 43)) := by unfold Hid sgnS; simp [h0]
    generalize gb s 0 = c at hb HS
    by_cases h45 : c = 45
    · have HR : Hid (sgnS s = true) := by unfold Hid; rw [HS.out, h45]; rfl
      subst h45
      go_enter Tryz.func111, Tryz.ntmps111
      go_wp2
      go_ret
      exact ⟨by rw [sgN_eq HR.out]; rfl, rfl⟩
    · have e45 : (((c : Nat) : Int) == 45) = false := by rw [beq_eq_false_iff_ne]; omega
      by_cases h43 : c = 43
      · have HR : Hid (sgnS s = true) := by unfold Hid; rw [HS.out, h43]; rfl
        subst h43
        go_enter Tryz.func111, Tryz.ntmps111
        go_wp2
        go_ret
        exact ⟨by rw [sgN_eq HR.out]; rfl, rfl⟩
      · have e43 : (((c : Nat) : Int) == 43) = false := by rw [beq_eq_false_iff_ne]; omega
        have HR : Hid (sgnS s = false) := by unfold Hid; rw [HS.out]; simp [h45, h43]
        clear h45 h43
        go_enter Tryz.func111, Tryz.ntmps111
        go_wp2
        go_ret
        exact ⟨by rw [sgN_eq HR.out]; rfl, rfl⟩
  · have HR : Hid (sgnS s = false) := by unfold Hid sgnS; simp [h0]
    go_enter Tryz.func111, Tryz.ntmps111
    go_wp2
    go_ret
    exact ⟨by rw [sgN_eq HR.out]; rfl, rfl⟩
theorem end3_any (s : ByteArray) (k : Nat) (w : World) : Calls Tryz.prog 109 #[.string s, .int .i64 k] w fun e w' => e = .returned (.tuple #[.int .i64 (enA s k : Int), .int .i64 (enB s k : Int)]) ∧ w = w' := by
  by_cases h : k < s.size
  · have e1 : enA s k = 30 := if_pos h
    have e2 : enB s k = k := if_pos h
    rw [e1, e2]
    clear e1 e2
    go_enter Tryz.func109, Tryz.ntmps109
    go_wp2
    go_ret2
    exact ⟨rfl, rfl⟩
  · have e1 : enA s k = 0 := if_neg h
    have e2 : enB s k = 0 := if_neg h
    rw [e1, e2]
    clear e1 e2
    go_enter Tryz.func109, Tryz.ntmps109
    go_wp2
    go_ret2
    exact ⟨rfl, rfl⟩
/-- where a whole number's text ends, and whether that is well -/
def wform (s : ByteArray) : Nat × Nat := if wend s = pwFrom s ∨ wend s < s.size then (30, wend s) else (0, 0)
theorem wholeForm3_any (s : ByteArray) (w : World) (hm : s.size ≤ 1048576) : Calls Tryz.prog 110 #[.string s] w fun e w' => e = .returned (.tuple #[.int .i64 ((wform s).1 : Int), .int .i64 ((wform s).2 : Int)]) ∧ w = w' := by
  have hfl := pwFrom_le s
  have hel : wend s ≤ s.size := Nu.digEnd_le s _ _ hfl
  have hge : pwFrom s ≤ wend s := Nu.digEnd_ge s _ _
  obtain ⟨F, hF⟩ : ∃ F, F = wform s := ⟨_, rfl⟩
  have HF : Hid (F = if wend s = pwFrom s ∨ wend s < s.size then (30, wend s) else (0, 0)) := by unfold Hid; rw [hF]; rfl
  rw [← hF]
  clear hF
  obtain ⟨f, hf⟩ : ∃ f, f = pwFrom s := ⟨_, rfl⟩
  obtain ⟨k, hk⟩ : ∃ k, k = wend s := ⟨_, rfl⟩
  rw [← hf, ← hk] at HF
  rw [← hf] at hfl hge
  rw [← hk] at hel hge
  have key : ∀ (b : Bool) (i1 : Nat), isHexS s = b → sgN s = i1 → f = (if b then 2 else i1) → Nu.digEnd s b f = k → Calls Tryz.prog 110 #[.string s] w fun e w' => e = .returned (.tuple #[.int .i64 (F.1 : Int), .int .i64 (F.2 : Int)]) ∧ w = w' := by
    intro b i1 hb hi hff hkk
    have HB : Hid (isHexS s = b) := hb
    have HI : Hid (sgN s = i1) := hi
    have HK : Hid (Nu.digEnd s b f = k) := hkk
    clear hb hi hkk hf hk
    cases b with
    | true =>
      obtain rfl : f = 2 := hff
      by_cases h1 : k = 2
      · have HR : Hid (F = (30, k)) := by unfold Hid; rw [HF.out, if_pos (.inl h1)]
        have e1 : (((k : Nat) : Int) == 2) = true := by simp; omega
        clear h1 HF
        go_enter Tryz.func110, Tryz.ntmps110
        go_wp2_with (first
          | (go_at_call 111; refine (signed3_any _ _).mono ?_; rintro e w' ⟨he, rfl⟩; rw [HI.out] at he; subst he)
          | (go_at_call 107; refine (isHex3_any _ _).mono ?_; rintro e w' ⟨he, rfl⟩; rw [HB.out] at he; subst he)
          | (go_at_call 49; refine (row3g_any s 2 true _ hm hfl).mono ?_; rintro e w' ⟨he, rfl⟩; rw [HK.out] at he; subst he))
        go_ret2
        exact ⟨by rw [HR.out]; rfl, rfl⟩
      · have HR : Hid (F = (enA s k, enB s k)) := by
          unfold Hid; rw [HF.out]
          by_cases h : k < s.size
          · unfold enA enB; rw [if_pos (.inr h), if_pos h, if_pos h]
          · unfold enA enB; rw [if_neg (by omega), if_neg h, if_neg h]
        have e1 : (((k : Nat) : Int) == 2) = false := by rw [beq_eq_false_iff_ne]; omega
        clear h1 HF
        go_enter Tryz.func110, Tryz.ntmps110
        go_wp2_with (first
          | (go_at_call 111; refine (signed3_any _ _).mono ?_; rintro e w' ⟨he, rfl⟩; rw [HI.out] at he; subst he)
          | (go_at_call 107; refine (isHex3_any _ _).mono ?_; rintro e w' ⟨he, rfl⟩; rw [HB.out] at he; subst he)
          | (go_at_call 49; refine (row3g_any s 2 true _ hm hfl).mono ?_; rintro e w' ⟨he, rfl⟩; rw [HK.out] at he; subst he)
          | (go_at_call 109; refine (end3_any s k _).mono ?_; rintro e w' ⟨he, rfl⟩; generalize enA s k = x1 at he HR; generalize enB s k = x2 at he HR; subst he))
        go_ret2
        exact ⟨by rw [HR.out]; rfl, rfl⟩
    | false =>
      obtain rfl : f = i1 := hff
      by_cases h1 : k = f
      · have HR : Hid (F = (30, k)) := by unfold Hid; rw [HF.out, if_pos (.inl h1)]
        have e1 : (((k : Nat) : Int) == ((f : Nat) : Int)) = true := by simp; omega
        clear h1 HF
        go_enter Tryz.func110, Tryz.ntmps110
        go_wp2_with (first
          | (go_at_call 111; refine (signed3_any _ _).mono ?_; rintro e w' ⟨he, rfl⟩; rw [HI.out] at he; subst he)
          | (go_at_call 107; refine (isHex3_any _ _).mono ?_; rintro e w' ⟨he, rfl⟩; rw [HB.out] at he; subst he)
          | (go_at_call 49; refine (row3g_any s f false _ hm hfl).mono ?_; rintro e w' ⟨he, rfl⟩; rw [HK.out] at he; subst he))
        go_ret2
        exact ⟨by rw [HR.out]; rfl, rfl⟩
      · have HR : Hid (F = (enA s k, enB s k)) := by
          unfold Hid; rw [HF.out]
          by_cases h : k < s.size
          · unfold enA enB; rw [if_pos (.inr h), if_pos h, if_pos h]
          · unfold enA enB; rw [if_neg (by omega), if_neg h, if_neg h]
        have e1 : (((k : Nat) : Int) == ((f : Nat) : Int)) = false := by rw [beq_eq_false_iff_ne]; omega
        clear h1 HF
        go_enter Tryz.func110, Tryz.ntmps110
        go_wp2_with (first
          | (go_at_call 111; refine (signed3_any _ _).mono ?_; rintro e w' ⟨he, rfl⟩; rw [HI.out] at he; subst he)
          | (go_at_call 107; refine (isHex3_any _ _).mono ?_; rintro e w' ⟨he, rfl⟩; rw [HB.out] at he; subst he)
          | (go_at_call 49; refine (row3g_any s f false _ hm hfl).mono ?_; rintro e w' ⟨he, rfl⟩; rw [HK.out] at he; subst he)
          | (go_at_call 109; refine (end3_any s k _).mono ?_; rintro e w' ⟨he, rfl⟩; generalize enA s k = x1 at he HR; generalize enB s k = x2 at he HR; subst he))
        go_ret2
        exact ⟨by rw [HR.out]; rfl, rfl⟩
  refine key (isHexS s) _ rfl rfl ?_ ?_
  · rw [hf]; unfold pwFrom; rfl
  · rw [hf, hk]; rfl
set_option maxHeartbeats 1600000 in
theorem bits3_any (v : Value) (l : List Nat) (w : World) (hm : l.length ≤ 1048576) (hv : Ints w v l) (ho : okL l) (ht : trimd l) :
    Calls Tryz.prog 112 #[v] w fun e w' => ∃ n : Nat, e = .returned (.int .i64 n) ∧ (64 < n ↔ 18446744073709551616 ≤ val l) ∧ w = w' := by
  obtain ⟨A, cap, rfl, h1, h2, h3⟩ := hv
  unfold maxLen at h2
  by_cases h0 : l.length = 0
  · have HR : Hid (val l = 0) := by unfold Hid; rw [List.eq_nil_of_length_eq_zero h0]; rfl
    have e0 : (((l.length : Nat) : Int) == 0) = true := by rw [h0]; rfl
    clear h3 h0 ho ht
    go_enter Tryz.func112, Tryz.ntmps112
    go_wp2
    go_ret
    exact ⟨0, rfl, by rw [HR.out]; omega, rfl⟩
  · obtain ⟨i, hi⟩ : ∃ i, i + 1 = l.length := ⟨l.length - 1, by omega⟩
    obtain ⟨g, rfl, hg, hc⟩ := h3 i (by omega)
    have hx : l[i]'(by omega) ≠ 0 := ht _ (by rw [List.getLast?_eq_getElem?, show l.length - 1 = i from by omega]; exact List.getElem?_eq_getElem _)
    have HB := bits_64 ho ht hi hx
    have hlt := okL_get ho (i := i) (by omega)
    have HBH : Hid (64 < 24 * i + bl (l[i]'(by omega)) ↔ 18446744073709551616 ≤ val l) := HB
    generalize (l[i]'(by omega)) = x at hc hx HBH hlt
    have hil : i ≤ 1048576 := by omega
    have hli : ((l.length : Nat) : Int) - 1 = (i : Int) := by omega
    have hicap : i < cap := by omega
    have e0 : (((l.length : Nat) : Int) == 0) = false := by rw [beq_eq_false_iff_ne]; omega
    have hil2 : i < l.length := by omega
    clear h3 h0 ho ht HB hx
    go_enter Tryz.func112, Tryz.ntmps112
    go_wp2
    go_loop [3, 4] (fun nv xv => ∃ y m : Nat, xv = .int .i64 y ∧ nv = .int .i64 m ∧ y ≤ 16777216 ∧ Hid (m + bl y = 24 * i + bl x) ∧ m + bl y ≤ 30000000) (fun _ xv => (intOf xv).toNat)
    case atStart => exact ⟨x, 24 * i, rfl, by go_num, by omega, rfl, by have := (bl_le 24 x).2 (by have : (2 : Nat) ^ 24 = 16777216 := by decide
                                                                                                   omega); omega⟩
    case round =>
      obtain ⟨y, m, rfl, rfl, hy, HY, hle⟩ := hrel
      by_cases hy0 : 0 < y
      · have HN : Hid (m + 1 + bl (y / 2) = 24 * i + bl x) := by unfold Hid; rw [← HY.out, bl_pos hy0]; omega
        have hn2 : m + 1 + bl (y / 2) ≤ 30000000 := by rw [bl_pos hy0] at hle; omega
        have hm30 : m ≤ 30000000 := by omega
        clear hle
        go_wp2
        go_round
        case rel => exact ⟨y / 2, m + 1, by go_num, by go_num, by omega, HN, hn2⟩
        case measure => simp [intOf]; omega
      · obtain rfl : y = 0 := by omega
        have HE : Hid (m = 24 * i + bl x) := by have := HY.out; rw [bl_zero] at this; exact this
        clear hle
        go_wp2
        go_ret
        exact ⟨m, rfl, by rw [HE.out]; exact HBH.out, rfl⟩
end Go.Proofs.YtijnbohjcmcfjaaGreatDoor.R3
