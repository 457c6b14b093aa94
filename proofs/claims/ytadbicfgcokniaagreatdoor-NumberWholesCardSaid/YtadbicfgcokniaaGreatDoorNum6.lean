/-
  Walk: the statement's own function.
-/
import Derived.Test.YtadbicfgcokniaaGreatDoorNum4
import Derived.Test.YtadbicfgcokniaaGreatDoorNum5
import Derived.Deep.DeepCutAuto
import Derived.Deep.CutBlock
namespace Go.Proofs.YtadbicfgcokniaaGreatDoor.Nu
open Go.RowKit Go.Proofs.YtadbicfgcokniaaGreatDoor.Kt Go.Proofs.YtadbicfgcokniaaGreatDoor.Lk
set_option linter.unusedSimpArgs false
set_option linter.unusedVariables false
set_option maxRecDepth 100000

theorem hx_extract (d : Nat) (h : d < 16) : (⟨#[48, 49, 50, 51, 52, 53, 54, 55, 56, 57, 97, 98, 99, 68, 69, 70]⟩ : ByteArray).extract d (d + 1) = hxS d := by
  have : ∀ q, q < 16 → (⟨#[48, 49, 50, 51, 52, 53, 54, 55, 56, 57, 97, 98, 99, 68, 69, 70]⟩ : ByteArray).extract q (q + 1) = hxS q := by decide
  exact this d h
/-- how many zeros the statement lays ahead -/
def zerosOf (z : Int) : Nat := if z < 0 ∨ 30 < z then 3 else z.toNat
theorem zerosOf_le (z : Int) : zerosOf z ≤ 30 := by unfold zerosOf; split <;> omega
/-- the text, and the word that it means -/
def textOf (b : Bool) (z n : Nat) : ByteArray := if b then (⟨#[45]⟩ : ByteArray) ++ (padS z ++ dgt n) else padS z ++ dgt n
def fW (c : Bool) (x : Nat) : Nat := if c then x else 0
def fC (c : Bool) : Nat := if c then 0 else 31
theorem fW_t (x : Nat) : fW true x = x := rfl
theorem fC_t : fC true = 0 := rfl
theorem fW_f (x : Nat) : fW false x = 0 := rfl
theorem fC_f : fC false = 31 := rfl
def wordSp (b : Bool) (n : Nat) : Nat := if b then (18446744073709551616 - n) % 18446744073709551616 else n

def emptyOf : Value → Nat
  | .string s => if s.size = 0 then 1 else 0
  | _ => 0
/-- the loop that writes hex: what it holds -/
def HexAt (n m : Nat) (acc : ByteArray) : Prop := (m = 0 ∧ 0 < acc.size ∧ acc = hexS n) ∨ (hexS n = hexS m ++ acc ∧ (0 < m ∨ acc.size = 0))
theorem HexAt.step {n m : Nat} {acc : ByteArray} (h : HexAt n m acc) (hg : 0 < m ∨ acc.size = 0) : HexAt n (m / 16) (hxS (m % 16) ++ acc) := by
  rcases h with ⟨h1, h2, h3⟩ | ⟨h1, h2⟩
  · omega
  · by_cases h16 : m < 16
    · left
      refine ⟨by omega, by rw [ByteArray.size_append]; show 0 < 1 + acc.size; omega, ?_⟩
      rw [h1, hexS_last h16, show m % 16 = m by omega]
    · right
      refine ⟨by rw [h1, hexS_more h16, ByteArray.append_assoc], by omega⟩
theorem HexAt.size {n m : Nat} {acc : ByteArray} (h : HexAt n m acc) (hn : n < 2 ^ 64) : acc.size ≤ 16 := by
  have := hexS_size n hn
  rcases h with ⟨h1, h2, h3⟩ | ⟨h1, h2⟩
  · rw [h3]; exact this
  · rw [h1, ByteArray.size_append] at this; omega
theorem HexAt.done {n m : Nat} {acc : ByteArray} (h : HexAt n m acc) (h1 : m = 0) (h2 : 0 < acc.size) : acc = hexS n := by
  rcases h with ⟨_, _, h3⟩ | ⟨_, h4⟩
  · exact h3
  · omega

set_option maxHeartbeats 3200000 in
theorem law_any (n : Nat) (hn : n < 2 ^ 64) (b : Bool) (z : Int) (w : World) (hSz : Sizes w) :
    Calls Tryz.prog 3 #[.int .u64 n, .bool b, .int .i64 z] w fun e w' => e = .returned (.bool true) ∧ Below w.heap.size w w' := by
  have HN : Hid (n < 2 ^ 64) := hn
  clear hn
  go_enter Tryz.func3, Tryz.ntmps3
  go_upto_region 1 with (fail)
  go_cut [25, 26, 27, 28, 29, 30] (fun a25 a26 a27 a28 a29 a30 wx => a30 = .bool (decide (z < 0 ∨ 30 < z)) ∧ Below w.heap.size w wx)
  case first => as_aux_lemma =>
    by_cases h1 : z < 0
    · go_wp2
      go_meet
      exact ⟨by simp [h1], Below.refl _ _⟩
    · go_wp2
      go_meet
      exact ⟨by simp; omega, Below.refl _ _⟩
  case rest =>
  obtain ⟨rfl, hB⟩ := hcut
  go_upto_if 30 with (fail)
  go_cut [2] (fun a2 wx => a2 = .int .i64 (zerosOf z) ∧ Below w.heap.size w wx)
  case first => as_aux_lemma =>
    by_cases h1 : z < 0 ∨ 30 < z
    · have e : zerosOf z = 3 := by unfold zerosOf; rw [if_pos h1]
      have d : decide (z < 0 ∨ 30 < z) = true := decide_eq_true h1
      rw [d]
      have E : Hid (zerosOf z = 3) := e
      clear h1 d e
      go_wp2
      go_meet
      exact ⟨by rw [E.out]; rfl, hB⟩
    · have e : ((zerosOf z : Nat) : Int) = z := by unfold zerosOf; rw [if_neg h1]; omega
      have d : decide (z < 0 ∨ 30 < z) = false := decide_eq_false h1
      rw [d]
      have E : Hid (((zerosOf z : Nat) : Int) = z) := e
      clear h1 d e
      go_wp2
      go_meet
      exact ⟨by rw [E.out], hB⟩
  case rest =>
  obtain ⟨rfl, hB⟩ := hcut
  have hzl := zerosOf_le z
  generalize zerosOf z = Z at hzl
  go_upto_block 0 with (fail)
  go_cut [7] (fun a7 wx => a7 = .string (padS Z) ∧ Below w.heap.size w wx)
  case first => as_aux_lemma =>
    go_wp2
    go_loopw [7, 8] (fun p i wx => ∃ k : Nat, i = .int .i64 k ∧ p = .string (padS k) ∧ k ≤ Z ∧ Below w.heap.size w wx) (fun _ i _ => Z - (intOf i).toNat)
    case atStart => exact ⟨0, rfl, rfl, Nat.zero_le _, hB⟩
    case round =>
      obtain ⟨k, rfl, rfl, hk, hB2⟩ := hrel
      have hs : (padS k).size = k := padS_size k
      have hc : (padS k).size + (⟨#[48]⟩ : ByteArray).size ≤ 1000 := by rw [hs]; show k + 1 ≤ 1000; omega
      by_cases hlt : k < Z
      · have HL : Hid (k < Z) := hlt
        go_wp2
        go_roundw
        case rel => exact ⟨k + 1, by simp, by rw [padS_succ], by omega, hB2⟩
        case measure => simp [intOf]; omega
      · have HE : Hid (k = Z) := by unfold Hid; omega
        clear hc hs
        go_wp2
        go_meet
        exact ⟨by rw [HE.out], hB2⟩
  case rest =>
  obtain ⟨rfl, hB⟩ := hcut
  go_upto_block 2 with (fail)
  go_cut [9] (fun a9 wx => a9 = .string (hexS n) ∧ Below w.heap.size w wx)
  case first => as_aux_lemma =>
    go_wp2
    go_loopw [9, 10] (fun p i wx => ∃ (m : Nat) (acc : ByteArray), i = .int .u64 m ∧ p = .string acc ∧ m < 2 ^ 64 ∧ HexAt n m acc ∧ Below w.heap.size w wx) (fun p i _ => (intOf i).toNat + emptyOf p)
    case atStart => exact ⟨n, ⟨#[]⟩, rfl, rfl, HN.out, Or.inr ⟨ByteArray.append_empty.symm, Or.inr rfl⟩, hB⟩
    case round =>
      obtain ⟨m, acc, rfl, rfl, hm, hx, hB2⟩ := hrel
      have HX : Hid (HexAt n m acc) := hx
      have hs16 : acc.size ≤ 16 := hx.size HN.out
      clear hx
      by_cases hm0 : 0 < m
      · have HM : Hid (0 < m) := hm0
        have d1 : decide (m > 0) = true := by simpa using hm0
        have w1 : IntKind.u64.wrap ((m : Int) % 16 + 1) = (m : Int) % 16 + 1 := by rw [IntKind.wrap_u64]; omega
        have w2 : IntKind.u64.wrap ((m : Int) / 16) = (m : Int) / 16 := by rw [IntKind.wrap_u64]; omega
        have HM2 : Hid (m < 2 ^ 64) := hm
        clear hm hm0
        go_wp2
        go_roundw
        case rel => exact ⟨m / 16, _, by simp, rfl, (by have := HM2.out; omega), (by rw [hx_extract _ (by omega)]; exact HX.out.step (Or.inl HM.out)), hB2⟩
        case measure =>
          have e : emptyOf (.string ((⟨#[48, 49, 50, 51, 52, 53, 54, 55, 56, 57, 97, 98, 99, 68, 69, 70]⟩ : ByteArray).extract (m % 16) (m % 16 + 1) ++ acc)) = 0 := by
            rw [hx_extract _ (by omega)]
            have hne : ¬ (hxS (m % 16) ++ acc).size = 0 := by rw [ByteArray.size_append]; show ¬ 1 + acc.size = 0; omega
            show (if (hxS (m % 16) ++ acc).size = 0 then 1 else 0) = 0
            exact if_neg hne
          have := HM.out
          rw [e]; simp [intOf]; omega
      · obtain rfl : m = 0 := by omega
        by_cases he : acc.size = 0
        · obtain rfl := empty_of_size he
          clear he hm hm0 hs16
          go_wp2
          go_roundw
          case rel => exact ⟨0, _, rfl, rfl, by decide, HX.out.step (Or.inr rfl), hB2⟩
          case measure => decide
        · have ie := isEmpty_false he
          have HE : Hid (0 < acc.size) := by unfold Hid; omega
          clear he hm hm0 hs16
          go_wp2
          go_meet
          exact ⟨by rw [HX.out.done rfl HE.out], hB2⟩
  case rest =>
  obtain ⟨rfl, hB⟩ := hcut
  have hs1 : (padS Z).size = Z := padS_size Z
  have hs2 : (dgt n).size ≤ 20 := dgt_size n HN.out
  have hc2 : (padS Z).size + (dgt n).size ≤ 1000 := by omega
  go_upto_region 14 with (go_at_call 4; refine (decimal_any n HN.out _).mono ?_; rintro e w1 ⟨rfl, b1⟩)
  replace hB := hB.trans (b1.mono hB.size)
  clear b1
  go_upto_region 15 with (fail)
  go_cut [60] (fun a60 wx => a60 = .bool b ∧ Below w.heap.size w wx)
  case first => as_aux_lemma =>
    go_wp2
    go_meet
    exact ⟨rfl, hB⟩
  case rest =>
  clear hB
  obtain ⟨rfl, hB⟩ := hcut
  go_upto_if 60 with (fail)
  go_cut [11, 12] (fun a11 a12 wx => a11 = .string (textOf b Z n) ∧ a12 = .int .u64 (wordSp b n) ∧ Below w.heap.size w wx)
  case first => as_aux_lemma =>
    cases b with
    | true =>
      have hc3 : (⟨#[45]⟩ : ByteArray).size + (padS Z ++ dgt n).size ≤ 1000 := by rw [ByteArray.size_append]; show 1 + _ ≤ 1000; omega
      have w0 : IntKind.u64.wrap (0 - (n : Int)) = ((wordSp true n : Nat) : Int) := by have := HN.out; unfold wordSp; rw [IntKind.wrap_u64, if_pos rfl]; omega
      have w00 : IntKind.u64.wrap (-(n : Int)) = ((wordSp true n : Nat) : Int) := by have := HN.out; unfold wordSp; rw [IntKind.wrap_u64, if_pos rfl]; omega
      go_wp2
      go_meet
      exact ⟨rfl, rfl, hB⟩
    | false =>
      go_wp2
      go_meet
      exact ⟨rfl, rfl, hB⟩
  case rest =>
  clear hB
  obtain ⟨rfl, rfl, hB⟩ := hcut
  go_upto_region 18 with (fail)
  go_upto_block 4 with (fail)
  go_wp2
  go_loopw [13] (fun i wx => ∃ k : Nat, i = .int .i64 k ∧ 1 ≤ k ∧ k ≤ 9 ∧ Below w.heap.size w wx) (fun i _ => 9 - (intOf i).toNat)
  case atStart => exact ⟨1, rfl, by decide, by decide, hB⟩
  case round =>
    clear hB
    obtain ⟨k, rfl, hk1, hk9, hB⟩ := hrel
    by_cases hk8 : k ≤ 8
    · have hk : isInt k := ⟨hk1, hk8⟩
      have HK : Hid (isInt k) := hk
      go_upto_block 5 with (fail)
      go_cut [] (fun wx => Below w.heap.size w wx)
      case first => as_aux_lemma =>
        have HTT : Hid (pwOf k (textOf b Z n) = if fitsSpec k b n then (wordSp b n, 0, 0) else (0, 31, 0)) := by
          unfold Hid textOf wordSp
          cases b with
          | true => exact pw_text_below k hk Z n HN.out
          | false => exact pw_text k hk Z n HN.out
        have HTH : Hid (pwOf k ((⟨#[48, 120]⟩ : ByteArray) ++ (padS Z ++ hexS n)) = if plainSpec k n then (n, 0, 0) else (0, 31, 0)) := pw_text_hex k hk Z n HN.out
        have HS1 : Hid ((textOf b Z n).size ≤ 1000) := by
          unfold Hid textOf; split
          · rw [ByteArray.size_append, ByteArray.size_append]; show 1 + _ ≤ 1000; omega
          · rw [ByteArray.size_append]; omega
        go_upto_region 23 with (go_at_call 5; refine (width_any k hk _).mono ?_; rintro e w1 ⟨rfl, rfl⟩)
        go_cut [73, 74, 75, 16] (fun a73 a74 a75 a16 wx => a16 = .int .u64 (topOf k) ∧ Below w.heap.size w wx)
        case first => as_aux_lemma =>
          clear hk HTT HTH HS1
          rcases Nat.lt_or_ge k 2 with hk' | _
          · obtain rfl : k = 1 := by omega
            have e : widthOf 1 = 8 := rfl
            rw [e]
            go_wp2
            go_meet
            exact ⟨rfl, hB⟩
          rcases Nat.lt_or_ge k 3 with hk' | _
          · obtain rfl : k = 2 := by omega
            have e : widthOf 2 = 16 := rfl
            rw [e]
            go_wp2
            go_meet
            exact ⟨rfl, hB⟩
          rcases Nat.lt_or_ge k 4 with hk' | _
          · obtain rfl : k = 3 := by omega
            have e : widthOf 3 = 32 := rfl
            rw [e]
            go_wp2
            go_meet
            exact ⟨rfl, hB⟩
          rcases Nat.lt_or_ge k 5 with hk' | _
          · obtain rfl : k = 4 := by omega
            have e : widthOf 4 = 64 := rfl
            rw [e]
            go_wp2
            go_meet
            exact ⟨rfl, hB⟩
          rcases Nat.lt_or_ge k 6 with hk' | _
          · obtain rfl : k = 5 := by omega
            have e : widthOf 5 = 8 := rfl
            rw [e]
            go_wp2
            go_meet
            exact ⟨rfl, hB⟩
          rcases Nat.lt_or_ge k 7 with hk' | _
          · obtain rfl : k = 6 := by omega
            have e : widthOf 6 = 16 := rfl
            rw [e]
            go_wp2
            go_meet
            exact ⟨rfl, hB⟩
          rcases Nat.lt_or_ge k 8 with hk' | _
          · obtain rfl : k = 7 := by omega
            have e : widthOf 7 = 32 := rfl
            rw [e]
            go_wp2
            go_meet
            exact ⟨rfl, hB⟩
          obtain rfl : k = 8 := by omega
          have e : widthOf 8 = 64 := rfl
          rw [e]
          go_wp2
          go_meet
          exact ⟨rfl, hB⟩
        case rest =>
        clear hB
        obtain ⟨rfl, hB⟩ := hcut
        have ht := topOf_le k hk
        obtain ⟨T, hT⟩ : ∃ T, topOf k = T := ⟨_, rfl⟩
        rw [hT] at ht ⊢
        have HTE : Hid (topOf k = T) := hT
        have w1 : IntKind.u64.wrap ((T : Int) - 1) = (T : Int) - 1 := by rw [IntKind.wrap_u64]; omega
        have w2 : IntKind.u64.wrap ((T : Int) - 1 + (T : Int)) = (T : Int) - 1 + (T : Int) := by rw [IntKind.wrap_u64]; omega
        clear hT
        go_upto_if 82 with (fail)
        go_cut [83, 84, 85, 86, 87, 88, 89, 90, 91, 92, 93, 94, 95, 96, 17] (fun a83 a84 a85 a86 a87 a88 a89 a90 a91 a92 a93 a94 a95 a96 a17 wx => a17 = .bool (fitsSpec k b n) ∧ Below w.heap.size w wx)
        case first => as_aux_lemma =>
          clear w1 w2
          by_cases h4 : k ≤ 4
          · by_cases h1 : n < T
            · have HE : Hid (fitsSpec k b n = true) := by unfold Hid fitsSpec; rw [HTE.out]; simp [h4, h1]
              go_wp2
              go_meet
              exact ⟨by rw [HE.out], hB⟩
            · cases b with
              | false =>
                have HE : Hid (fitsSpec k false n = false) := by unfold Hid fitsSpec; rw [HTE.out]; simp [h4, h1] <;> omega
                go_wp2
                go_meet
                exact ⟨by rw [HE.out], hB⟩
              | true =>
                have HE : Hid (fitsSpec k true n = (n == T)) := by unfold Hid fitsSpec; rw [HTE.out]; simp [h4, h1]
                go_wp2
                go_meet
                exact ⟨by rw [HE.out]; exact congrArg Value.bool (by rw [Bool.eq_iff_iff]; simp <;> omega), hB⟩
          · cases b with
            | false =>
              have HE : Hid (fitsSpec k false n = decide (n ≤ T - 1 + T)) := by unfold Hid fitsSpec; rw [HTE.out]; simp [h4]
              go_wp2
              go_meet
              exact ⟨by rw [HE.out]; exact congrArg Value.bool (by rw [Bool.eq_iff_iff]; simp <;> omega), hB⟩
            | true =>
              have HE : Hid (fitsSpec k true n = (n == 0)) := by unfold Hid fitsSpec; rw [HTE.out]; simp [h4]
              go_wp2
              go_meet
              exact ⟨by rw [HE.out]; exact congrArg Value.bool (by rw [Bool.eq_iff_iff]; simp <;> omega), hB⟩
        case rest =>
        clear hB
        obtain ⟨rfl, hB⟩ := hcut
        go_upto_region 29 with (fail)
        go_cut [98, 99, 100, 97, 101, 102, 103, 18, 19, 20] (fun a98 a99 a100 a97 a101 a102 a103 a18 a19 a20 wx => a18 = .int .u64 ((fW (fitsSpec k b n) (wordSp b n) : Nat) : Int) ∧ a19 = .int .i64 ((fC (fitsSpec k b n) : Nat) : Int) ∧ a20 = .int .i64 0 ∧ Below w.heap.size w wx)
        case first => as_aux_lemma =>
          clear w1 w2
          go_wp2_with (go_at_call 6; fail)
          refine (parse_any k HK.out _ _ (hSz.below hB) (by have := HS1.out; omega)).mono ?_
          rintro e w3 ⟨rfl, b3⟩
          replace hB := hB.trans (b3.mono hB.size)
          clear b3
          rw [HTT.out]
          rcases Bool.eq_false_or_eq_true (fitsSpec k b n) with hf | hf
          · have HF : Hid (fitsSpec k b n = true) := hf
            rw [if_pos hf]
            clear hf
            unfold pwV
            go_wp2
            go_meet
            exact ⟨by rw [HF.out]; rfl, by rw [HF.out]; rfl, rfl, hB⟩
          · have HF : Hid (fitsSpec k b n = false) := hf
            rw [if_neg (by rw [hf]; simp)]
            clear hf
            unfold pwV
            go_wp2
            go_meet
            exact ⟨by rw [HF.out]; rfl, by rw [HF.out]; rfl, rfl, hB⟩
        case rest =>
        clear hB
        obtain ⟨rfl, rfl, rfl, hB⟩ := hcut
        go_upto_region 30 with (fail)
        go_cut [104, 105, 106, 107, 108, 109, 110, 111, 112, 113, 114, 115, 116, 117, 17, 18, 19] (fun a104 a105 a106 a107 a108 a109 a110 a111 a112 a113 a114 a115 a116 a117 a17 a18 a19 wx => a17 = .bool (fitsSpec k b n) ∧ a18 = .int .u64 ((fW (fitsSpec k b n) (wordSp b n) : Nat) : Int) ∧ a19 = .int .i64 ((fC (fitsSpec k b n) : Nat) : Int) ∧ a117 = .bool false ∧ Below w.heap.size w wx)
        case first => as_aux_lemma =>
          clear w1 w2
          rcases Bool.eq_false_or_eq_true (fitsSpec k b n) with hf | hf
          · have e1 : fW (fitsSpec k b n) (wordSp b n) = wordSp b n := by rw [hf]; rfl
            have e2 : fC (fitsSpec k b n) = 0 := by rw [hf]; rfl
            go_wp2
            go_meet
            exact ⟨by rw [hf], by first | (rw [hf]; done) | (rw [hf]; rfl), by first | (rw [hf]; done) | (rw [hf]; rfl), rfl, hB⟩
          · have e1 : fW (fitsSpec k b n) (wordSp b n) = 0 := by rw [hf]; rfl
            have e2 : fC (fitsSpec k b n) = 31 := by rw [hf]; rfl
            go_wp2
            go_meet
            exact ⟨by rw [hf], by first | (rw [hf]; done) | (rw [hf]; rfl), by first | (rw [hf]; done) | (rw [hf]; rfl), rfl, hB⟩
        case rest =>
        clear hB
        obtain ⟨rfl, rfl, rfl, rfl, hB⟩ := hcut
        go_upto_region 32 with (fail)
        go_cut [118, 119, 120, 121, 122, 123, 124, 125, 126, 127, 128, 129, 130, 131, 17, 18, 19] (fun a118 a119 a120 a121 a122 a123 a124 a125 a126 a127 a128 a129 a130 a131 a17 a18 a19 wx => a17 = .bool (fitsSpec k b n) ∧ a18 = .int .u64 ((fW (fitsSpec k b n) (wordSp b n) : Nat) : Int) ∧ a19 = .int .i64 ((fC (fitsSpec k b n) : Nat) : Int) ∧ a131 = .bool false ∧ Below w.heap.size w wx)
        case first => as_aux_lemma =>
          clear w1 w2
          rcases Bool.eq_false_or_eq_true (fitsSpec k b n) with hf | hf
          · have e1 : fW (fitsSpec k b n) (wordSp b n) = wordSp b n := by rw [hf]; rfl
            have e2 : fC (fitsSpec k b n) = 0 := by rw [hf]; rfl
            go_wp2
            go_meet
            exact ⟨by rw [hf], by first | (rw [hf]; done) | (rw [hf]; rfl), by first | (rw [hf]; done) | (rw [hf]; rfl), rfl, hB⟩
          · have e1 : fW (fitsSpec k b n) (wordSp b n) = 0 := by rw [hf]; rfl
            have e2 : fC (fitsSpec k b n) = 31 := by rw [hf]; rfl
            go_wp2
            go_meet
            exact ⟨by rw [hf], by first | (rw [hf]; done) | (rw [hf]; rfl), by first | (rw [hf]; done) | (rw [hf]; rfl), rfl, hB⟩
        case rest =>
        clear hB
        obtain ⟨rfl, rfl, rfl, rfl, hB⟩ := hcut
        go_upto_region 34 with (fail)
        go_cut [14, 132, 133, 134, 135, 136, 137, 138, 139, 140, 141, 142, 143, 144, 145, 146, 21] (fun a14 a132 a133 a134 a135 a136 a137 a138 a139 a140 a141 a142 a143 a144 a145 a146 a21 wx => a14 = .bool (decide (k ≤ 4)) ∧ a21 = .bool (plainSpec k n) ∧ Below w.heap.size w wx)
        case first => as_aux_lemma =>
          by_cases h3 : n ≤ T - 1 + T
          · have d3 : decide ((n : Int) ≤ (T : Int) - 1 + (T : Int)) = true := by simp; omega
            by_cases h4 : k ≤ 4
            · have HE : Hid (plainSpec k n = decide (n < T)) := by unfold Hid plainSpec; rw [HTE.out]; simp [h4, h3]
              clear h3
              go_wp2
              go_meet
              exact ⟨by first | rfl | (simp; done) | (simp; omega) | (simp [*]; done) | (exact congrArg Value.bool (by rw [Bool.eq_iff_iff]; simp; omega)), by rw [HE.out], hB⟩
            · have HE : Hid (plainSpec k n = true) := by unfold Hid plainSpec; rw [HTE.out]; simp [h4, h3]
              clear h3
              go_wp2
              go_meet
              exact ⟨by first | rfl | (simp; done) | (simp; omega) | (simp [*]; done) | (exact congrArg Value.bool (by rw [Bool.eq_iff_iff]; simp; omega)), by rw [HE.out], hB⟩
          · have d3 : decide ((n : Int) ≤ (T : Int) - 1 + (T : Int)) = false := by simp; omega
            have HE : Hid (plainSpec k n = false) := by unfold Hid plainSpec; rw [HTE.out]; simp [h3]
            clear h3
            go_wp2
            go_meet
            exact ⟨by first | rfl | (simp; done) | (simp; omega) | (simp [*]; done) | (exact congrArg Value.bool (by rw [Bool.eq_iff_iff]; simp; omega)), by rw [HE.out], hB⟩
        case rest =>
        clear hB
        obtain ⟨rfl, rfl, hB⟩ := hcut
        go_upto_region 35 with (fail)
        go_cut [148, 149, 150, 151, 152, 153, 147, 154, 155, 156, 22, 23, 24] (fun a148 a149 a150 a151 a152 a153 a147 a154 a155 a156 a22 a23 a24 wx => a22 = .int .u64 ((fW (plainSpec k n) n : Nat) : Int) ∧ a23 = .int .i64 ((fC (plainSpec k n) : Nat) : Int) ∧ Below w.heap.size w wx)
        case first => as_aux_lemma =>
          clear w1 w2
          have hs3 : (hexS n).size ≤ 16 := hexS_size n HN.out
          have hc4 : (⟨#[48, 120]⟩ : ByteArray).size + (padS Z).size ≤ 1000 := by show 2 + _ ≤ 1000; omega
          have hc5 : ((⟨#[48, 120]⟩ : ByteArray) ++ padS Z).size + (hexS n).size ≤ 1000 := by rw [ByteArray.size_append]; show 2 + _ + _ ≤ 1000; omega
          have HS2 : Hid (((⟨#[48, 120]⟩ : ByteArray) ++ (padS Z ++ hexS n)).size ≤ 1000) := by unfold Hid; rw [← ByteArray.append_assoc, ByteArray.size_append]; omega
          go_wp2_with (go_at_call 6; fail)
          rw [ByteArray.append_assoc]
          refine (parse_any k HK.out _ _ (hSz.below hB) (by have := HS2.out; omega)).mono ?_
          rintro e w3 ⟨rfl, b3⟩
          replace hB := hB.trans (b3.mono hB.size)
          clear b3
          rw [HTH.out]
          rcases Bool.eq_false_or_eq_true (plainSpec k n) with hf | hf
          · have HF : Hid (plainSpec k n = true) := hf
            rw [if_pos hf]
            clear hf
            unfold pwV
            go_wp2
            go_meet
            exact ⟨by rw [HF.out]; rfl, by rw [HF.out]; rfl, hB⟩
          · have HF : Hid (plainSpec k n = false) := hf
            rw [if_neg (by rw [hf]; simp)]
            clear hf
            unfold pwV
            go_wp2
            go_meet
            exact ⟨by rw [HF.out]; rfl, by rw [HF.out]; rfl, hB⟩
        case rest =>
        clear hB
        obtain ⟨rfl, rfl, hB⟩ := hcut
        go_upto_region 36 with (fail)
        cases plainSpec k n with
        | true =>
          rw [fW_t, fC_t]
          go_wp2
          go_meet
          exact hB
        | false =>
          rw [fW_f, fC_f]
          go_wp2
          go_meet
          exact hB
      case rest =>
        clear hB
        go_wp2
        go_roundw
        case rel => exact ⟨k + 1, by simp, by omega, by omega, hcut⟩
        case measure => simp [intOf]; omega
    · have HK : Hid (¬ k ≤ 8) := hk8
      go_wp2
      go_ret
      exact ⟨rfl, hB⟩
end Go.Proofs.YtadbicfgcokniaaGreatDoor.Nu
