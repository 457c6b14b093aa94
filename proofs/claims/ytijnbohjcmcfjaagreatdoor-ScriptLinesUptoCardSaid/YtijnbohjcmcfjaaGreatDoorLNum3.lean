/-
  Walks: package number's reader of whole numbers, whole.
-/
import Derived.Test.YtijnbohjcmcfjaaGreatDoorLNum0
namespace Go.Proofs.YtijnbohjcmcfjaaGreatDoor.Nu
open Go.RowKit Go.Proofs.YtijnbohjcmcfjaaGreatDoor.Kt Go.Proofs.YtijnbohjcmcfjaaGreatDoor.Lk
set_option linter.unusedSimpArgs false
set_option linter.unusedVariables false
set_option maxRecDepth 100000

def sgnS (s : ByteArray) : Bool := decide (0 < s.size) && (gb s 0 == 45 || gb s 0 == 43)
def pwFrom (s : ByteArray) : Nat := if isHexS s then 2 else if sgnS s then 1 else 0
def pwBase (s : ByteArray) : Nat := if isHexS s then 16 else 10
def pwMinus (s : ByteArray) : Bool := !isHexS s && (sgnS s && gb s 0 == 45)
def pwFit (p w : Nat) : Nat × Nat × Nat := if fitsOf p w then (w, 0, 0) else (0, 31, 0)
/-- what a number with its sign is -/
def pwNum (p : Nat) (m : Bool) (v : Nat) : Nat × Nat × Nat :=
  if m then (if 9223372036854775808 < v then (0, 31, 0) else if v = 0 then pwFit p 0 else if signedOf p then pwFit p (18446744073709551616 - v) else (0, 31, 0))
  else if signedOf p && decide (9223372036854775807 < v) then (0, 31, 0) else pwFit p v
/-- what a text says -/
def pwOf (p : Nat) (s : ByteArray) : Nat × Nat × Nat :=
  if digEnd s (isHexS s) (pwFrom s) = pwFrom s ∨ digEnd s (isHexS s) (pwFrom s) < s.size then (0, 30, digEnd s (isHexS s) (pwFrom s))
  else match magN (s.extract (pwFrom s) s.size) (pwBase s) 0 0 with
    | none => (0, 31, 0)
    | some v => pwNum p (pwMinus s) v
def pwV (x : Nat × Nat × Nat) : Value := .tuple #[.int .u64 x.1, .int .i64 x.2.1, .int .i64 x.2.2]

theorem digEnd_le (s : ByteArray) (hex : Bool) (k : Nat) (hk : k ≤ s.size) : digEnd s hex k ≤ s.size := by
  rw [digEnd]; split
  · rename_i h; exact digEnd_le s hex (k + 1) (by omega)
  · exact hk
termination_by s.size - k
theorem digEnd_ge (s : ByteArray) (hex : Bool) (k : Nat) : k ≤ digEnd s hex k := by
  rw [digEnd]; split
  · rename_i h; exact Nat.le_trans (Nat.le_succ k) (digEnd_ge s hex (k + 1))
  · exact Nat.le_refl _
termination_by s.size - k
theorem digEnd_all (s : ByteArray) (hex : Bool) (k : Nat) : ∀ j, k ≤ j → j < digEnd s hex k → digAt s hex j = true := by
  intro j hj hlt
  rw [digEnd] at hlt
  split at hlt
  · rename_i h
    rcases Nat.lt_or_ge k j with hkj | hkj
    · exact digEnd_all s hex (k + 1) j hkj hlt
    · obtain rfl : j = k := by omega
      exact h.2
  · omega
termination_by s.size - k
theorem worth_of_digAt {s : ByteArray} {hex : Bool} {k : Nat} (h : digAt s hex k = true) : 0 ≤ worthI (gb s k) := by
  unfold digAt at h
  cases hd : isDig (gb s k) with
  | true =>
    have : 48 ≤ gb s k ∧ gb s k ≤ 57 := by simpa [isDig] using hd
    unfold worthI; rw [hd]; simp; omega
  | false => rw [hd] at h; simp at h; exact h.2
theorem gb_extract (s : ByteArray) (a k : Nat) (hk : a + k < s.size) : gb (s.extract a s.size) k = gb s (a + k) := by
  have h1 : k < (s.extract a s.size).size := by rw [ByteArray.size_extract]; omega
  rw [gb_lt h1, gb_lt hk]
  rw [ByteArray.getElem_extract]
theorem pwFrom_le (s : ByteArray) : pwFrom s ≤ s.size := by
  unfold pwFrom isHexS sgnS
  split
  · rename_i h; simp at h; omega
  · split
    · rename_i h; simp at h; omega
    · omega

theorem magN_lt (s : ByteArray) (b : Nat) (hb : b = 10 ∨ b = 16) (k v : Nat) (hv : v < 2 ^ 64) {r : Nat} (h : magN s b k v = some r) : r < 2 ^ 64 := by
  rw [magN] at h
  split at h
  · rename_i hk
    split at h
    · cases h
    · rename_i hq
      refine magN_lt s b hb (k + 1) _ ?_ h
      have h1 : v * b ≤ (18446744073709551615 - (worthI (gb s k)).toNat) / b * b := Nat.mul_le_mul_right _ (by omega)
      have h2 := Nat.div_mul_le_self (18446744073709551615 - (worthI (gb s k)).toNat) b
      have := worthI_lt (gb s k)
      omega
  · cases h; exact hv
termination_by s.size - k
theorem pw_hex {s : ByteArray} (h : isHexS s = true) : pwFrom s = 2 ∧ pwBase s = 16 ∧ pwMinus s = false := by simp [pwFrom, pwBase, pwMinus, h]
theorem pw_plain {s : ByteArray} (h : isHexS s = false) (h0 : sgnS s = false) : pwFrom s = 0 ∧ pwBase s = 10 ∧ pwMinus s = false := by simp [pwFrom, pwBase, pwMinus, h, h0]
theorem pw_sign {s : ByteArray} (h : isHexS s = false) (h0 : sgnS s = true) : pwFrom s = 1 ∧ pwBase s = 10 ∧ pwMinus s = (gb s 0 == 45) := by simp [pwFrom, pwBase, pwMinus, h, h0]
theorem sgnS_empty : sgnS ⟨#[]⟩ = false := by decide

set_option maxHeartbeats 1600000 in
theorem parseWhole_any (p : Nat) (hp : isInt p) (s : ByteArray) (w : World) (h : Sizes w) (hm : s.size ≤ 1099511627776) :
    Calls Tryz.prog 99 #[.int .i64 p, .string s] w fun e w' => e = .returned (pwV (pwOf p s)) ∧ Below w.heap.size w w' := by
  go_enter Tryz.func99, Tryz.ntmps99
  go_upto_block 0 with (fail)
  go_cut [7, 8, 9] (fun f b m wx => f = .int .i64 (pwFrom s) ∧ b = .int .u64 (pwBase s) ∧ m = .bool (pwMinus s) ∧ ∃ n, wx = w.drewN n)
  case first =>
    cases hh : isHexS s with
    | true =>
      have HH : Hid (isHexS s = true) := hh
      clear hh
      go_wp2_with (go_at_call 133; refine (isHex_any _ _).mono ?_; rintro e w' ⟨he, rfl⟩; rw [HH.out] at he; subst he)
      go_meet
      obtain ⟨e1, e2, e3⟩ := pw_hex HH.out
      exact ⟨by rw [e1]; rfl, by rw [e2]; rfl, by rw [e3], 0, rfl⟩
    | false =>
      have HH : Hid (isHexS s = false) := hh
      clear hh
      by_cases h0 : s.size = 0
      · obtain rfl := empty_of_size h0
        go_wp2_with (go_at_call 133; refine (isHex_any _ _).mono ?_; rintro e w' ⟨he, rfl⟩; rw [HH.out] at he; subst he)
        go_meet
        obtain ⟨e1, e2, e3⟩ := pw_plain HH.out sgnS_empty
        exact ⟨by rw [e1]; rfl, by rw [e2]; rfl, by rw [e3], 0, rfl⟩
      · have l0 : 0 < s.size := by omega
        have b0 := (gb_lt l0).symm
        have ie := isEmpty_false h0
        clear h0
        by_cases h45 : gb s 0 = 45
        · have HE : Hid (gb s 0 = 45) := h45
          have LE : Hid (0 < s.size) := l0
          have HS : Hid (sgnS s = true) := by unfold Hid sgnS; simp [h45, l0]
          rw [h45] at b0
          clear h45
          go_wp2_with (go_at_call 133; refine (isHex_any _ _).mono ?_; rintro e w' ⟨he, rfl⟩; rw [HH.out] at he; subst he)
          go_quiet (fail)
          go_wp2
          go_meet
          obtain ⟨e1, e2, e3⟩ := pw_sign HH.out HS.out
          exact ⟨by rw [e1]; rfl, by rw [e2]; rfl, by rw [e3, HE.out]; rfl, _, rfl⟩
        · by_cases h43 : gb s 0 = 43
          · have HE : Hid (gb s 0 = 43) := h43
            have LE : Hid (0 < s.size) := l0
            have HS : Hid (sgnS s = true) := by unfold Hid sgnS; simp [h43, l0]
            rw [h43] at b0
            clear h45 h43
            go_wp2_with (go_at_call 133; refine (isHex_any _ _).mono ?_; rintro e w' ⟨he, rfl⟩; rw [HH.out] at he; subst he)
            go_quiet (fail)
            go_wp2
            go_meet
            obtain ⟨e1, e2, e3⟩ := pw_sign HH.out HS.out
            exact ⟨by rw [e1]; rfl, by rw [e2]; rfl, by rw [e3, HE.out]; rfl, _, rfl⟩
          · have LE : Hid (0 < s.size) := l0
            have HS : Hid (sgnS s = false) := by unfold Hid sgnS; simp [h43, h45]
            have d1 : (((gb s 0 : Nat) : Int) == 45) = false := by simp; omega
            have d2 : (((gb s 0 : Nat) : Int) == 43) = false := by simp; omega
            clear h45 h43
            go_wp2_with (go_at_call 133; refine (isHex_any _ _).mono ?_; rintro e w' ⟨he, rfl⟩; rw [HH.out] at he; subst he)
            go_meet
            obtain ⟨e1, e2, e3⟩ := pw_plain HH.out HS.out
            exact ⟨by rw [e1]; rfl, by rw [e2]; rfl, by rw [e3], 0, rfl⟩
  case rest =>
    obtain ⟨rfl, rfl, rfl, n, rfl⟩ := hcut
    obtain ⟨f, hf⟩ : ∃ f, f = pwFrom s := ⟨_, rfl⟩
    obtain ⟨b, hb⟩ : ∃ b, b = pwBase s := ⟨_, rfl⟩
    obtain ⟨m, hmi⟩ : ∃ m, m = pwMinus s := ⟨_, rfl⟩
    have hfl : f ≤ s.size := by rw [hf]; exact pwFrom_le s
    have hbb : b = 10 ∨ b = 16 := by rw [hb]; unfold pwBase; split <;> simp
    have hb16 : (((b : Nat) : Int) == 16) = isHexS s := by rw [hb]; unfold pwBase; split <;> simp_all
    have hto := digEnd_le s (isHexS s) f hfl
    have hall : ∀ j, f ≤ j → j < digEnd s (isHexS s) f → 0 ≤ worthI (gb s j) := fun j h1 h2 => worth_of_digAt (digEnd_all s _ f j h1 h2)
    have hpw : pwOf p s = if digEnd s (isHexS s) f = f ∨ digEnd s (isHexS s) f < s.size then (0, 30, digEnd s (isHexS s) f)
        else match magN (s.extract f s.size) b 0 0 with
          | none => (0, 31, 0)
          | some v => pwNum p m v := by rw [hf, hb, hmi]; rfl
    rw [← hf, ← hb, ← hmi]
    clear hf hb hmi
    have HB : Hid (b = 10 ∨ b = 16) := hbb
    have HPW : Hid (pwOf p s = if digEnd s (isHexS s) f = f ∨ digEnd s (isHexS s) f < s.size then (0, 30, digEnd s (isHexS s) f)
        else match magN (s.extract f s.size) b 0 0 with
          | none => (0, 31, 0)
          | some v => pwNum p m v) := hpw
    have HALL : Hid (∀ j, f ≤ j → j < digEnd s (isHexS s) f → 0 ≤ worthI (gb s j)) := hall
    clear hbb hpw hall
    generalize isHexS s = x at hb16 hto HPW HALL
    go_wp2_with (go_at_call 85; fail)
    refine (digitsFrom_any s f x _ hfl hm).mono ?_
    rintro e w' ⟨rfl, rfl⟩
    obtain ⟨t, ht⟩ : ∃ t, digEnd s x f = t := ⟨_, rfl⟩
    have HT : Hid (digEnd s x f = t) := ht
    rw [ht] at hto ⊢
    clear ht
    by_cases htf : t = f
    · have HE : Hid (t = f) := htf
      have d1 : (((t : Nat) : Int) == ((f : Nat) : Int)) = true := by simp [htf]
      clear htf
      go_wp2
      go_ret3
      refine ⟨?_, below_drewN (Below.refl _ _) _⟩
      rw [HPW.out, HT.out, if_pos (Or.inl HE.out)]; rfl
    · have d1 : (((t : Nat) : Int) == ((f : Nat) : Int)) = false := by simp; omega
      by_cases hts : t < s.size
      · have HE : Hid (t < s.size) := hts
        clear htf
        go_wp2
        go_ret3
        refine ⟨?_, below_drewN (Below.refl _ _) _⟩
        rw [HPW.out, HT.out, if_pos (Or.inr HE.out)]; rfl
      · have HNE : Hid (¬ (t = f ∨ t < s.size)) := by unfold Hid; omega
        have HTS : Hid (t = s.size) := by unfold Hid; omega
        have d2 : decide (t < s.size) = false := by simpa using hts
        clear htf hto
        go_wp2_with (go_at_call 86; fail)
        have hM := magnitude_any (s.extract f s.size) b HB.out (w.drewN n) (by rw [ByteArray.size_extract]; omega) (by
          intro k hk
          rw [ByteArray.size_extract] at hk
          rw [gb_extract s f k (by omega)]
          exact HALL.out (f + k) (by omega) (by rw [HT.out, HTS.out]; omega))
        cases hmg : magN (s.extract f s.size) b 0 0 with
        | none =>
          rw [hmg] at hM
          have HP : Hid (pwOf p s = (0, 31, 0)) := by unfold Hid; rw [HPW.out, HT.out, if_neg HNE.out, hmg]
          refine hM.mono ?_
          rintro e w' ⟨rfl, rfl⟩
          clear hM hmg
          unfold magV
          go_wp2
          go_ret3
          refine ⟨?_, below_drewN (Below.refl _ _) _⟩
          rw [HP.out]; rfl
        | some v =>
          rw [hmg] at hM
          have hvl : v < 2 ^ 64 := magN_lt _ b HB.out 0 0 (by decide) hmg
          have HP : Hid (pwOf p s = pwNum p m v) := by unfold Hid; rw [HPW.out, HT.out, if_neg HNE.out, hmg]
          refine hM.mono ?_
          rintro e w' ⟨rfl, rfl⟩
          clear hM hmg
          unfold magV
          dsimp only
          have h1 : Sizes (w.drewN n) := h
          cases m with
          | true =>
            by_cases hbig : 9223372036854775808 < v
            · have HQ : Hid (pwNum p true v = (0, 31, 0)) := by unfold Hid pwNum; simp [hbig]
              go_wp2
              go_ret3
              refine ⟨?_, below_drewN (Below.refl _ _) _⟩
              rw [HP.out, HQ.out]; rfl
            · by_cases hz : v = 0
              · subst hz
                have HQ : Hid (pwNum p true 0 = pwFit p 0) := by unfold Hid pwNum; simp
                go_wp2_with (go_at_call 63; fail)
                refine (fits_any p hp 0 (by decide) _ h1).mono ?_
                rintro e w2 ⟨rfl, b2⟩
                cases hf : fitsOf p 0 with
                | true =>
                  go_wp2
                  go_ret3
                  refine ⟨?_, (below_drewN (Below.refl w.heap.size w) n).trans b2⟩
                  rw [HP.out, HQ.out, pwFit, hf]; rfl
                | false =>
                  go_wp2
                  go_ret3
                  refine ⟨?_, (below_drewN (Below.refl w.heap.size w) n).trans b2⟩
                  rw [HP.out, HQ.out, pwFit, hf]; rfl
              · have hneg : IntKind.u64.wrap (-(v : Int)) = ((18446744073709551616 - v : Nat) : Int) := by rw [IntKind.wrap_u64]; omega
                have HVN : Hid (¬ 9223372036854775808 < v ∧ ¬ v = 0) := ⟨hbig, hz⟩
                have hlt : 18446744073709551616 - v < 2 ^ 64 := by omega
                have dz : 0 < v := by omega
                generalize hu : 18446744073709551616 - v = u at hneg hlt
                have HU : Hid (18446744073709551616 - v = u) := hu
                have HUL : Hid (u < 2 ^ 64) := hlt
                clear hu hlt hz
                go_wp2_with (go_at_call 152; fail)
                refine (signed_any p hp _ h1).mono ?_
                rintro e w2 ⟨rfl, b2⟩
                cases hs : signedOf p with
                | false =>
                  have HQ : Hid (pwNum p true v = (0, 31, 0)) := by unfold Hid pwNum; simp [hs, HVN.out]
                  clear hs
                  go_wp2
                  go_ret3
                  refine ⟨?_, (below_drewN (Below.refl w.heap.size w) n).trans b2⟩
                  rw [HP.out, HQ.out]; rfl
                | true =>
                  have HQ : Hid (pwNum p true v = pwFit p u) := by unfold Hid pwNum; rw [if_pos rfl, if_neg HVN.out.1, if_neg HVN.out.2, hs, if_pos rfl, HU.out]
                  clear hs
                  have h2 : Sizes w2 := h1.below b2
                  go_wp2_with (go_at_call 63; fail)
                  refine (fits_any p hp u HUL.out _ h2).mono ?_
                  rintro e w3 ⟨rfl, b3⟩
                  have b23 := b2.trans (b3.mono b2.size)
                  cases hf : fitsOf p u with
                  | true =>
                    have HF : Hid (fitsOf p u = true) := hf
                    clear hf
                    go_wp2
                    go_ret3
                    refine ⟨?_, (below_drewN (Below.refl w.heap.size w) n).trans b23⟩
                    rw [HP.out, HQ.out, pwFit, HF.out]; rfl
                  | false =>
                    have HF : Hid (fitsOf p u = false) := hf
                    clear hf
                    go_wp2
                    go_ret3
                    refine ⟨?_, (below_drewN (Below.refl w.heap.size w) n).trans b23⟩
                    rw [HP.out, HQ.out, pwFit, HF.out]; rfl
          | false =>
            go_wp2_with (go_at_call 152; fail)
            refine (signed_any p hp _ h1).mono ?_
            rintro e w2 ⟨rfl, b2⟩
            have h2 : Sizes w2 := h1.below b2
            by_cases hsb : (signedOf p && decide (9223372036854775807 < v)) = true
            · have HQ : Hid (pwNum p false v = (0, 31, 0)) := by unfold Hid pwNum; simp [hsb]
              have e1 : signedOf p = true := by simp at hsb; exact hsb.1
              have e2 : 9223372036854775807 < v := by simp at hsb; exact hsb.2
              rw [e1]
              clear hsb e1
              go_wp2
              go_ret3
              refine ⟨?_, (below_drewN (Below.refl w.heap.size w) n).trans b2⟩
              rw [HP.out, HQ.out]; rfl
            · have HQ : Hid (pwNum p false v = pwFit p v) := by unfold Hid pwNum; simp [hsb]
              have HSB : Hid (¬ (signedOf p && decide (9223372036854775807 < v)) = true) := hsb
              clear hsb
              have HV : Hid (v < 2 ^ 64) := hvl
              cases hs : signedOf p with
              | false =>
                clear hs
                go_wp2_with (go_at_call 63; fail)
                refine (fits_any p hp v HV.out _ h2).mono ?_
                rintro e w3 ⟨rfl, b3⟩
                have b23 := b2.trans (b3.mono b2.size)
                cases hf : fitsOf p v with
                | true =>
                  have HF : Hid (fitsOf p v = true) := hf
                  clear hf
                  go_wp2
                  go_ret3
                  refine ⟨?_, (below_drewN (Below.refl w.heap.size w) n).trans b23⟩
                  rw [HP.out, HQ.out, pwFit, HF.out]; rfl
                | false =>
                  have HF : Hid (fitsOf p v = false) := hf
                  clear hf
                  go_wp2
                  go_ret3
                  refine ⟨?_, (below_drewN (Below.refl w.heap.size w) n).trans b23⟩
                  rw [HP.out, HQ.out, pwFit, HF.out]; rfl
              | true =>
                have hn : ¬ 9223372036854775807 < v := by have := HSB.out; rw [hs] at this; simpa using this
                clear hs
                go_wp2_with (go_at_call 63; fail)
                refine (fits_any p hp v HV.out _ h2).mono ?_
                rintro e w3 ⟨rfl, b3⟩
                have b23 := b2.trans (b3.mono b2.size)
                cases hf : fitsOf p v with
                | true =>
                  have HF : Hid (fitsOf p v = true) := hf
                  clear hf
                  go_wp2
                  go_ret3
                  refine ⟨?_, (below_drewN (Below.refl w.heap.size w) n).trans b23⟩
                  rw [HP.out, HQ.out, pwFit, HF.out]; rfl
                | false =>
                  have HF : Hid (fitsOf p v = false) := hf
                  clear hf
                  go_wp2
                  go_ret3
                  refine ⟨?_, (below_drewN (Below.refl w.heap.size w) n).trans b23⟩
                  rw [HP.out, HQ.out, pwFit, HF.out]; rfl
end Go.Proofs.YtijnbohjcmcfjaaGreatDoor.Nu
