/-
  Walks: the document's numbers of any length: hex digits; rows of digits of either base.
-/
import Derived.Test.YtijnbohjcmcfjaaGreatDoorLRef3b
import Derived.Test.YtijnbohjcmcfjaaGreatDoorLNum3
namespace Go.Proofs.YtijnbohjcmcfjaaGreatDoor.R3
open Go.RowKit Go.Proofs.YtijnbohjcmcfjaaGreatDoor.Kt Go.Proofs.YtijnbohjcmcfjaaGreatDoor.Lk Go.Proofs.YtijnbohjcmcfjaaGreatDoor.Rw Go.Proofs.YtijnbohjcmcfjaaGreatDoor.Bg
open Go.Proofs.YtijnbohjcmcfjaaGreatDoor.Nu (worthI worthI_lt isHexS magN)
set_option linter.unusedSimpArgs false
set_option linter.unusedVariables false
set_option maxRecDepth 100000

/-- the number that the first k digits say -/
def bigV (s : ByteArray) (b : Nat) : Nat → Nat
  | 0 => 0
  | k + 1 => bigV s b k * b + (worthI (gb s k)).toNat
theorem bigV_dig {s : ByteArray} : ∀ k, (∀ i, i < k → isDig (gb s i) = true) → bigV s 10 k = digVal s k
  | 0, _ => rfl
  | k + 1, h => by
    have ih := bigV_dig k (fun i hi => h i (by omega))
    have hd := h k (by omega)
    have hc : 48 ≤ gb s k ∧ gb s k ≤ 57 := by simpa [isDig] using hd
    show bigV s 10 k * 10 + _ = digVal s k * 10 + (gb s k - 48)
    rw [ih]
    unfold worthI
    rw [if_pos hd]
    omega
theorem worth3_any (c : Nat) (w : World) : Calls Tryz.prog 74 #[.int .u8 c] w fun e w' => e = .returned (.int .i64 (worthI c)) ∧ w = w' := by
  cases hd : isDig c with
  | true =>
    have hc : 48 ≤ c ∧ c ≤ 57 := by simpa [isDig] using hd
    refine (worth3_dig c hd w).mono ?_
    rintro e w' ⟨h1, h2⟩
    refine ⟨?_, h2⟩
    rw [h1]
    unfold worthI
    rw [if_pos hd]
    congr 2; omega
  | false =>
    have HD : Hid (isDig c = false) := hd
    by_cases h1 : 97 ≤ c ∧ c ≤ 102
    · have HR : Hid (worthI c = (c : Int) - 87) := by unfold Hid worthI; rw [hd, if_neg (by simp), if_pos h1]
      obtain ⟨a1, a2⟩ := h1
      clear hd
      go_enter Tryz.func74, Tryz.ntmps74
      go_wp2_with (go_at_call 73; refine (digit3_any _ _).mono ?_; rintro e w' ⟨he, rfl⟩; rw [HD.out] at he; subst he)
      go_ret
      exact ⟨ret_int (by rw [HR.out]; omega), rfl⟩
    · by_cases h2 : 65 ≤ c ∧ c ≤ 70
      · have HR : Hid (worthI c = (c : Int) - 55) := by unfold Hid worthI; rw [hd, if_neg (by simp), if_neg h1, if_pos h2]
        obtain ⟨a1, a2⟩ := h2
        have a3 : ¬ 97 ≤ c := by omega
        clear hd h1
        go_enter Tryz.func74, Tryz.ntmps74
        go_wp2_with (go_at_call 73; refine (digit3_any _ _).mono ?_; rintro e w' ⟨he, rfl⟩; rw [HD.out] at he; subst he)
        go_ret
        exact ⟨ret_int (by rw [HR.out]; omega), rfl⟩
      · have HR : Hid (worthI c = -1) := by unfold Hid worthI; rw [hd, if_neg (by simp), if_neg h1, if_neg h2]
        clear hd
        go_enter Tryz.func74, Tryz.ntmps74
        go_wp2_with (go_at_call 73; refine (digit3_any _ _).mono ?_; rintro e w' ⟨he, rfl⟩; rw [HD.out] at he; subst he)
        all_goals first | (exfalso; omega) | skip
        all_goals go_ret
        all_goals exact ⟨ret_int HR.out.symm, rfl⟩
set_option maxHeartbeats 1600000 in
theorem row3g_any (s : ByteArray) (i0 : Nat) (hex : Bool) (w : World) (hm : s.size ≤ 1048576) (hi : i0 ≤ s.size) :
    Calls Tryz.prog 49 #[.string s, .int .i64 i0, .bool hex, .int .i64 1099511627776] w fun e w' => e = .returned (.int .i64 (Nu.digEnd s hex i0)) ∧ w = w' := by
  go_enter Tryz.func49, Tryz.ntmps49
  go_wp2
  go_loop [1, 9] (fun i n => ∃ k m : Nat, i = .int .i64 k ∧ n = .int .i64 m ∧ k ≤ s.size ∧ m ≤ k ∧ Hid (Nu.digEnd s hex k = Nu.digEnd s hex i0)) (fun i _ => s.size - (intOf i).toNat)
  case atStart => exact ⟨i0, 0, rfl, rfl, hi, Nat.zero_le _, rfl⟩
  case round =>
    obtain ⟨k, m, rfl, rfl, hk, hmk, HK⟩ := hrel
    by_cases hlt : k < s.size
    · have hb := (gb_lt hlt).symm
      have hm9 : (m : Int) < 1099511627776 := by omega
      cases hd : isDig (gb s k) with
      | true =>
        have HD : Hid (isDig (gb s k) = true) := hd
        have HN : Hid (Nu.digEnd s hex (k + 1) = Nu.digEnd s hex i0) := by unfold Hid; rw [Nu.digEnd_go hlt (by unfold Nu.digAt; rw [hd]; rfl)]; exact HK.out
        clear hd
        go_wp2_with (go_at_call 73; refine (digit3_any _ _).mono ?_; rintro e w' ⟨he, rfl⟩; rw [HD.out] at he; subst he)
        go_round
        case rel => exact ⟨k + 1, m + 1, by go_num, by go_num, by omega, by omega, HN⟩
        case measure => simp [intOf]; omega
      | false =>
        have HD : Hid (isDig (gb s k) = false) := hd
        cases hex with
        | false =>
          have HN : Hid (Nu.digEnd s false i0 = k) := by unfold Hid; rw [← HK.out]; exact Nu.digEnd_stop (by unfold Nu.digAt; rw [hd]; simp)
          clear hd
          go_wp2_with (go_at_call 73; refine (digit3_any _ _).mono ?_; rintro e w' ⟨he, rfl⟩; rw [HD.out] at he; subst he)
          go_ret
          exact ⟨by rw [HN.out]; rfl, rfl⟩
        | true =>
          by_cases hx : 0 ≤ worthI (gb s k)
          · have HN : Hid (Nu.digEnd s true (k + 1) = Nu.digEnd s true i0) := by unfold Hid; rw [Nu.digEnd_go hlt (by unfold Nu.digAt; simp [hx])]; exact HK.out
            clear hd
            go_wp2_with (first
              | (go_at_call 73; refine (digit3_any _ _).mono ?_; rintro e w' ⟨he, rfl⟩; rw [HD.out] at he; subst he)
              | (go_at_call 74; refine (worth3_any _ _).mono ?_; rintro e w' ⟨rfl, rfl⟩))
            go_round
            case rel => exact ⟨k + 1, m + 1, by go_num, by go_num, by omega, by omega, HN⟩
            case measure => simp [intOf]; omega
          · have HN : Hid (Nu.digEnd s true i0 = k) := by unfold Hid; rw [← HK.out]; exact Nu.digEnd_stop (by unfold Nu.digAt; rw [hd]; simp; intro _; omega)
            have HX : Hid (worthI (gb s k) = -1) := by
              unfold Hid
              unfold worthI isDig at hx ⊢
              simp only [decide_eq_true_eq] at hx ⊢
              split at hx
              · omega
              · rename_i h1
                rw [if_neg h1]
                split at hx
                · omega
                · rename_i h2
                  rw [if_neg h2]
                  split at hx
                  · omega
                  · rename_i h3
                    rw [if_neg h3]
            clear hd hx
            go_wp2_with (first
              | (go_at_call 73; refine (digit3_any _ _).mono ?_; rintro e w' ⟨he, rfl⟩; rw [HD.out] at he; subst he)
              | (go_at_call 74; refine (worth3_any _ _).mono ?_; rintro e w' ⟨he, rfl⟩; rw [HX.out] at he; subst he))
            go_ret
            exact ⟨by rw [HN.out]; rfl, rfl⟩
    · have HN : Hid (Nu.digEnd s hex i0 = k) := by unfold Hid; rw [← HK.out]; exact Nu.digEnd_stop (fun h => hlt h.1)
      go_wp2
      go_ret
      exact ⟨by rw [HN.out]; rfl, rfl⟩
set_option maxHeartbeats 3200000 in
theorem times16_any (v : Value) (l : List Nat) (c0 : Nat) (w : World) (hm : l.length ≤ 1048576) (hc0 : c0 ≤ 15) (hv : Ints w v l) (ho : okL l) :
    Calls Tryz.prog 75 #[v, .int .i64 16, .int .i64 c0] w (TimesPost (c0 + 16 * val l) l.length w) := by
  have HV : Hid (Ints w v l) := hv
  have HO : Hid (okL l) := ho
  obtain ⟨N, hN⟩ : ∃ N, N = c0 + 16 * val l := ⟨_, rfl⟩
  rw [← hN]
  have HN : Hid (c0 + 16 * val l = N) := hN.symm
  clear hN ho
  obtain ⟨A, cap, rfl, h1, h2, _⟩ := hv
  obtain ⟨i1, hi1, hz10, hz11, hz12⟩ := info_parts infoI64
  go_enter Tryz.func75, Tryz.ntmps75
  go_wp2
  go_loopw [2, 7, 8] (fun cv bv iv wr => ∃ (i c : Nat) (b : List Nat), iv = .int .i64 i ∧ cv = .int .i64 c ∧ i ≤ l.length ∧ c ≤ 16 ∧ Hid (okL b) ∧ Hid (b.length = i) ∧ Hid (val b + 16777216 ^ i * (c + 16 * val (l.drop i)) = N) ∧ wr.ownsRow w.heap.size 3 1 bv b.length (nC b) ∧ Below w.heap.size w wr) (fun _ _ iv _ => l.length - (intOf iv).toNat)
  case atStart => exact ⟨0, c0, [], rfl, rfl, Nat.zero_le _, by omega, fun x hx => absurd hx (by simp), rfl, by unfold Hid; simpa [val] using HN.out, World.ownsRow_nil _ _ _ _, Below.refl _ _⟩
  case round => as_aux_lemma =>
    obtain ⟨i, c, b, rfl, rfl, hi, hc, HOB, HL, HVV, hown, hB⟩ := hrel
    have HOWN : Hid (wr.ownsRow w.heap.size 3 1 u7 b.length (nC b)) := hown
    clear hown
    have hbl : b.length ≤ l.length := by rw [HL.out]; exact hi
    by_cases hlt : i < l.length
    · obtain ⟨g, rfl, hg, hcell⟩ := Ints.at (HV.out.below hB) hlt
      have hx := okL_get HO.out hlt
      have HS : Hid (val (b ++ [(c + l[i] * 16) % 16777216]) + 16777216 ^ (i + 1) * ((c + l[i] * 16) / 16777216 + 16 * val (l.drop (i + 1))) = N) := step_eq b i c 16 l[i] (val (l.drop (i + 1))) N HL.out (by
        have h := HVV.out
        rwa [List.drop_eq_getElem_cons hlt, val] at h)
      generalize l[i] = x at hcell hx HS
      clear HVV
      have hcast : ((c : Int) + (x : Int) * 16) % 16777216 = (((c + x * 16) % 16777216 : Nat) : Int) := by omega
      have hcast2 : ((c : Int) + (x : Int) * 16) / 16777216 = (((c + x * 16) / 16777216 : Nat) : Int) := by omega
      have HC1 : Hid (((c : Int) + (x : Int) * 16) % 16777216 = (((c + x * 16) % 16777216 : Nat) : Int)) := hcast
      have HC2 : Hid (((c : Int) + (x : Int) * 16) / 16777216 = (((c + x * 16) / 16777216 : Nat) : Int)) := hcast2
      clear hcast hcast2
      go_wp2_with (at_builtin; refine wpList_append_own_at _ rfl _ _ 81 rfl w.heap.size 3 i1 (.int .i64 0) 1 8 Tryz.underlying81 hi1 hz10 hz11 hz12 rfl (by decide) u7 b.length (nC b) rfl (World.ownsRow.alloc HOWN.out _) ⟨wr.heap.size, 0, none⟩ 1 1 [.int .i64 (((c : Int) + (x : Int) * 16) % 16777216)] rfl rfl ?c1 ?c2 ?c3 ?c4 ?c5 ?_)
      case c1 => exact new_cells _ _ _
      case c2 => intro u hu; simp at hu; rcases hu with rfl; rfl
      case c3 => unfold maxLen; omega
      case c4 => omega
      case c5 => have := hB.size; simp; omega
      intro v' w1 hown' hgrow _ _
      have HO2 : Hid (w1.ownsRow w.heap.size 3 1 v' (b ++ [(c + x * 16) % 16777216]).length (nC (b ++ [(c + x * 16) % 16777216]))) := by
        unfold Hid
        rw [nC_snoc, List.length_append, ← HC1.out]
        exact hown'
      have HBB : Hid (Below w.heap.size w w1) := below_row ((hB.alloc hB.size _)) (by have := hB.size; simp; omega) (World.ownsRow.alloc HOWN.out _) hgrow
      clear hown' hgrow
      go_wp2
      go_roundw
      case rel => exact ⟨i + 1, (c + x * 16) / 16777216, b ++ [(c + x * 16) % 16777216], by go_num, by rw [← HC2.out], by omega, by omega, okL_snoc HOB.out (Nat.mod_lt _ (by decide)), by unfold Hid; rw [List.length_append, HL.out]; rfl, HS, HO2.out, HBB.out⟩
      case measure => simp [intOf]; omega
    · obtain rfl : i = l.length := by omega
      have HVE : Hid (val b + 16777216 ^ b.length * c = N) := by
        have h := HVV.out
        rw [List.drop_length] at h
        unfold Hid; rw [HL.out]; simpa [val] using h
      have hbn : b.length + (if c = 0 then 0 else 1) ≤ l.length + 1 := by split <;> omega
      have HBN : Hid (b.length + (if c = 0 then 0 else 1) ≤ l.length + 1) := hbn
      clear hbn HVV HL hlt hi
      go_wp2
      go_loopw [2, 7] (fun cv bv wr => ∃ (c : Nat) (b : List Nat), cv = .int .i64 c ∧ c ≤ 16 ∧ b.length ≤ l.length + 1 ∧ Hid (okL b) ∧ Hid (b.length + (if c = 0 then 0 else 1) ≤ l.length + 1) ∧ Hid (val b + 16777216 ^ b.length * c = N) ∧ wr.ownsRow w.heap.size 3 1 bv b.length (nC b) ∧ Below w.heap.size w wr) (fun cv _ _ => (intOf cv).toNat)
      case atStart => exact ⟨c, b, rfl, hc, by omega, HOB, HBN, HVE, HOWN.out, hB⟩
      case round => as_aux_lemma =>
        clear HVE HBN HOWN hB HOB hc hbl
        obtain ⟨d, e2, rfl, hd, hbl2, HOB2, HBN2, HVE2, hown2, hB2⟩ := hrel
        have HOWN2 : Hid (wr.ownsRow w.heap.size 3 1 u7 e2.length (nC e2)) := hown2
        clear hown2
        by_cases hd0 : d = 0
        · as_aux_lemma =>
          subst hd0
          have HVF : Hid (val e2 = N) := by have := HVE2.out; unfold Hid; simpa using this
          have HRI : Hid (Ints wr u7 e2) := Ints.of_row HOWN2.out
          clear HVE2 HBN2
          go_wp2_with (go_at_call 113; refine (trim3_any _ _ _ (by omega) HRI.out).mono ?_; rintro e w' ⟨m, v, rfl, hml, HR, HVV, HT, rfl⟩)
          go_ret
          exact ⟨v, e2.take m, rfl, HR, okL_take HOB2.out m, HT, by rw [HVV, HVF.out], by rw [List.length_take]; omega, hB2⟩
        · as_aux_lemma =>
          have HS2 : Hid (val (e2 ++ [d % 16777216]) + 16777216 ^ (e2 ++ [d % 16777216]).length * (d / 16777216) = N) := by
            have h := last_eq e2 e2.length d N rfl HVE2.out
            unfold Hid; rw [List.length_append]; exact h
          have hbn : e2.length + 1 ≤ l.length + 1 := by have h := HBN2.out; rw [if_neg hd0] at h; exact h
          have HQ : Hid (d / 16777216 = 0) := by unfold Hid; omega
          have hpos : (0 : Int) < (d : Int) := by omega
          have HC1 : Hid ((d : Int) % 16777216 = ((d % 16777216 : Nat) : Int)) := by unfold Hid; omega
          have HC2 : Hid ((d : Int) / 16777216 = ((d / 16777216 : Nat) : Int)) := by unfold Hid; omega
          have hle : d / 16777216 ≤ 16 := by omega
          clear HVE2 HBN2
          go_wp2_with (at_builtin; refine wpList_append_own_at _ rfl _ _ 81 rfl w.heap.size 3 i1 (.int .i64 0) 1 8 Tryz.underlying81 hi1 hz10 hz11 hz12 rfl (by decide) u7 e2.length (nC e2) rfl (World.ownsRow.alloc HOWN2.out _) ⟨wr.heap.size, 0, none⟩ 1 1 [.int .i64 ((d : Int) % 16777216)] rfl rfl ?c1 ?c2 ?c3 ?c4 ?c5 ?_)
          case c1 => exact new_cells _ _ _
          case c2 => intro u hu; simp at hu; rcases hu with rfl; rfl
          case c3 => unfold maxLen; omega
          case c4 => omega
          case c5 => have := hB2.size; simp; omega
          intro v' w1 hown' hgrow _ _
          have HO2 : Hid (w1.ownsRow w.heap.size 3 1 v' (e2 ++ [d % 16777216]).length (nC (e2 ++ [d % 16777216]))) := by
            unfold Hid
            rw [nC_snoc, List.length_append, ← HC1.out]
            exact hown'
          have HBB : Hid (Below w.heap.size w w1) := below_row ((hB2.alloc hB2.size _)) (by have := hB2.size; simp; omega) (World.ownsRow.alloc HOWN2.out _) hgrow
          clear hown' hgrow
          go_wp2
          go_roundw
          case rel => exact ⟨d / 16777216, e2 ++ [d % 16777216], by rw [← HC2.out], hle, by rw [List.length_append]; exact hbn, okL_snoc HOB2.out (Nat.mod_lt _ (by decide)), by unfold Hid; rw [List.length_append, if_pos HQ.out]; exact hbn, HS2, HO2.out, HBB.out⟩
          case measure => simp [intOf]; omega
set_option maxHeartbeats 1600000 in
theorem number16_any (s : ByteArray) (w : World) (hm : s.size ≤ 1048576) (hd : ∀ i, i < s.size → 0 ≤ worthI (gb s i)) :
    Calls Tryz.prog 50 #[.string s, .int .i64 16] w (NumPost (bigV s 16 s.size) s.size w) := by
  have HD : Hid (∀ i, i < s.size → 0 ≤ worthI (gb s i)) := hd
  clear hd
  go_enter Tryz.func50, Tryz.ntmps50
  go_wp2
  go_loopw [5, 6] (fun av iv wr => ∃ (k : Nat) (l : List Nat), iv = .int .i64 k ∧ k ≤ s.size ∧ l.length ≤ k ∧ Hid (Ints wr av l) ∧ Hid (okL l) ∧ Hid (trimd l) ∧ Hid (val l = bigV s 16 k) ∧ Below w.heap.size w wr) (fun _ iv _ => s.size - (intOf iv).toNat)
  case atStart => exact ⟨0, [], rfl, Nat.zero_le _, Nat.zero_le _, Ints.nil _, fun x hx => absurd hx (by simp), trimd_nil, rfl, Below.refl _ _⟩
  case round => as_aux_lemma =>
    obtain ⟨k, l, rfl, hk, hlk, HI, HO, HT, HV, hB⟩ := hrel
    by_cases hlt : k < s.size
    · have hb := (gb_lt hlt).symm
      have H1 : Hid (0 ≤ worthI (gb s k)) := HD.out k hlt
      have h15 := worthI_lt (gb s k)
      obtain ⟨d, hd⟩ : ∃ d : Nat, worthI (gb s k) = (d : Int) := ⟨(worthI (gb s k)).toNat, by have := H1.out; omega⟩
      have h9 : d ≤ 15 := by omega
      have HN : Hid (d + 16 * val l = bigV s 16 (k + 1)) := by unfold Hid; rw [HV.out]; show _ = bigV s 16 k * 16 + (worthI (gb s k)).toNat; rw [hd]; omega
      have HWD : Hid (worthI (gb s k) = (d : Int)) := hd
      clear hd h15
      go_wp2_with (first
        | (go_at_call 74; refine (worth3_any _ _).mono ?_; rintro e w' ⟨he, rfl⟩; rw [HWD.out] at he; subst he)
        | (go_at_call 75; refine (times16_any _ l _ _ (by omega) h9 HI.out HO.out).mono ?_; rintro e w' ⟨v, l2, rfl, HI2, HO2, HT2, HV2, hl2, hb2⟩))
      have HI3 : Hid (Ints w' v l2) := HI2
      have HO3 : Hid (okL l2) := HO2
      have HT3 : Hid (trimd l2) := HT2
      have HV3 : Hid (val l2 = bigV s 16 (k + 1)) := HV2.trans HN.out
      clear HI2 HO2 HT2 HV2
      go_wp2
      go_roundw
      case rel => exact ⟨k + 1, l2, by go_num, by omega, by omega, HI3, HO3, HT3, HV3, hB.trans (hb2.mono hB.size)⟩
      case measure => simp [intOf]; omega
    · obtain rfl : k = s.size := by omega
      go_wp2
      go_ret
      exact ⟨_, l, rfl, HI.out, HO.out, HT.out, HV.out, hlk, hB⟩

end Go.Proofs.YtijnbohjcmcfjaaGreatDoor.R3
