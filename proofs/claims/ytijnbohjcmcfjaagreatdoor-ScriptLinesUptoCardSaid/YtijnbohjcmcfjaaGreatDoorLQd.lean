/-
  Walks: the document's whole numbers of the widest type read.
-/
import Derived.Test.YtijnbohjcmcfjaaGreatDoorLQc
namespace Go.Proofs.YtijnbohjcmcfjaaGreatDoor.R3
open Go.RowKit Go.Proofs.YtijnbohjcmcfjaaGreatDoor.Kt Go.Proofs.YtijnbohjcmcfjaaGreatDoor.Lk Go.Proofs.YtijnbohjcmcfjaaGreatDoor.Rw Go.Proofs.YtijnbohjcmcfjaaGreatDoor.Bg
open Go.Proofs.YtijnbohjcmcfjaaGreatDoor.Nu (worthI worthI_lt isHexS magN sgnS pwFrom pwBase pwMinus pwOf pwNum pwFit pwV gb_extract digAt worth_of_digAt pwFrom_le)
set_option linter.unusedSimpArgs false
set_option linter.unusedVariables false
set_option maxRecDepth 100000

/-- what whole answers -/
def WholePost (s : ByteArray) (w : World) (e : Ending) (w' : World) : Prop := e = .returned (pwV (pwOf 8 s)) ∧ Below w.heap.size w w'
theorem wholePost_mk {s : ByteArray} {w w' : World} {a b c : Nat} (h : pwOf 8 s = (a, b, c)) (hb : Below w.heap.size w w') : WholePost s w (.returned (.tuple #[.int .u64 (a : Int), .int .i64 (b : Int), .int .i64 (c : Int)])) w' := by
  unfold WholePost; rw [h]; exact ⟨rfl, hb⟩
theorem sub_hex {s : ByteArray} (h : wend s = s.size) (hx : isHexS s = true) : ∀ i, i < (s.extract 2 s.size).size → 0 ≤ worthI (gb (s.extract 2 s.size) i) := by
  intro i hi
  rw [ByteArray.size_extract] at hi
  have hf : pwFrom s = 2 := by unfold pwFrom; rw [if_pos hx]
  rw [gb_extract s 2 i (by omega)]
  unfold wend at h
  rw [hx, hf] at h
  exact worth_of_digAt (Nu.digEnd_all s true 2 (2 + i) (by omega) (by omega))
theorem sub_dec {s : ByteArray} (h : wend s = s.size) (hx : isHexS s = false) : ∀ i, i < (s.extract (sgN s) s.size).size → isDig (gb (s.extract (sgN s) s.size) i) = true := by
  intro i hi
  rw [ByteArray.size_extract] at hi
  have hf : pwFrom s = sgN s := by unfold pwFrom sgN; rw [hx, if_neg (by simp)]
  rw [gb_extract s (sgN s) i (by omega)]
  unfold wend at h
  rw [hx, hf] at h
  have := Nu.digEnd_all s false (sgN s) (sgN s + i) (by omega) (by omega)
  unfold digAt at this
  simpa using this
theorem wv_hex {s : ByteArray} (hx : isHexS s = true) : wv s = bigV (s.extract 2 s.size) 16 (s.extract 2 s.size).size := by
  have hf : pwFrom s = 2 := by unfold pwFrom; rw [if_pos hx]
  have hb : pwBase s = 16 := by unfold pwBase; rw [if_pos hx]
  unfold wv; rw [hf, hb]
theorem wv_dec {s : ByteArray} (h : wend s = s.size) (hx : isHexS s = false) : wv s = digVal (s.extract (sgN s) s.size) (s.extract (sgN s) s.size).size := by
  have hf : pwFrom s = sgN s := by unfold pwFrom sgN; rw [hx, if_neg (by simp)]
  have hb : pwBase s = 10 := by unfold pwBase; rw [hx]; rfl
  unfold wv; rw [hf, hb]
  exact bigV_dig _ (sub_dec h hx)

/-- the limbs are made one word, and what stands behind -/
def Tail (s : ByteArray) : Nat × Nat × Nat := if 18446744073709551616 ≤ wv s then (0, 31, 0) else if pwMinus s = true ∧ wv s ≠ 0 then (0, 31, 0) else (wv s, 0, 0)
set_option maxHeartbeats 3200000 in
theorem whole3_any (s : ByteArray) (w : World) (hm : s.size ≤ 1048576) : Calls Tryz.prog 72 #[.int .i64 8, .string s] w (WholePost s w) := by
  have hfl := pwFrom_le s
  have hel : wend s ≤ s.size := Nu.digEnd_le s _ _ hfl
  have hge : pwFrom s ≤ wend s := Nu.digEnd_ge s _ _
  by_cases hbad : wend s = pwFrom s ∨ wend s < s.size
  · have HR : Hid (pwOf 8 s = (0, 30, wend s)) := by unfold Hid; rw [pw8, if_pos hbad]
    have HF : Hid (wform s = (30, wend s)) := by unfold Hid wform; rw [if_pos hbad]
    generalize wend s = k at HR HF
    clear hfl hel hge hbad
    go_enter Tryz.func72, Tryz.ntmps72
    go_wp2_with (go_at_call 110; refine (wholeForm3_any s _ hm).mono ?_; rintro e w' ⟨he, rfl⟩; rw [HF.out] at he; dsimp only at he; subst he)
    go_ret3
    exact wholePost_mk HR.out (Below.refl _ _)
  · have hend : wend s = s.size := by omega
    have hpos : 0 < s.size := by omega
    have HEND : Hid (wend s = s.size) := hend
    have HR : Hid (pwOf 8 s = Tail s) := by unfold Hid; rw [pw8, if_neg hbad]; rfl
    have HF : Hid (wform s = (0, 0)) := by unfold Hid wform; rw [if_neg hbad]
    have HM : Hid (pwMinus s = (!isHexS s && (sgnS s && gb s 0 == 45))) := rfl
    have hb0 := (gb_lt hpos).symm
    clear hel hge hbad hend
    go_enter Tryz.func72, Tryz.ntmps72
    have HB : Hid (pwMinus s = (gb s 0 == 45)) := by
      unfold Hid; rw [HM.out]
      cases hx : isHexS s with
      | true =>
        have : gb s 0 = 48 := by
          unfold isHexS at hx
          simp at hx
          exact hx.2.1
        rw [this]; simp
      | false =>
        unfold sgnS
        simp only [hpos, decide_true, Bool.true_and, Bool.not_false]
        cases h1 : gb s 0 == 45 <;> simp
    clear HM
    generalize gb s 0 = c0 at hb0 HB
    go_upto_if 28 with (first
      | (go_at_call 110; refine (wholeForm3_any s _ hm).mono ?_; rintro e w' ⟨he, rfl⟩; rw [HF.out] at he; dsimp only at he; subst he)
      | (go_at_call 107; refine (isHex3_any _ _).mono ?_; rintro e w' ⟨he, rfl⟩; obtain ⟨bx, hbx⟩ : ∃ b, b = isHexS s := ⟨_, rfl⟩; rw [← hbx] at he; have HX : Hid (isHexS s = bx) := hbx.symm; clear hbx; subst he))
    go_cut [9] (fun a9 wx => ∃ l, Ints wx a9 l ∧ okL l ∧ trimd l ∧ val l = wv s ∧ l.length ≤ 1048576 ∧ Below w.heap.size w wx)
    case first => as_aux_lemma =>
      cases bx with
      | true =>
        have h2 : 2 ≤ s.size := by have hx := HX.out; unfold isHexS at hx; simp at hx; exact hx.1
        have HV : Hid (wv s = bigV (s.extract 2 s.size) 16 (s.extract 2 s.size).size) := wv_hex HX.out
        have HD : Hid (∀ i, i < (s.extract 2 s.size).size → 0 ≤ worthI (gb (s.extract 2 s.size) i)) := sub_hex HEND.out HX.out
        have hsz : (s.extract 2 s.size).size ≤ s.size := by rw [ByteArray.size_extract]; omega
        go_wp2_with (go_at_call 50; fail)
        refine (number16_any (s.extract 2 s.size) _ (by omega) HD.out).mono ?_
        rintro e w1 ⟨v, l, rfl, hi, ho, ht, hv, hlen, hb⟩
        have HI : Hid (Ints w1 v l ∧ okL l ∧ trimd l ∧ val l = wv s ∧ l.length ≤ 1048576 ∧ Below w.heap.size w w1) := ⟨hi, ho, ht, by rw [hv, HV.out], by omega, hb⟩
        clear hi ho ht hv hlen hb
        go_wp2
        go_meet
        exact ⟨l, HI.out⟩
      | false =>
        have hsg : sgN s ≤ s.size := by unfold sgN; split <;> omega
        have HV : Hid (wv s = digVal (s.extract (sgN s) s.size) (s.extract (sgN s) s.size).size) := wv_dec HEND.out HX.out
        have HD : Hid (∀ i, i < (s.extract (sgN s) s.size).size → isDig (gb (s.extract (sgN s) s.size) i) = true) := sub_dec HEND.out HX.out
        have hsz : (s.extract (sgN s) s.size).size ≤ s.size := by rw [ByteArray.size_extract]; omega
        go_wp2_with (first
          | (go_at_call 111; refine (signed3_any _ _).mono ?_; rintro e w' ⟨rfl, rfl⟩)
          | (go_at_call 50; fail))
        refine (number3_any (s.extract (sgN s) s.size) _ (by omega) HD.out).mono ?_
        rintro e w1 ⟨v, l, rfl, hi, ho, ht, hv, hlen, hb⟩
        have HI : Hid (Ints w1 v l ∧ okL l ∧ trimd l ∧ val l = wv s ∧ l.length ≤ 1048576 ∧ Below w.heap.size w w1) := ⟨hi, ho, ht, by rw [hv, HV.out], by omega, hb⟩
        clear hi ho ht hv hlen hb
        go_wp2
        go_meet
        exact ⟨l, HI.out⟩
    case rest =>
    obtain ⟨l, hi, ho, ht, hv, hlen, hB⟩ := hcut
    have HI : Hid (Ints wc u9 l) := hi
    have HV : Hid (val l = wv s) := hv
    have HTL : Hid (Tail s = if 18446744073709551616 ≤ wv s then (0, 31, 0) else if pwMinus s = true ∧ wv s ≠ 0 then (0, 31, 0) else (wv s, 0, 0)) := rfl
    have HO : Hid (okL l) := ho
    have HTR : Hid (trimd l) := ht
    have HBW : Hid (Below w.heap.size w wc) := hB
    clear hi ho ht hv hB
    go_wp2_with (go_at_call 112; fail)
    refine (bits3_any _ l _ hlen HI.out HO.out HTR.out).mono ?_
    rintro e w' ⟨n, rfl, hn, rfl⟩
    have HN : Hid (64 < n ↔ 18446744073709551616 ≤ val l) := hn
    clear hn
    by_cases h64 : 64 < n
    · have HQ : Hid (pwOf 8 s = (0, 31, 0)) := by unfold Hid; rw [HR.out, HTL.out, if_pos (by rw [← HV.out]; exact HN.out.1 h64)]
      go_wp2
      go_ret3
      exact wholePost_mk HQ.out HBW.out
    · have HLT : Hid (val l < 18446744073709551616) := by unfold Hid; have := mt HN.out.2 h64; omega
      obtain ⟨A, cap, rfl, e1, e2, _⟩ := HI.out
      unfold maxLen at e2
      go_wp2
      go_loop [12, 13] (fun nv jv => (∃ m : Nat, jv = .int .i64 m ∧ m < l.length ∧ nv = .int .u64 (val (l.drop (m + 1)) : Nat)) ∨ (jv = .int .i64 (-1) ∧ nv = .int .u64 (val l : Nat))) (fun _ jv => (intOf jv + 1).toNat)
      case atStart =>
        by_cases h0 : l.length = 0
        · exact .inr ⟨by rw [h0]; rfl, by rw [List.eq_nil_of_length_eq_zero h0]; rfl⟩
        · exact .inl ⟨l.length - 1, by congr 1; omega, by omega, by rw [List.drop_eq_nil_of_le (by omega)]; rfl⟩
      case round => as_aux_lemma =>
        rcases hrel with ⟨m, rfl, hmm, rfl⟩ | ⟨rfl, rfl⟩
        · obtain ⟨g, rfl, hg, hcell⟩ := Ints.at HI.out hmm
          have hvd := val_drop hmm
          have hvl := val_drop_le l m
          have hxb := okL_get HO.out hmm
          obtain ⟨n, hn⟩ : ∃ n, n = val (l.drop (m + 1)) := ⟨_, rfl⟩
          rw [← hn] at hvd ⊢
          generalize l[m] = x at hcell hvd hxb
          have hs1 : IntKind.u64.wrap ((n : Int) * 16777216) = (n : Int) * 16777216 := by have := HLT.out; simp [IntKind.wrap, IntKind.bits, IntKind.signed]; omega
          have hs2 : IntKind.u64.wrap ((n : Int) * 16777216 + (x : Int)) = (n : Int) * 16777216 + (x : Int) := by have := HLT.out; simp [IntKind.wrap, IntKind.bits, IntKind.signed]; omega
          have hs3 : IntKind.u64.wrap (x : Int) = (x : Int) := by simp [IntKind.wrap, IntKind.bits, IntKind.signed]; omega
          have HVD : Hid (val (l.drop m) = n * 16777216 + x) := hvd
          clear hvd hvl hn
          go_wp2
          go_round
          case rel =>
            by_cases h0 : m = 0
            · subst h0
              refine .inr ⟨rfl, ?_⟩
              have := HVD.out
              rw [List.drop_zero] at this
              rw [this]; congr 1
            · refine .inl ⟨m - 1, by congr 1; omega, by omega, ?_⟩
              rw [show m - 1 + 1 = m by omega, HVD.out]; congr 1
          case measure => simp [intOf] <;> omega
        · have HF8 : Hid (∀ w : World, Calls Tryz.prog 77 #[.int .i64 8, .int .u64 (val l : Nat)] w fun e w' => e = .returned (.bool true) ∧ w = w') := fun w => fits8_any _ HLT.out w
          have HTL2 : Hid (pwOf 8 s = if pwMinus s = true ∧ wv s ≠ 0 then (0, 31, 0) else (wv s, 0, 0)) := by unfold Hid; rw [HR.out, HTL.out, if_neg (by rw [← HV.out]; have := HLT.out; omega)]
          obtain ⟨V, hV⟩ : ∃ V, V = val l := ⟨_, rfl⟩
          rw [← hV] at HV HF8 ⊢
          have HVV : Hid (V = wv s) := HV
          clear HI HO HTR HN HLT hV HV HTL e1 e2
          by_cases hc : c0 = 45
          · have HMI : Hid (pwMinus s = true) := by unfold Hid; rw [HB.out, hc]; rfl
            have e3 : (((c0 : Nat) : Int) == 45) = true := by simp; omega
            clear hc
            by_cases hV0 : V = 0
            · have HQ : Hid (pwOf 8 s = (V, 0, 0)) := by unfold Hid; rw [HTL2.out, ← HVV.out, if_neg (fun h => h.2 hV0)]
              obtain rfl : V = 0 := hV0
              go_wp2_with (first
                | (go_at_call 80; refine (signed8_any _).mono ?_; rintro e w' ⟨rfl, rfl⟩)
                | (go_at_call 77; refine (HF8.out _).mono ?_; rintro e w' ⟨rfl, rfl⟩))
              go_ret3
              exact wholePost_mk HQ.out HBW.out
            · have HQ : Hid (pwOf 8 s = (0, 31, 0)) := by unfold Hid; rw [HTL2.out, ← HVV.out, if_pos ⟨HMI.out, hV0⟩]
              have e4 : decide ((0 : Int) < (V : Int)) = true := by simp; omega
              have e5 : 0 < V := by omega
              clear hV0
              go_wp2_with (first
                | (go_at_call 80; refine (signed8_any _).mono ?_; rintro e w' ⟨rfl, rfl⟩)
                | (go_at_call 77; refine (HF8.out _).mono ?_; rintro e w' ⟨rfl, rfl⟩))
              go_ret3
              exact wholePost_mk HQ.out HBW.out
          · have HMI : Hid (pwMinus s = false) := by unfold Hid; rw [HB.out]; simp [hc]
            have e3 : (((c0 : Nat) : Int) == 45) = false := by rw [beq_eq_false_iff_ne]; omega
            have HQ : Hid (pwOf 8 s = (V, 0, 0)) := by unfold Hid; rw [HTL2.out, ← HVV.out, if_neg (fun h => by rw [HMI.out] at h; exact absurd h.1 (by simp))]
            clear hc
            go_wp2_with (first
              | (go_at_call 80; refine (signed8_any _).mono ?_; rintro e w' ⟨rfl, rfl⟩)
              | (go_at_call 77; refine (HF8.out _).mono ?_; rintro e w' ⟨rfl, rfl⟩))
            go_ret3
            exact wholePost_mk HQ.out HBW.out
theorem parse3_any (s : ByteArray) (w : World) (hm : s.size ≤ 1048576) : Calls Tryz.prog 48 #[.int .i64 8, .string s] w (WholePost s w) := by
  go_enter Tryz.func48, Tryz.ntmps48
  go_wp2_with (go_at_call 72; fail)
  refine (whole3_any s _ hm).mono ?_
  rintro e w1 ⟨rfl, hb⟩
  have HX : Hid (pwV (pwOf 8 s) = .tuple #[.int .u64 ((pwOf 8 s).1 : Int), .int .i64 ((pwOf 8 s).2.1 : Int), .int .i64 ((pwOf 8 s).2.2 : Int)]) := rfl
  obtain ⟨x, hx⟩ : ∃ x, x = pwOf 8 s := ⟨_, rfl⟩
  rw [← hx] at HX ⊢
  have HE : Hid (pwOf 8 s = x) := hx.symm
  rw [HX.out]
  clear hx
  go_wp2
  go_ret3
  exact ⟨by rw [HE.out, HX.out]; rfl, hb⟩
end Go.Proofs.YtijnbohjcmcfjaaGreatDoor.R3
