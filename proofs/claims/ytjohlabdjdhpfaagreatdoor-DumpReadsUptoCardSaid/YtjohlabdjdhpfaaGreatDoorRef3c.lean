/-
  Walks: the document's Int; numbers printed as uint64.
-/
import Derived.Test.YtjohlabdjdhpfaaGreatDoorRef3b
import Derived.Test.YtjohlabdjdhpfaaGreatDoorLookText
namespace Go.Proofs.YtjohlabdjdhpfaaGreatDoor.R3
open Go.RowKit Go.Proofs.YtjohlabdjdhpfaaGreatDoor.Kt Go.Proofs.YtjohlabdjdhpfaaGreatDoor.Lk Go.Proofs.YtjohlabdjdhpfaaGreatDoor.Rw Go.Proofs.YtjohlabdjdhpfaaGreatDoor.Bg
set_option linter.unusedSimpArgs false
set_option linter.unusedVariables false
set_option maxRecDepth 100000

/-- is a text a number up to M? -/
def isNum (s : ByteArray) (M : Nat) : Prop := 0 < s.size ∧ digEnd s 0 = s.size ∧ digVal s s.size ≤ M
def IntPost (s : ByteArray) (M : Nat) (w : World) (e : Ending) (w' : World) : Prop :=
  ∃ v c p : Int, e = .returned (.tuple #[.int .i64 v, .int .i64 c, .int .i64 p]) ∧ Below w.heap.size w w' ∧ (isNum s M → c = 0 ∧ v = (digVal s s.size : Int)) ∧ (¬ isNum s M → c ≠ 0)
theorem intPost_no {s : ByteArray} {M : Nat} {w w' : World} {v c p : Int} (h : ¬ isNum s M) (hc : c ≠ 0) (hb : Below w.heap.size w w') : IntPost s M w (.returned (.tuple #[.int .i64 v, .int .i64 c, .int .i64 p])) w' :=
  ⟨_, _, _, rfl, hb, fun h' => absurd h' h, fun _ => hc⟩
theorem intPost_yes {s : ByteArray} {M : Nat} {w w' : World} (h : isNum s M) (hb : Below w.heap.size w w') : IntPost s M w (.returned (.tuple #[.int .i64 (digVal s s.size : Int), .int .i64 0, .int .i64 0])) w' :=
  ⟨_, _, _, rfl, hb, fun _ => ⟨rfl, rfl⟩, fun h' => absurd h h'⟩
theorem digs_of_end {s : ByteArray} (h : digEnd s 0 = s.size) : ∀ i, i < s.size → isDig (gb s i) = true := by
  obtain ⟨_, _, h3, _⟩ := digEnd_spec s s.size 0 rfl (Nat.zero_le _)
  intro i hi
  exact h3 i (Nat.zero_le _) (by omega)
theorem digEnd_le (s : ByteArray) : digEnd s 0 ≤ s.size := (digEnd_spec s s.size 0 rfl (Nat.zero_le _)).2.1

set_option maxHeartbeats 3200000 in
theorem int3_any (s : ByteArray) (M : Nat) (w : World) (hm : s.size ≤ 1048576) (hM : M ≤ 4611686018427387904) :
    Calls Tryz.prog 20 #[.string s, .int .i64 M] w (IntPost s M w) := by
  have HM : Hid (M ≤ 4611686018427387904) := hM
  have hmx : max (M : Int) 0 = (M : Int) := by omega
  have hwr : IntKind.u64.wrap (M : Int) = (M : Int) := by simp [IntKind.wrap, IntKind.bits, IntKind.signed]; omega
  have hM0 : (0 : Int) ≤ (M : Int) := by omega
  have hlt64 : Hid (M < 18446744073709551616) := by unfold Hid; omega
  clear hM
  have hde := digEnd_le s
  by_cases h0 : s.size = 0
  · have HN : Hid (¬ isNum s M) := fun h => by have := h.1; omega
    have HE0 : Hid (digEnd s 0 = 0) := by unfold Hid; omega
    go_enter Tryz.func20, Tryz.ntmps20
    go_wp2_with (go_at_call 36; refine (row3_any s _ (by decide) _ hm).mono ?_; rintro e w' ⟨he, rfl⟩; rw [HE0.out] at he; subst he)
    go_ret3
    exact intPost_no HN.out (by decide) (Below.refl _ _)
  · obtain ⟨D, hD⟩ : ∃ D, D = digEnd s 0 := ⟨_, rfl⟩
    have HD : Hid (digEnd s 0 = D) := hD.symm
    by_cases hz : D = 0
    · have HN : Hid (¬ isNum s M) := fun h => by have := h.2.1; omega
      subst hz
      clear hD
      go_enter Tryz.func20, Tryz.ntmps20
      go_wp2_with (go_at_call 36; refine (row3_any s _ (by decide) _ hm).mono ?_; rintro e w' ⟨he, rfl⟩; rw [HD.out] at he; subst he)
      go_ret3
      exact intPost_no HN.out (by decide) (Below.refl _ _)
    · by_cases hlt : D < s.size
      · have HN : Hid (¬ isNum s M) := fun h => by have := h.2.1; omega
        have hz2 : ((D : Int) == 0) = false := by simp; omega
        clear hD hz h0 hde
        go_enter Tryz.func20, Tryz.ntmps20
        go_wp2_with (go_at_call 36; refine (row3_any s _ (by decide) _ hm).mono ?_; rintro e w' ⟨he, rfl⟩; rw [HD.out] at he; subst he)
        go_ret3
        exact intPost_no HN.out (by decide) (Below.refl _ _)
      · have HS : Hid (digEnd s 0 = s.size) := by unfold Hid; omega
        have hz2 : (((s.size : Nat) : Int) == 0) = false := by rw [beq_eq_false_iff_ne]; omega
        have HDG : Hid (∀ i, i < s.size → isDig (gb s i) = true) := digs_of_end HS.out
        have HP : Hid (0 < s.size) := by unfold Hid; omega
        clear hz h0 hde hlt
        clear hD HD
        go_enter Tryz.func20, Tryz.ntmps20
        go_wp2_with (first
          | (go_at_call 36; refine (row3_any s _ (by decide) _ hm).mono ?_; rintro e w' ⟨he, rfl⟩; rw [HS.out] at he; subst he)
          | (go_at_call 37; fail))
        refine (number3_any s _ hm HDG.out).mono ?_
        rintro e w1 ⟨v1, l1, rfl, i1, o1, t1, n1, z1, b1⟩
        have I1 : Hid (Ints w1 v1 l1) := i1
        have O1 : Hid (okL l1) := o1
        have T1 : Hid (trimd l1) := t1
        have N1 : Hid (val l1 = digVal s s.size) := n1
        clear i1 o1 t1 n1
        go_wp2_with (go_at_call 38; fail)
        refine (ofWord3_any M _ hlt64.out).mono ?_
        rintro e w2 ⟨v2, l2, rfl, i2, o2, t2, n2, z2, b2⟩
        have I1' : Hid (Ints w2 v1 l1) := I1.out.below b2
        have I2 : Hid (Ints w2 v2 l2) := i2
        have O2 : Hid (okL l2) := o2
        have T2 : Hid (trimd l2) := t2
        have N2 : Hid (val l2 = M) := n2
        have B2 : Below w.heap.size w w2 := b1.trans (b2.mono b1.size)
        clear i2 o2 t2 n2 I1 b1 b2
        go_wp2_with (go_at_call 39; fail)
        refine (compare3_any v1 v2 l1 l2 _ (by omega) z2 I1'.out I2.out O1.out O2.out T1.out T2.out).mono ?_
        rintro e w3 ⟨c, rfl, hc, b3⟩
        have I3 : Hid (Ints w3 v1 l1) := I1'.out.below b3
        have B3 : Below w.heap.size w w3 := B2.trans (b3.mono B2.size)
        have HC : Hid (0 < c ↔ val l2 < val l1) := hc
        clear hc I1' I2 b3 B2
        by_cases hcp : 0 < c
        · have HN : Hid (¬ isNum s M) := fun h => by
            have h1 := HC.out.1 hcp
            rw [N1.out, N2.out] at h1
            have := h.2.2; omega
          go_wp2
          go_ret3
          exact intPost_no HN.out (by decide) B3
        · have HY : Hid (isNum s M) := ⟨HP.out, HS.out, by
            have h1 : ¬ val l2 < val l1 := fun h => hcp (HC.out.2 h)
            rw [N1.out, N2.out] at h1
            omega⟩
          have HVM : Hid (val l1 ≤ M) := by unfold Hid; rw [N1.out]; exact HY.out.2.2
          obtain ⟨A, cap, rfl, e1, e2, _⟩ := I3.out
          unfold maxLen at e2
          go_wp2
          go_loop [11, 12] (fun nv jv => (∃ m : Nat, jv = .int .i64 m ∧ m < l1.length ∧ nv = .int .i64 (val (l1.drop (m + 1)) : Nat)) ∨ (jv = .int .i64 (-1) ∧ nv = .int .i64 (val l1 : Nat))) (fun _ jv => (intOf jv + 1).toNat)
          case atStart =>
            by_cases h0 : l1.length = 0
            · exact .inr ⟨by rw [h0]; rfl, by rw [List.eq_nil_of_length_eq_zero h0]; rfl⟩
            · exact .inl ⟨l1.length - 1, by congr 1; omega, by omega, by rw [List.drop_eq_nil_of_le (by omega)]; rfl⟩
          case round => as_aux_lemma =>
            rcases hrel with ⟨m, rfl, hmm, rfl⟩ | ⟨rfl, rfl⟩
            · obtain ⟨g, rfl, hg, hcell⟩ := Ints.at I3.out hmm
              have hvd := val_drop hmm
              have hvl := val_drop_le l1 m
              obtain ⟨n, hn⟩ : ∃ n, n = val (l1.drop (m + 1)) := ⟨_, rfl⟩
              rw [← hn] at hvd ⊢
              generalize l1[m] = x at hcell hvd
              have hs1 : IntKind.i64.wrap ((n : Int) * 16777216) = (n : Int) * 16777216 := IntWalk.i64_in _ (by have := HM.out; have := HVM.out; omega)
              have hs2 : IntKind.i64.wrap ((n : Int) * 16777216 + (x : Int)) = (n : Int) * 16777216 + (x : Int) := IntWalk.i64_in _ (by have := HM.out; have := HVM.out; omega)
              have HVD : Hid (val (l1.drop m) = n * 16777216 + x) := hvd
              clear hvd hvl hn
              go_wp2
              go_round
              case rel =>
                by_cases h0 : m = 0
                · subst h0
                  refine .inr ⟨rfl, ?_⟩
                  have := HVD.out
                  rw [List.drop_zero] at this
                  rw [this]; congr 1
                · refine .inl ⟨m - 1, by congr 1; omega, by omega, ?_⟩
                  rw [show m - 1 + 1 = m by omega, HVD.out]; congr 1
              case measure => simp [intOf] <;> omega
            · go_wp2
              go_ret3
              have hR := intPost_yes HY.out B3
              rw [← N1.out] at hR
              exact hR

/-- the document's uint64 printed -/
theorem size8_any (w : World) : Calls Tryz.prog 79 #[.int .i64 8] w fun e w' => e = .returned (.int .i64 8) ∧ w = w' := by
  go_enter Tryz.func79, Tryz.ntmps79
  go_wp2
  go_ret
  exact ⟨rfl, rfl⟩
theorem signed8_any (w : World) : Calls Tryz.prog 63 #[.int .i64 8] w fun e w' => e = .returned (.bool false) ∧ w = w' := by
  go_enter Tryz.func63, Tryz.ntmps63
  go_wp2
  go_ret
  exact ⟨rfl, rfl⟩
/-- all bits of n -/
def ones : Nat → Nat
  | 0 => 0
  | n + 1 => 2 * ones n + 1
theorem ones_lt (n : Nat) : ones n < 2 ^ n := by
  induction n with
  | zero => decide
  | succ n ih => rw [ones, Nat.pow_succ]; omega
theorem bits64_any (w : World) : Calls Tryz.prog 82 #[.int .i64 64] w fun e w' => e = .returned (.int .u64 (ones 64 : Nat)) ∧ w = w' := by
  go_enter Tryz.func82, Tryz.ntmps82
  go_wp2
  go_loop [3, 4] (fun nv iv => ∃ k : Nat, iv = .int .i64 k ∧ k ≤ 64 ∧ nv = .int .u64 (ones k : Nat)) (fun _ iv => 64 - (intOf iv).toNat)
  case atStart => exact ⟨0, rfl, by omega, rfl⟩
  case round =>
    obtain ⟨k, rfl, hk, rfl⟩ := hrel
    by_cases hlt : k < 64
    · have h1 := ones_lt k
      have h2 : 2 ^ k ≤ 2 ^ 63 := Nat.pow_le_pow_right (by decide) (by omega)
      obtain ⟨o, ho⟩ : ∃ o, o = ones k := ⟨_, rfl⟩
      have HO : Hid (ones (k + 1) = 2 * o + 1) := by unfold Hid; rw [ho]; rfl
      rw [← ho] at h1 ⊢
      have hw1 : IntKind.u64.wrap (2 * (o : Int)) = 2 * (o : Int) := by simp [IntKind.wrap, IntKind.bits, IntKind.signed]; omega
      have hw2 : IntKind.u64.wrap (2 * (o : Int) + 1) = 2 * (o : Int) + 1 := by simp [IntKind.wrap, IntKind.bits, IntKind.signed]; omega
      clear h1 h2 ho
      go_wp2
      go_round
      case rel => exact ⟨k + 1, by go_num, by omega, by rw [HO.out]; congr 1⟩
      case measure => simp [intOf]; omega
    · obtain rfl : k = 64 := by omega
      go_wp2
      go_ret
      exact ⟨rfl, rfl⟩
theorem fits8_any (n : Nat) (hn : n < 18446744073709551616) (w : World) : Calls Tryz.prog 60 #[.int .i64 8, .int .u64 n] w fun e w' => e = .returned (.bool true) ∧ w = w' := by
  have hle : (n : Int) ≤ (ones 64 : Nat) := by have : ones 64 = 18446744073709551615 := by decide
                                               rw [this]; omega
  obtain ⟨M, hM⟩ : ∃ M : Nat, M = ones 64 := ⟨_, rfl⟩
  have HM : Hid (ones 64 = M) := hM.symm
  rw [← hM] at hle
  have HB : Hid (∀ w : World, Calls Tryz.prog 82 #[.int .i64 64] w fun e w' => e = .returned (.int .u64 (M : Nat)) ∧ w = w') := by unfold Hid; rw [hM]; exact bits64_any
  clear hM hn
  go_enter Tryz.func60, Tryz.ntmps60
  go_wp2_with (first
    | (go_at_call 79; refine (size8_any _).mono ?_; rintro e w' ⟨rfl, rfl⟩)
    | (go_at_call 63; refine (signed8_any _).mono ?_; rintro e w' ⟨rfl, rfl⟩)
    | (go_at_call 82; refine (HB.out _).mono ?_; rintro e w' ⟨rfl, rfl⟩))
  go_ret
  exact ⟨rfl, rfl⟩

set_option maxHeartbeats 800000 in
theorem decimal3_any (n0 : Nat) (hn0 : n0 < 18446744073709551616) (w : World) :
    Calls Tryz.prog 62 #[.int .u64 n0] w fun e w' => e = .returned (.string (dgt n0)) ∧ Below w.heap.size w w' := by
  obtain ⟨M, hM⟩ : ∃ M : Nat, M = 18446744073709551616 := ⟨_, rfl⟩
  have HM : Hid (M = 18446744073709551616) := hM
  rw [← hM] at hn0
  clear hM
  go_enter Tryz.func62, Tryz.ntmps62
  go_wp2
  go_loopw [0, 3] (fun a t wr => ∃ (n r : Nat) (s : ByteArray), a = .int .u64 n ∧ n < M ∧ r ≤ 20 ∧ s.size ≤ r ∧ Hid (n < 10 ^ (20 - r)) ∧ t = .string s ∧ Hid (dgt n0 = dgt n ++ s) ∧ Below w.heap.size w wr) (fun a _ _ => (intOf a).toNat)
  case atStart => exact ⟨n0, 0, ⟨#[]⟩, rfl, hn0, by omega, Nat.le_refl _, by unfold Hid; have := HM.out; simp; omega, rfl, (ByteArray.append_empty).symm, Below.refl _ _⟩
  case round => as_aux_lemma =>
    obtain ⟨n, r, s, rfl, hn, hr, hsz, HR, rfl, HD, hbel⟩ := hrel
    have hn10 : n % 10 < 10 := Nat.mod_lt _ (by decide)
    have h1 : (strOfNums [48 + (n : Int) % 10]).size + s.size ≤ 2000001 := by rw [strOfNums_size]; simp; omega
    have hw1 : IntKind.u64.wrap (48 + (n : Int) % 10) = 48 + (n : Int) % 10 := by simp [IntKind.wrap, IntKind.bits, IntKind.signed]; omega
    have hw2 : IntKind.u8.wrap (48 + (n : Int) % 10) = 48 + (n : Int) % 10 := by simp [IntKind.wrap, IntKind.bits, IntKind.signed]; omega
    have HC2 : Hid (IntKind.u64.wrap ((n : Int) / 10) = ((n / 10 : Nat) : Int)) := by
      unfold Hid
      have h1 := HM.out
      have h2 : n < 18446744073709551616 := by omega
      simp [IntKind.wrap, IntKind.bits, IntKind.signed]; omega
    have hone : ∀ i, i < 1 → (wr.alloc (.cells #[.int .u8 (48 + (n : Int) % 10)] 5)).cell? ⟨wr.heap.size, 0 + i, none⟩ = some (.int .u8 ([48 + (n : Int) % 10].getD i 0)) := by
      intro i hi
      obtain rfl : i = 0 := by omega
      simp
    have hconv : (convert 29 9 (.slice (some ⟨wr.heap.size, 0, none⟩) 1 1)).run Tryz.prog (wr.alloc (.cells #[.int .u8 (48 + (n : Int) % 10)] 5)) = .ok (.string (strOfNums [48 + (n : Int) % 10])) (wr.alloc (.cells #[.int .u8 (48 + (n : Int) % 10)] 5)) :=
      run_convert_bytes_arg (P := Tryz.prog) _ _ _ Tryz.underlying29 Tryz.underlying5 wr.heap.size 0 1 1 [48 + (n : Int) % 10] rfl hone _ Tryz.underlying9
    clear hone
    by_cases h10 : n < 10
    · have HL : Hid (dgt n0 = strOfNums [48 + (n : Int) % 10] ++ s) := by
        unfold Hid; rw [HD.out, dgt_last h10, show (n : Int) % 10 = n by omega]
      have e1 : ((IntKind.u64.wrap ((n : Int) / 10) == 0) : Bool) = true := by rw [HC2.out]; simp; omega
      clear h10
      go_wp2
      go_ret
      exact ⟨by rw [HL.out]; rfl, hbel.alloc hbel.size _⟩
    · have HL : Hid (dgt n0 = dgt (n / 10) ++ (strOfNums [48 + (n : Int) % 10] ++ s)) := by
        unfold Hid; rw [HD.out, dgt_more h10, ByteArray.append_assoc]
      have e1 : ((IntKind.u64.wrap ((n : Int) / 10) == 0) : Bool) = false := by rw [HC2.out]; simp; omega
      have hr20 : r < 20 := by
        have h := HR.out
        rcases Nat.lt_or_ge r 20 with h2 | h2
        · exact h2
        · rw [show 20 - r = 0 by omega] at h; simp at h; omega
      have HR2 : Hid (n / 10 < 10 ^ (20 - (r + 1))) := by
        have h := HR.out
        unfold Hid
        rw [show 20 - r = (20 - (r + 1)) + 1 by omega, Nat.pow_succ] at h
        exact Nat.div_lt_of_lt_mul (by rwa [Nat.mul_comm])
      have hnM : n / 10 < M := by omega
      have h10' : 10 ≤ n := by omega
      clear h10
      go_wp2
      go_roundw
      case rel => exact ⟨n / 10, r + 1, _, by rw [HC2.out], hnM, by omega, by rw [ByteArray.size_append, strOfNums_size]; simp; omega, HR2, rfl, HL, hbel.alloc hbel.size _⟩
      case measure =>
        show (IntKind.u64.wrap ((n : Int) / 10)).toNat < ((n : Int)).toNat
        rw [HC2.out]; omega
theorem print8_any (n : Nat) (hn : n < 18446744073709551616) (w : World) :
    Calls Tryz.prog 40 #[.int .i64 8, .int .u64 n] w fun e w' => e = .returned (.tuple #[.string (dgt n), .int .i64 0]) ∧ Below w.heap.size w w' := by
  have HN : Hid (n < 18446744073709551616) := hn
  clear hn
  go_enter Tryz.func40, Tryz.ntmps40
  go_wp2_with (first
    | (go_at_call 60; refine (fits8_any _ HN.out _).mono ?_; rintro e w' ⟨rfl, rfl⟩)
    | (go_at_call 63; refine (signed8_any _).mono ?_; rintro e w' ⟨rfl, rfl⟩)
    | (go_at_call 62; refine (decimal3_any _ HN.out _).mono ?_; rintro e w' ⟨rfl, hb⟩))
  go_ret2
  exact ⟨rfl, hb⟩
theorem decimal22_any (n : Nat) (hn : n < 9223372036854775808) (w : World) :
    Calls Tryz.prog 21 #[.int .i64 n] w fun e w' => e = .returned (.string (dgt n)) ∧ Below w.heap.size w w' := by
  have HN : Hid (n < 18446744073709551616) := by unfold Hid; omega
  have hw : IntKind.u64.wrap (n : Int) = (n : Int) := by simp [IntKind.wrap, IntKind.bits, IntKind.signed]; omega
  clear hn
  go_enter Tryz.func21, Tryz.ntmps21
  go_wp2_with (go_at_call 40; refine (print8_any _ HN.out _).mono ?_; rintro e w' ⟨rfl, hb⟩)
  go_ret
  exact ⟨rfl, hb⟩
end Go.Proofs.YtjohlabdjdhpfaaGreatDoor.R3
