/-
  Walks: the document's reading of a number from 0 on: digits to limbs, limbs compared, limbs to a word.
-/
import Derived.Test.YtijnbohjcmcfjaaGreatDoorLRef3a
namespace Go.Proofs.YtijnbohjcmcfjaaGreatDoor.R3
open Go.RowKit Go.Proofs.YtijnbohjcmcfjaaGreatDoor.Kt Go.Proofs.YtijnbohjcmcfjaaGreatDoor.Lk Go.Proofs.YtijnbohjcmcfjaaGreatDoor.Rw Go.Proofs.YtijnbohjcmcfjaaGreatDoor.Bg
set_option linter.unusedSimpArgs false
set_option linter.unusedVariables false
set_option maxRecDepth 100000

/-- a number in limbs -/
def NumPost (N n : Nat) (w : World) (e : Ending) (w' : World) : Prop :=
  ∃ v l, e = .returned v ∧ Ints w' v l ∧ okL l ∧ trimd l ∧ val l = N ∧ l.length ≤ n ∧ Below w.heap.size w w'
set_option maxHeartbeats 1600000 in
theorem number3_any (s : ByteArray) (w : World) (hm : s.size ≤ 1048576) (hd : ∀ i, i < s.size → isDig (gb s i) = true) :
    Calls Tryz.prog 50 #[.string s, .int .i64 10] w (NumPost (digVal s s.size) s.size w) := by
  have HD : Hid (∀ i, i < s.size → isDig (gb s i) = true) := hd
  clear hd
  go_enter Tryz.func50, Tryz.ntmps50
  go_wp2
  go_loopw [5, 6] (fun av iv wr => ∃ (k : Nat) (l : List Nat), iv = .int .i64 k ∧ k ≤ s.size ∧ l.length ≤ k ∧ Hid (Ints wr av l) ∧ Hid (okL l) ∧ Hid (trimd l) ∧ Hid (val l = digVal s k) ∧ Below w.heap.size w wr) (fun _ iv _ => s.size - (intOf iv).toNat)
  case atStart => exact ⟨0, [], rfl, Nat.zero_le _, Nat.zero_le _, Ints.nil _, fun x hx => absurd hx (by simp), trimd_nil, rfl, Below.refl _ _⟩
  case round => as_aux_lemma =>
    obtain ⟨k, l, rfl, hk, hlk, HI, HO, HT, HV, hB⟩ := hrel
    by_cases hlt : k < s.size
    · have hb := (gb_lt hlt).symm
      have H1 : Hid (isDig (gb s k) = true) := HD.out k hlt
      have h9 : gb s k - 48 ≤ 9 := by have h : 48 ≤ gb s k ∧ gb s k ≤ 57 := by simpa [isDig] using H1.out
                                      omega
      have HN : Hid ((gb s k - 48) + 10 * val l = digVal s (k + 1)) := by unfold Hid; rw [HV.out]; show _ = digVal s k * 10 + _; omega
      go_wp2_with (first
        | (go_at_call 74; refine (worth3_dig _ H1.out _).mono ?_; rintro e w' ⟨rfl, rfl⟩)
        | (go_at_call 75; refine (times3_any _ l _ _ (by omega) h9 HI.out HO.out).mono ?_; rintro e w' ⟨v, l2, rfl, HI2, HO2, HT2, HV2, hl2, hb2⟩))
      have HI3 : Hid (Ints w' v l2) := HI2
      have HO3 : Hid (okL l2) := HO2
      have HT3 : Hid (trimd l2) := HT2
      have HV3 : Hid (val l2 = digVal s (k + 1)) := HV2.trans HN.out
      clear HI2 HO2 HT2 HV2
      go_wp2
      go_roundw
      case rel => exact ⟨k + 1, l2, by go_num, by omega, by omega, HI3, HO3, HT3, HV3, hB.trans (hb2.mono hB.size)⟩
      case measure => simp [intOf]; omega
    · obtain rfl : k = s.size := by omega
      go_wp2
      go_ret
      exact ⟨_, l, rfl, HI.out, HO.out, HT.out, HV.out, hlk, hB⟩

/-- the limbs of a word, in as many rounds -/
theorem ofWord_go (n : Nat) (b : List Nat) (N : Nat) (h : val b + 16777216 ^ b.length * n = N) : val (b ++ [n % 16777216]) + 16777216 ^ (b ++ [n % 16777216]).length * (n / 16777216) = N := by
  rw [List.length_append]; exact last_eq b b.length n N rfl h
set_option maxHeartbeats 1600000 in
theorem ofWord3_any (N : Nat) (w : World) (hN : N < 18446744073709551616) :
    Calls Tryz.prog 51 #[.int .u64 N] w (NumPost N 1048576 w) := by
  obtain ⟨i1, hi1, hz10, hz11, hz12⟩ := info_parts infoI64
  obtain ⟨M, hM⟩ : ∃ M : Nat, M = 18446744073709551616 := ⟨_, rfl⟩
  have HM : Hid (M = 18446744073709551616) := hM
  rw [← hM] at hN
  clear hM
  go_enter Tryz.func51, Tryz.ntmps51
  go_wp2
  go_loopw [0, 3] (fun nv bv wr => ∃ (n : Nat) (b : List Nat), nv = .int .u64 n ∧ n ≤ N ∧ b.length ≤ 4 ∧ Hid (n < 16777216 ^ (4 - b.length)) ∧ Hid (okL b) ∧ Hid (n = 0 → trimd b) ∧ Hid (val b + 16777216 ^ b.length * n = N) ∧ wr.ownsRow w.heap.size 3 1 bv b.length (nC b) ∧ Below w.heap.size w wr) (fun nv _ _ => (intOf nv).toNat)
  case atStart => exact ⟨N, [], rfl, Nat.le_refl _, Nat.zero_le _, by unfold Hid; have := HM.out; simp; omega, fun x hx => absurd hx (by simp), fun _ => trimd_nil, by unfold Hid; simp [val], World.ownsRow_nil _ _ _ _, Below.refl _ _⟩
  case round => as_aux_lemma =>
    obtain ⟨n, b, rfl, hn, hb4, H4, HO, HT, HV, hown, hB⟩ := hrel
    have HOWN : Hid (wr.ownsRow w.heap.size 3 1 u3 b.length (nC b)) := hown
    clear hown
    by_cases hn0 : n = 0
    · subst hn0
      have HVF : Hid (val b = N) := by have := HV.out; unfold Hid; simpa using this
      have HTT : Hid (trimd b) := HT.out rfl
      have HRI : Hid (Ints wr u3 b) := Ints.of_row HOWN.out
      clear HV HT H4
      go_wp2
      go_ret
      exact ⟨_, b, rfl, HRI.out, HO.out, HTT.out, HVF.out, by omega, hB⟩
    · have hpos : (0 : Int) < (n : Int) := by omega
      have HV2 : Hid (val (b ++ [n % 16777216]) + 16777216 ^ (b ++ [n % 16777216]).length * (n / 16777216) = N) := ofWord_go n b N HV.out
      have hb3 : b.length ≤ 3 := by
        have h := H4.out
        rcases Nat.lt_or_ge 3 b.length with h3 | h3
        · obtain h5 : 4 - b.length = 0 := by omega
          rw [h5] at h; simp at h; omega
        · exact h3
      have H42 : Hid (n / 16777216 < 16777216 ^ (4 - (b ++ [n % 16777216]).length)) := by
        unfold Hid
        have h := H4.out
        rw [List.length_append]
        rw [show 4 - b.length = (4 - (b.length + [n % 16777216].length)) + 1 by simp; omega, Nat.pow_succ] at h
        exact Nat.div_lt_of_lt_mul (by rwa [Nat.mul_comm])
      have HT2 : Hid (n / 16777216 = 0 → trimd (b ++ [n % 16777216])) := fun h0 x hx => by
        rw [List.getLast?_concat] at hx
        have := Option.some.inj hx
        omega
      have HC1 : Hid (IntKind.i64.wrap ((n : Int) % 16777216) = ((n % 16777216 : Nat) : Int)) := by
        unfold Hid
        rw [IntWalk.i64_in _ (by omega)]; omega
      have HC2 : Hid (IntKind.u64.wrap ((n : Int) / 16777216) = ((n / 16777216 : Nat) : Int)) := by
        unfold Hid
        have h1 := HM.out
        have h2 : n < 18446744073709551616 := by omega
        simp [IntKind.wrap, IntKind.bits, IntKind.signed]; omega
      have hle : n / 16777216 ≤ N := by omega
      clear HV HT H4
      go_wp2_with (at_builtin; refine wpList_append_own_at _ rfl _ _ 81 rfl w.heap.size 3 i1 (.int .i64 0) 1 8 Tryz.underlying81 hi1 hz10 hz11 hz12 rfl (by decide) u3 b.length (nC b) rfl (World.ownsRow.alloc HOWN.out _) ⟨wr.heap.size, 0, none⟩ 1 1 [.int .i64 ((n : Int) % 16777216)] rfl rfl ?c1 ?c2 ?c3 ?c4 ?c5 ?_)
      case c1 => exact new_cells _ _ _
      case c2 => intro u hu; simp at hu; rcases hu with rfl; rfl
      case c3 => unfold maxLen; omega
      case c4 => omega
      case c5 => have := hB.size; simp; omega
      intro v' w1 hown' hgrow _ _
      have HC3 : Hid ((n : Int) % 16777216 = ((n % 16777216 : Nat) : Int)) := by unfold Hid; omega
      have HO2 : Hid (w1.ownsRow w.heap.size 3 1 v' (b ++ [n % 16777216]).length (nC (b ++ [n % 16777216]))) := by
        unfold Hid
        rw [nC_snoc, List.length_append, ← HC3.out]
        exact hown'
      have HBB : Hid (Below w.heap.size w w1) := below_row ((hB.alloc hB.size _)) (by have := hB.size; simp; omega) (World.ownsRow.alloc HOWN.out _) hgrow
      clear hown' hgrow
      go_wp2
      go_roundw
      case rel => exact ⟨n / 16777216, b ++ [n % 16777216], by rw [HC2.out], hle, by rw [List.length_append]; simp; omega, H42, okL_snoc HO.out (Nat.mod_lt _ (by decide)), HT2, HV2, HO2.out, HBB.out⟩
      case measure =>
        show (IntKind.u64.wrap ((n : Int) / 16777216)).toNat < ((n : Int)).toNat
        rw [HC2.out]; omega

/-- what compare answers -/
def CmpPost (a b : List Nat) (w : World) (e : Ending) (w' : World) : Prop := ∃ c : Int, e = .returned (.int .i64 c) ∧ (0 < c ↔ val b < val a) ∧ Below w.heap.size w w'
set_option maxHeartbeats 1600000 in
theorem compare3_any (u v : Value) (a b : List Nat) (w : World) (ha : a.length ≤ 1048576) (hb : b.length ≤ 1048576) (hu : Ints w u a) (hv : Ints w v b) (oa : okL a) (ob : okL b) (ta : trimd a) (tb : trimd b) :
    Calls Tryz.prog 52 #[u, v] w (CmpPost a b w) := by
  have HU : Hid (Ints w u a) := hu
  have HV : Hid (Ints w v b) := hv
  have OA : Hid (okL a) := oa
  have OB : Hid (okL b) := ob
  obtain ⟨A, ca, rfl, a1, a2, _⟩ := hu
  obtain ⟨B, cb, rfl, b1, b2, _⟩ := hv
  by_cases hlen : a.length = b.length
  · have HL : Hid (a.length = b.length) := hlen
    have hd1 : (((a.length : Nat) : Int) == ((b.length : Nat) : Int)) = true := by simp [hlen]
    have hd2 : (((a.length : Nat) : Int) != ((b.length : Nat) : Int)) = false := by simp [hlen]
    have hab : a.length ≤ b.length := by omega
    have hba : b.length ≤ a.length := by omega
    have hd3 : (a.length != b.length) = false := by simp [hlen]
    clear hlen oa ob ta tb
    go_enter Tryz.func52, Tryz.ntmps52
    go_wp2
    go_loopw [5] (fun iv wr => ((∃ m : Nat, iv = .int .i64 m ∧ m < a.length ∧ Hid (a.drop (m + 1) = b.drop (m + 1))) ∨ (iv = .int .i64 (-1) ∧ Hid (a = b))) ∧ Below w.heap.size w wr) (fun iv _ => (intOf iv + 1).toNat)
    case atStart =>
      refine ⟨?_, Below.refl _ _⟩
      by_cases h0 : a.length = 0
      · have e1 : a = [] := List.eq_nil_of_length_eq_zero h0
        have e2 : b = [] := List.eq_nil_of_length_eq_zero (by have := HL.out; omega)
        exact .inr ⟨by rw [e1]; rfl, by unfold Hid; rw [e1, e2]⟩
      · exact .inl ⟨a.length - 1, by congr 1; omega, by omega, by unfold Hid; rw [List.drop_eq_nil_of_le (by omega), List.drop_eq_nil_of_le (by omega)]⟩
    case round => as_aux_lemma =>
      obtain ⟨hcase, hB⟩ := hrel
      rcases hcase with ⟨m, rfl, hm, HD⟩ | ⟨rfl, HE⟩
      · have hmb : m < b.length := by omega
        obtain ⟨g, rfl, hg, hcell⟩ := Ints.at (HU.out.below hB) hm
        obtain ⟨g2, rfl, hg2, hcell2⟩ := Ints.at (HV.out.below hB) hmb
        have HLT : Hid (a[m] < b[m] → val a < val b) := fun h => upper_lt OA.out HL.out hm hmb HD.out h
        have HGT : Hid (b[m] < a[m] → val b < val a) := fun h => upper_lt OB.out HL.out.symm hmb hm HD.out.symm h
        have HEQ : Hid (a[m] = b[m] → a.drop m = b.drop m) := fun h => by rw [List.drop_eq_getElem_cons hm, List.drop_eq_getElem_cons hmb, h, HD.out]
        generalize a[m] = x at hcell HLT HGT HEQ
        generalize b[m] = y at hcell2 HLT HGT HEQ
        by_cases h1 : x < y
        · go_wp2
          go_big_quiet (fail)
          go_wp2
          go_ret
          exact ⟨_, rfl, ⟨fun h => absurd h (by decide), fun h => absurd (HLT.out h1) (by omega)⟩, below_drewN hB _⟩
        · by_cases h2 : y < x
          · go_wp2
            go_big_quiet (fail)
            go_wp2
            go_big_quiet (fail)
            go_wp2
            go_ret
            exact ⟨_, rfl, ⟨fun _ => HGT.out h2, fun _ => by decide⟩, by first | exact below_drewN hB _ | exact below_drewN (below_drewN hB _) _⟩
          · have HD2 : Hid (a.drop m = b.drop m) := HEQ.out (by omega)
            go_wp2
            go_big_quiet (fail)
            go_wp2
            go_big_quiet (fail)
            go_wp2
            go_roundw
            case rel =>
              refine ⟨?_, by first | exact below_drewN hB _ | exact below_drewN (below_drewN hB _) _⟩
              by_cases h0 : m = 0
              · subst h0
                exact .inr ⟨rfl, by have := HD2.out; simp only [List.drop_zero] at this; exact this⟩
              · exact .inl ⟨m - 1, by congr 1; omega, by omega, by unfold Hid; rw [show m - 1 + 1 = m by omega]; exact HD2.out⟩
            case measure => simp [intOf] <;> omega
      · have HNE : Hid (¬ val b < val a) := by unfold Hid; rw [HE.out]; exact Nat.lt_irrefl _
        go_wp2
        go_ret
        exact ⟨_, rfl, ⟨fun h => absurd h (by decide), fun h => absurd h HNE.out⟩, hB⟩
  · have hd2 : (((a.length : Nat) : Int) != ((b.length : Nat) : Int)) = true := by simp; omega
    have hd3 : (a.length != b.length) = true := by simp; omega
    by_cases h1 : a.length < b.length
    · have HLT : Hid (val a < val b) := len_lt oa tb h1
      clear oa ob ta tb hlen
      go_enter Tryz.func52, Tryz.ntmps52
      go_wp2
      go_ret
      exact ⟨_, rfl, ⟨fun h => absurd h (by decide), fun h => absurd HLT.out (by omega)⟩, Below.refl _ _⟩
    · have HGT : Hid (val b < val a) := len_lt ob ta (by omega)
      have h2 : b.length < a.length := by omega
      clear oa ob ta tb hlen
      go_enter Tryz.func52, Tryz.ntmps52
      go_wp2
      go_ret
      exact ⟨_, rfl, ⟨fun _ => HGT.out, fun _ => by decide⟩, Below.refl _ _⟩
end Go.Proofs.YtijnbohjcmcfjaaGreatDoor.R3
