/-
  Walks: the document's spaces and fields, numbers in decimal, errors as lines.
-/
import Derived.Test.YtijnbohjcmcfjaaGreatDoorLQe
import Derived.Test.YtijnbohjcmcfjaaGreatDoorLRefSym
namespace Go.Proofs.YtijnbohjcmcfjaaGreatDoor.Sc
open Go.RowKit Go.Proofs.YtijnbohjcmcfjaaGreatDoor.Kt Go.Proofs.YtijnbohjcmcfjaaGreatDoor.Lk Go.Proofs.YtijnbohjcmcfjaaGreatDoor.Sp Go.Proofs.YtijnbohjcmcfjaaGreatDoor.Rw Go.Proofs.YtijnbohjcmcfjaaGreatDoor.Rg
open Go.Proofs.YtijnbohjcmcfjaaGreatDoor.Nu (dgt Sizes isInt pwOf dgt_last dgt_more)
set_option linter.unusedSimpArgs false
set_option linter.unusedVariables false
set_option maxRecDepth 100000

theorem rskip_any (s : ByteArray) (k : Nat) (w : World) (hk : k ≤ s.size) (hm : s.size ≤ 268435456) : Calls Tryz.prog 22 #[.string s, .int .i64 k] w fun e w' => e = .returned (.int .i64 (skipE s k)) ∧ w = w' := by
  go_enter Tryz.func22, Tryz.ntmps22
  go_wp2
  go_loop [1] (fun i => ∃ q : Nat, i = .int .i64 q ∧ q ≤ s.size ∧ Hid (skipE s q = skipE s k)) (fun i => s.size - (intOf i).toNat)
  case atStart => exact ⟨k, rfl, hk, rfl⟩
  case round =>
    obtain ⟨q, rfl, hq, HS⟩ := hrel
    by_cases hlt : q < s.size
    · have hb := (gb_lt hlt).symm
      by_cases h32 : gb s q = 32
      · have HN : Hid (skipE s (q + 1) = skipE s k) := by unfold Hid; rw [skipE_go hlt h32]; exact HS.out
        rw [h32] at hb
        clear h32
        go_wp2
        go_round
        case rel => exact ⟨q + 1, by go_num, by omega, HN⟩
        case measure => simp [intOf]; omega
      · have HN : Hid (skipE s k = q) := by unfold Hid; rw [← HS.out]; exact skipE_stop (fun h => h32 h.2)
        have e32 : (((gb s q : Nat) : Int) == 32) = false := by rw [beq_eq_false_iff_ne]; omega
        clear h32
        go_wp2
        go_ret
        exact ⟨by rw [HN.out]; rfl, rfl⟩
    · have HN : Hid (skipE s k = q) := by unfold Hid; rw [← HS.out]; exact skipE_stop (fun h => hlt h.1)
      obtain rfl : q = s.size := by omega
      go_wp2
      go_ret
      exact ⟨by rw [HN.out]; rfl, rfl⟩
theorem rend_any (s : ByteArray) (k : Nat) (w : World) (hk : k ≤ s.size) (hm : s.size ≤ 268435456) : Calls Tryz.prog 23 #[.string s, .int .i64 k] w fun e w' => e = .returned (.int .i64 (fieldE s k)) ∧ w = w' := by
  go_enter Tryz.func23, Tryz.ntmps23
  go_wp2
  go_loop [1] (fun i => ∃ q : Nat, i = .int .i64 q ∧ q ≤ s.size ∧ Hid (fieldE s q = fieldE s k)) (fun i => s.size - (intOf i).toNat)
  case atStart => exact ⟨k, rfl, hk, rfl⟩
  case round =>
    obtain ⟨q, rfl, hq, HS⟩ := hrel
    by_cases hlt : q < s.size
    · have hb := (gb_lt hlt).symm
      by_cases h32 : gb s q = 32
      · have HN : Hid (fieldE s k = q) := by unfold Hid; rw [← HS.out]; exact fieldE_stop (fun h => h.2 h32)
        rw [h32] at hb
        clear h32
        go_wp2
        go_ret
        exact ⟨by rw [HN.out]; rfl, rfl⟩
      · have HN : Hid (fieldE s (q + 1) = fieldE s k) := by unfold Hid; rw [fieldE_go hlt h32]; exact HS.out
        have e32 : (((gb s q : Nat) : Int) != 32) = true := by rw [bne_iff_ne]; omega
        clear h32
        go_wp2
        go_round
        case rel => exact ⟨q + 1, by go_num, by omega, HN⟩
        case measure => simp [intOf]; omega
    · have HN : Hid (fieldE s k = q) := by unfold Hid; rw [← HS.out]; exact fieldE_stop (fun h => hlt h.1)
      obtain rfl : q = s.size := by omega
      go_wp2
      go_ret
      exact ⟨by rw [HN.out]; rfl, rfl⟩
/-- a digit cut out of the row of digits -/
def digs : ByteArray := ⟨#[48, 49, 50, 51, 52, 53, 54, 55, 56, 57]⟩
theorem digs_at : ∀ n : Nat, n < 10 → digs.extract n (n + 1) = strOfNums [48 + (n : Int)] := by
  intro n hn
  have h : ∀ m : Fin 10, digs.extract m.val (m.val + 1) = strOfNums [48 + (m.val : Int)] := by decide
  exact h ⟨n, hn⟩
theorem digs_size : digs.size = 10 := rfl
theorem digs_lit (n : Nat) (hn : n < 10) : ({ data := #[48, 49, 50, 51, 52, 53, 54, 55, 56, 57] } : ByteArray).extract n (n + 1) = strOfNums [48 + (n : Int)] := digs_at n hn
theorem rdecimal_lt : ∀ (d n : Nat) (w : World), n < 10 ^ (d + 1) → d ≤ 18 → n < 9223372036854775808 → Calls Tryz.prog 29 #[.int .i64 n] w fun e w' => e = .returned (.string (dgt n)) ∧ ∃ m, w' = w.drewN m := by
  intro d
  induction d with
  | zero =>
    intro n w h _ _
    have hn : n < 10 := by simpa using h
    have HD : Hid (({ data := #[48, 49, 50, 51, 52, 53, 54, 55, 56, 57] } : ByteArray).extract n (n + 1) = dgt n) := by unfold Hid; rw [digs_lit n hn, dgt_last hn]
    clear h
    go_enter Tryz.func29, Tryz.ntmps29
    go_wp2
    go_ret
    exact ⟨by rw [← HD.out]; rfl, 0, rfl⟩
  | succ d ih =>
    intro n w h hd hlt
    by_cases hn : n < 10
    · exact ih n w (Nat.lt_of_lt_of_le hn (by have := Nat.pow_le_pow_right (n := 10) (by decide) (show 1 ≤ d + 1 by omega); simpa using this)) (by omega) hlt
    · skip
      have hq1 : n / 10 < 10 ^ (d + 1) := by
        rw [Nat.pow_succ] at h
        exact Nat.div_lt_of_lt_mul (by rwa [Nat.mul_comm])
      have IH : Hid (∀ w : World, Calls Tryz.prog 29 #[.int .i64 ((n : Int) / 10)] w fun e w' => e = .returned (.string (dgt (n / 10))) ∧ ∃ m, w' = w.drewN m) := fun w => by rw [show (n : Int) / 10 = ((n / 10 : Nat) : Int) by omega]; exact ih (n / 10) w hq1 (by omega) (by omega)
      have HD : Hid (dgt n = dgt (n / 10) ++ ({ data := #[48, 49, 50, 51, 52, 53, 54, 55, 56, 57] } : ByteArray).extract (n % 10) (n % 10 + 1)) := by unfold Hid; rw [dgt_more hn, digs_lit (n % 10) (Nat.mod_lt _ (by decide)), show ((n % 10 : Nat) : Int) = (n : Int) % 10 by omega]
      have hds := Nu.dgt_size (n / 10) (by omega)
      have hes : (({ data := #[48, 49, 50, 51, 52, 53, 54, 55, 56, 57] } : ByteArray).extract (n % 10) (n % 10 + 1)).size ≤ 1 := by rw [ByteArray.size_extract]; omega
      have hm10 : n % 10 < 10 := Nat.mod_lt _ (by decide)
      have h10 : 10 ≤ n := by omega
      have q0 : (n : Int) ≤ 9223372036854775807 := by omega
      have q0b : 0 ≤ (n : Int) / 10 := by omega
      have q0c : (n : Int) / 10 ≤ 922337203685477580 := by omega
      have q3 : IntKind.i64.wrap ((n : Int) % 10 + 1) = (n : Int) % 10 + 1 := IntWalk.i64_in _ (by omega)
      have q4 : ((n : Int) % 10 + 1).toNat = n % 10 + 1 := by omega
      have q4b : ((n : Int) % 10).toNat = n % 10 := by omega
      have q5 : 0 ≤ (n : Int) % 10 := by omega
      have q5b : 0 ≤ (n : Int) % 10 + 1 := by omega
      have q6 : (n : Int) % 10 ≤ (n : Int) % 10 + 1 := by omega
      have q7 : (n : Int) % 10 + 1 ≤ 10 := by omega
      clear h hd hn hq1 hlt hm10
      go_enter Tryz.func29, Tryz.ntmps29
      go_wp2
      go_big_quiet ((go_at_call 29; exact qdraw rfl (IH.out _)))
      go_wp2
      go_ret
      exact ⟨by rw [HD.out]; rfl, _, rfl⟩
end Go.Proofs.YtijnbohjcmcfjaaGreatDoor.Sc
/-
  Walks: any number in decimal; errors as lines.
-/
namespace Go.Proofs.YtijnbohjcmcfjaaGreatDoor.Sc
open Go.RowKit Go.Proofs.YtijnbohjcmcfjaaGreatDoor.Kt Go.Proofs.YtijnbohjcmcfjaaGreatDoor.Lk Go.Proofs.YtijnbohjcmcfjaaGreatDoor.Sp Go.Proofs.YtijnbohjcmcfjaaGreatDoor.Rw Go.Proofs.YtijnbohjcmcfjaaGreatDoor.Rg
open Go.Proofs.YtijnbohjcmcfjaaGreatDoor.Nu (dgt Sizes isInt pwOf dgt_last dgt_more)
set_option linter.unusedSimpArgs false
set_option linter.unusedVariables false
set_option maxRecDepth 100000

/-- any number in decimal -/
def itz (n : Int) : ByteArray := ⟨(Lib.itoa n).toArray⟩
theorem itz_pos {n : Int} (h : 0 ≤ n) : itz n = dgt n.toNat := by unfold itz Lib.itoa dgt; rw [if_neg (by omega)]
theorem itz_neg {m : Nat} (h : 0 < m) : itz (-(m : Int)) = ⟨#[45]⟩ ++ dgt m := by
  unfold itz Lib.itoa dgt
  rw [if_pos (by omega), Int.natAbs_neg, Int.natAbs_natCast]
  apply ByteArray.ext
  rw [ByteArray.data_append]
  show (45 :: Lib.decDigits m).toArray = #[45] ++ (Lib.decDigits m).toArray
  simp
theorem itz_size {n : Int} (h0 : -9223372036854775808 ≤ n) (h1 : n ≤ 9223372036854775807) : (itz n).size ≤ 21 := by
  by_cases h : 0 ≤ n
  · rw [itz_pos h]; have := Nu.dgt_size n.toNat (by omega); omega
  · obtain ⟨m, hm⟩ : ∃ m : Nat, n = -(m : Int) := ⟨n.natAbs, by omega⟩
    rw [hm, itz_neg (by omega), ByteArray.size_append]
    have := Nu.dgt_size m (by omega)
    have : (⟨#[45]⟩ : ByteArray).size = 1 := rfl
    omega
theorem itoaz_any (n : Int) (h0 : -9223372036854775808 ≤ n) (h1 : n ≤ 9223372036854775807) (w : World) (ht : Tab w) :
    Calls Tryz.prog 19 #[.int .i64 n] w fun e w' => e = .returned (.string (itz n)) ∧ Below w.heap.size w w' :=
  (Tryz.strconv_Itoa n h0 h1 w ht).mono fun e w' ⟨he, k, os, hw⟩ => by
    subst hw
    exact ⟨he, below_grow w k os⟩
theorem rdec (n : Nat) (h : n < 9223372036854775808) (w : World) : Calls Tryz.prog 29 #[.int .i64 n] w fun e w' => e = .returned (.string (dgt n)) ∧ ∃ m, w' = w.drewN m :=
  rdecimal_lt 18 n w (by have : (10 : Nat) ^ (18 + 1) = 10000000000000000000 := by decide
                         omega) (Nat.le_refl _) h
theorem rneg_lt : ∀ (d m : Nat) (w : World), 0 < m → m < 10 ^ (d + 1) → d ≤ 18 → m ≤ 9223372036854775808 → Calls Tryz.prog 34 #[.int .i64 (-(m : Int))] w fun e w' => e = .returned (.string (⟨#[45]⟩ ++ dgt m)) ∧ Below w.heap.size w w' := by
  intro d
  induction d with
  | zero =>
    intro m w h0 h _ _
    have hm : m < 10 := by simpa using h
    have HD : Hid (∀ w : World, Calls Tryz.prog 29 #[.int .i64 m] w fun e w' => e = .returned (.string (dgt m)) ∧ ∃ k, w' = w.drewN k) := fun w => rdec m (by omega) w
    have hds := Nu.dgt_size m (by omega)
    clear h
    go_enter Tryz.func34, Tryz.ntmps34
    go_wp2_with (go_at_call 29; fail)
    refine (HD.out _).mono ?_
    rintro e w' ⟨rfl, k, rfl⟩
    go_wp2
    go_ret
    exact ⟨rfl, below_drewN (Below.refl _ _) _⟩
  | succ d ih =>
    intro m w h0 h hd hlt
    by_cases hm : m < 10
    · exact ih m w h0 (Nat.lt_of_lt_of_le hm (by have := Nat.pow_le_pow_right (n := 10) (by decide) (show 1 ≤ d + 1 by omega); simpa using this)) (by omega) hlt
    · have hq1 : m / 10 < 10 ^ (d + 1) := by
        rw [Nat.pow_succ] at h
        exact Nat.div_lt_of_lt_mul (by rwa [Nat.mul_comm])
      have hq0 : 0 < m / 10 := by omega
      have IH : Hid (∀ w : World, Calls Tryz.prog 34 #[.int .i64 (-((m : Int) / 10))] w fun e w' => e = .returned (.string (⟨#[45]⟩ ++ dgt (m / 10))) ∧ Below w.heap.size w w') := fun w => by rw [show (m : Int) / 10 = ((m / 10 : Nat) : Int) by omega]; exact ih (m / 10) w hq0 hq1 (by omega) (by omega)
      have HD : Hid (∀ w : World, Calls Tryz.prog 29 #[.int .i64 ((m : Int) % 10)] w fun e w' => e = .returned (.string (dgt (m % 10))) ∧ ∃ k, w' = w.drewN k) := fun w => by rw [show (m : Int) % 10 = ((m % 10 : Nat) : Int) by omega]; exact rdec (m % 10) (by omega) w
      have hds := Nu.dgt_size (m / 10) (by omega)
      have hds2 := Nu.dgt_size (m % 10) (by omega)
      have hz : ((⟨#[45]⟩ : ByteArray) ++ dgt (m / 10)).size ≤ 21 := by
        rw [ByteArray.size_append]
        have : (⟨#[45]⟩ : ByteArray).size = 1 := rfl
        omega
      have HR : Hid ((⟨#[45]⟩ : ByteArray) ++ dgt m = (⟨#[45]⟩ ++ dgt (m / 10)) ++ dgt (m % 10)) := by
        unfold Hid
        rw [dgt_more hm, dgt_last (n := m % 10) (Nat.mod_lt _ (by decide)), ByteArray.append_assoc, show ((m % 10 : Nat) : Int) = (m : Int) % 10 by omega]
      have h10 : 10 ≤ m := by omega
      have hub : (m : Int) ≤ 9223372036854775808 := by omega
      clear h hd hm hq1 hq0 hlt h0
      go_enter Tryz.func34, Tryz.ntmps34
      go_wp2_with (go_at_call 34; fail)
      refine (IH.out _).mono ?_
      rintro e w1 ⟨rfl, hb1⟩
      go_wp2_with (go_at_call 29; fail)
      refine (HD.out _).mono ?_
      rintro e w' ⟨rfl, k, rfl⟩
      have HB : Hid (Below w.heap.size w (w1.drewN k)) := below_drewN hb1 k
      clear hb1
      go_wp2
      go_ret
      exact ⟨by rw [HR.out]; rfl, HB.out⟩
theorem rnumber_any (n : Int) (h0 : -9223372036854775808 ≤ n) (h1 : n ≤ 9223372036854775807) (w : World) : Calls Tryz.prog 34 #[.int .i64 n] w fun e w' => e = .returned (.string (itz n)) ∧ Below w.heap.size w w' := by
  by_cases h : 0 ≤ n
  · obtain ⟨m, rfl⟩ : ∃ m : Nat, n = (m : Int) := ⟨n.toNat, by omega⟩
    have HD : Hid (∀ w : World, Calls Tryz.prog 29 #[.int .i64 m] w fun e w' => e = .returned (.string (dgt m)) ∧ ∃ k, w' = w.drewN k) := fun w => rdec m (by omega) w
    have HR : Hid (itz (m : Int) = dgt m) := by unfold Hid; rw [itz_pos h, Int.toNat_natCast]
    clear h0 h1 h
    go_enter Tryz.func34, Tryz.ntmps34
    go_wp2_with (go_at_call 29; fail)
    refine (HD.out _).mono ?_
    rintro e w' ⟨rfl, k, rfl⟩
    go_wp2
    go_ret
    exact ⟨by rw [HR.out]; rfl, below_drewN (Below.refl _ _) _⟩
  · obtain ⟨m, rfl⟩ : ∃ m : Nat, n = -(m : Int) := ⟨n.natAbs, by omega⟩
    rw [itz_neg (by omega)]
    exact rneg_lt 18 m w (by omega) (by have : (10 : Nat) ^ (18 + 1) = 10000000000000000000 := by decide
                                        omega) (Nat.le_refl _) (by omega)
def refS (n : Int) : ByteArray := ⟨#[33, 32]⟩ ++ (⟨#[69]⟩ ++ itz n)
theorem error_any (n : Int) (h0 : -9223372036854775808 ≤ n) (h1 : n ≤ 9223372036854775807) (w : World) (ht : Tab w) : Calls Tryz.prog 56 #[.int .i64 n] w fun e w' => e = .returned (.string (⟨#[69]⟩ ++ itz n)) ∧ Below w.heap.size w w' := by
  have hz := itz_size h0 h1
  have HI : Hid (∀ w : World, Tab w → Calls Tryz.prog 19 #[.int .i64 n] w fun e w' => e = .returned (.string (itz n)) ∧ Below w.heap.size w w') := fun w ht => itoaz_any n h0 h1 w ht
  have HT : Hid (Tab w) := ht
  clear ht h0 h1
  go_enter Tryz.func56, Tryz.ntmps56
  go_wp2_with (go_at_call 19; fail)
  refine (HI.out _ HT.out).mono ?_
  rintro e w1 ⟨rfl, hb⟩
  go_wp2
  go_ret
  exact ⟨rfl, hb⟩
theorem refused_any (n : Int) (h0 : -9223372036854775808 ≤ n) (h1 : n ≤ 9223372036854775807) (w : World) (ht : Tab w) : Calls Tryz.prog 31 #[.int .i64 n] w fun e w' => e = .returned (.string (refS n)) ∧ Below w.heap.size w w' := by
  have hz := itz_size h0 h1
  have hz2 : ((⟨#[69]⟩ : ByteArray) ++ itz n).size ≤ 22 := by
    rw [ByteArray.size_append]
    have : (⟨#[69]⟩ : ByteArray).size = 1 := rfl
    omega
  have HI : Hid (∀ w : World, Tab w → Calls Tryz.prog 56 #[.int .i64 n] w fun e w' => e = .returned (.string (⟨#[69]⟩ ++ itz n)) ∧ Below w.heap.size w w') := fun w ht => error_any n h0 h1 w ht
  have HT : Hid (Tab w) := ht
  unfold refS
  clear ht h0 h1
  generalize (⟨#[69]⟩ : ByteArray) ++ itz n = E at hz2 HI ⊢
  go_enter Tryz.func31, Tryz.ntmps31
  go_wp2_with (go_at_call 56; fail)
  refine (HI.out _ HT.out).mono ?_
  rintro e w1 ⟨rfl, hb⟩
  go_wp2
  go_ret
  exact ⟨rfl, hb⟩
theorem rrefused_any (n : Int) (h0 : -9223372036854775808 ≤ n) (h1 : n ≤ 9223372036854775807) (w : World) : Calls Tryz.prog 33 #[.int .i64 n] w fun e w' => e = .returned (.string (refS n)) ∧ Below w.heap.size w w' := by
  have hz := itz_size h0 h1
  have HI : Hid (∀ w : World, Calls Tryz.prog 34 #[.int .i64 n] w fun e w' => e = .returned (.string (itz n)) ∧ Below w.heap.size w w') := fun w => rnumber_any n h0 h1 w
  have HR : Hid (refS n = ⟨#[33, 32, 69]⟩ ++ itz n) := by
    unfold Hid refS
    rw [← ByteArray.append_assoc]
    rfl
  clear h0 h1
  go_enter Tryz.func33, Tryz.ntmps33
  go_wp2_with (go_at_call 34; fail)
  refine (HI.out _).mono ?_
  rintro e w1 ⟨rfl, hb⟩
  go_wp2
  go_ret
  exact ⟨by rw [HR.out]; rfl, hb⟩
end Go.Proofs.YtijnbohjcmcfjaaGreatDoor.Sc
