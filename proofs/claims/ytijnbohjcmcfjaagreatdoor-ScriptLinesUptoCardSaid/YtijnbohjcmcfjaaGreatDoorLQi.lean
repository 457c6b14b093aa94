/-
  Walks: the document's texts in quotes, read.
-/
import Derived.Test.YtijnbohjcmcfjaaGreatDoorLQh
import Derived.Test.YtijnbohjcmcfjaaGreatDoorLUnq3
namespace Go.Proofs.YtijnbohjcmcfjaaGreatDoor.Sc
open Go.RowKit Go.Proofs.YtijnbohjcmcfjaaGreatDoor.Kt Go.Proofs.YtijnbohjcmcfjaaGreatDoor.Lk Go.Proofs.YtijnbohjcmcfjaaGreatDoor.Sp Go.Proofs.YtijnbohjcmcfjaaGreatDoor.Rw Go.Proofs.YtijnbohjcmcfjaaGreatDoor.Rg Go.Proofs.YtijnbohjcmcfjaaGreatDoor.Ap
open Go.Proofs.YtijnbohjcmcfjaaGreatDoor.Nu (worthI)
set_option linter.unusedSimpArgs false
set_option linter.unusedVariables false
set_option maxRecDepth 100000

theorem rw_any (c : Nat) (w : World) : Calls Tryz.prog 76 #[.int .u8 c, .bool true] w fun e w' => e = .returned (.int .i64 (worthI c)) ∧ w = w' := Hx.rworth_any c w
/-- what item answers -/
def RItem (s : ByteArray) (k : Nat) (w : World) (e : Ending) (w' : World) : Prop :=
  ((∃ (c : Int) (k' : Nat), itemF s k = .ok (c, k') ∧ e = .returned (.tuple #[.int .u8 c, .int .i64 (k' : Int), .bool true])) ∨
   (∃ (p y : Nat) (x : Int), itemF s k = .error p ∧ e = .returned (.tuple #[.int .u8 x, .int .i64 (y : Int), .bool false]) ∧ (gb s k ≠ 92 → p = k) ∧ (gb s k = 92 → y = p))) ∧ ∃ n, w' = w.drewN n
theorem ritem_ok {s : ByteArray} {k k' : Nat} {c : Int} {w : World} (h : itemF s k = .ok (c, k')) (n : Nat) : RItem s k w (.returned (.tuple #[.int .u8 c, .int .i64 (k' : Int), .bool true])) (w.drewN n) := ⟨.inl ⟨c, k', h, rfl⟩, n, rfl⟩
theorem ritem_no {s : ByteArray} {k p : Nat} {x : Int} {w : World} (h : itemF s k = .error p) (h92 : gb s k = 92) (n : Nat) : RItem s k w (.returned (.tuple #[.int .u8 x, .int .i64 (p : Int), .bool false])) (w.drewN n) :=
  ⟨.inr ⟨p, p, x, h, rfl, fun h => absurd h92 h, fun _ => rfl⟩, n, rfl⟩
theorem item_sign {s : ByteArray} {k c : Nat} (h92 : gb s k = 92) (hs : k + 1 < s.size) (hc : gb s (k + 1) = c) :
    itemF s k = if c = 92 ∨ c = 34 then .ok ((c : Int), k + 2) else if c = 110 then .ok (10, k + 2) else if c = 114 then .ok (13, k + 2) else if c = 116 then .ok (9, k + 2) else if c ≠ 120 then .error (k + 1) else if k + 2 = s.size then .error (k + 2)
      else if worthI (gb s (k + 2)) < 0 then .error (k + 2) else if k + 3 = s.size then .error (k + 3) else if worthI (gb s (k + 3)) < 0 then .error (k + 3) else .ok (16 * worthI (gb s (k + 2)) + worthI (gb s (k + 3)), k + 4) := by
  unfold itemF
  rw [if_neg (by omega), if_neg (by omega), hc]
set_option maxHeartbeats 3200000 in
theorem ritem_any (s : ByteArray) (k : Nat) (w : World) (hk : k < s.size) (hm : s.size ≤ 268435456) : Calls Tryz.prog 53 #[.string s, .int .i64 k] w (RItem s k w) := by
  have hb := (gb_lt hk).symm
  by_cases h92 : gb s k = 92
  · have H92 : Hid (gb s k = 92) := h92
    rw [h92] at hb
    clear h92
    by_cases he : k + 1 = s.size
    · have HI : Hid (itemF s k = .error (k + 1)) := by unfold Hid itemF; rw [if_neg (by have := H92.out; omega), if_pos he]
      have e1 : ((k : Int) + 1 == (s.size : Int)) = true := by rw [beq_iff_eq]; omega
      have HE : Hid ((s.size : Int) = ((k + 1 : Nat) : Int)) := by unfold Hid; omega
      clear he
      go_enter Tryz.func53, Tryz.ntmps53
      go_wp2
      go_ret3
      have := ritem_no (x := 0) (w := w) HI.out H92.out 0
      rw [← HE.out] at this
      exact this
    · have hk1 : k + 1 < s.size := by omega
      have hb1 := (gb_lt hk1).symm
      have e1 : ((k : Int) + 1 == (s.size : Int)) = false := by rw [beq_eq_false_iff_ne]; omega
      obtain ⟨c, hc⟩ : ∃ c, gb s (k + 1) = c := ⟨_, rfl⟩
      have HI : Hid (itemF s k = if c = 92 ∨ c = 34 then .ok ((c : Int), k + 2) else if c = 110 then .ok (10, k + 2) else if c = 114 then .ok (13, k + 2) else if c = 116 then .ok (9, k + 2) else if c ≠ 120 then .error (k + 1) else if k + 2 = s.size then .error (k + 2)
        else if worthI (gb s (k + 2)) < 0 then .error (k + 2) else if k + 3 = s.size then .error (k + 3) else if worthI (gb s (k + 3)) < 0 then .error (k + 3) else .ok (16 * worthI (gb s (k + 2)) + worthI (gb s (k + 3)), k + 4)) := item_sign H92.out hk1 hc
      rw [hc] at hb1
      clear he hc
      go_enter Tryz.func53, Tryz.ntmps53
      go_wp2
      go_loopg [7] 5 (fun mm j wr => ∃ q n : Nat, mm = 5 - q ∧ j = .int .i64 q ∧ q ≤ 5 ∧ (∀ i, i < q → [92, 34, 110, 114, 116].getD i 0 ≠ c) ∧ wr = w.drewN n)
      case atStart => exact ⟨0, 0, rfl, rfl, by omega, fun _ h => absurd h (by omega), rfl⟩
      case round =>
        obtain ⟨q, n, hmm, rfl, hq, hne, rfl⟩ := hrel
        have HM : Hid (gk = 5 - q) := hmm
        have HN : Hid (∀ i, i < q → [92, 34, 110, 114, 116].getD i 0 ≠ c) := hne
        clear hmm hne
        have hcase : q = 0 ∨ q = 1 ∨ q = 2 ∨ q = 3 ∨ q = 4 ∨ q = 5 := by omega
        rcases hcase with rfl | rfl | rfl | rfl | rfl | rfl
        · as_aux_lemma =>
          by_cases he : c = 92
          · obtain rfl : c = 92 := he
            have HR : Hid (itemF s k = .ok (92, k + 2)) := by unfold Hid; rw [HI.out, if_pos (.inl rfl)]; try rfl
            clear HN hq HM
            go_wp2
            go_big_quiet (fail)
            go_wp2
            go_ret3
            have := ritem_ok (w := w) HR.out (n + nq)
            exact this
          · have e3 : ((92 : Int) == ((c : Nat) : Int)) = false := by rw [beq_eq_false_iff_ne]; omega
            have e4 : ((((({ data := #[92, 34, 110, 114, 116] } : ByteArray)[0]'(by decide)).toNat : Nat) : Int) == ((c : Nat) : Int)) = false := e3
            have HN2 : Hid (∀ i, i < 0 + 1 → [92, 34, 110, 114, 116].getD i 0 ≠ c) := fun i hi => by
              by_cases h : i < 0
              · exact HN.out i h
              · obtain rfl : i = 0 := by omega
                show 92 ≠ c
                omega
            clear he
            go_wp2
            go_big_quiet (fail)
            go_wp2
            go_roundg (5 - (0 + 1))
            case measure => rw [HM.out]; omega
            case rel => exact ⟨0 + 1, n + nq, rfl, by go_num, by omega, HN2.out, rfl⟩
        · as_aux_lemma =>
          by_cases he : c = 34
          · obtain rfl : c = 34 := he
            have HR : Hid (itemF s k = .ok (34, k + 2)) := by unfold Hid; rw [HI.out, if_pos (.inr rfl)]; try rfl
            clear HN hq HM
            go_wp2
            go_big_quiet (fail)
            go_wp2
            go_ret3
            have := ritem_ok (w := w) HR.out (n + nq)
            exact this
          · have e3 : ((34 : Int) == ((c : Nat) : Int)) = false := by rw [beq_eq_false_iff_ne]; omega
            have e4 : ((((({ data := #[92, 34, 110, 114, 116] } : ByteArray)[1]'(by decide)).toNat : Nat) : Int) == ((c : Nat) : Int)) = false := e3
            have HN2 : Hid (∀ i, i < 1 + 1 → [92, 34, 110, 114, 116].getD i 0 ≠ c) := fun i hi => by
              by_cases h : i < 1
              · exact HN.out i h
              · obtain rfl : i = 1 := by omega
                show 34 ≠ c
                omega
            clear he
            go_wp2
            go_big_quiet (fail)
            go_wp2
            go_roundg (5 - (1 + 1))
            case measure => rw [HM.out]; omega
            case rel => exact ⟨1 + 1, n + nq, rfl, by go_num, by omega, HN2.out, rfl⟩
        · as_aux_lemma =>
          by_cases he : c = 110
          · obtain rfl : c = 110 := he
            have HR : Hid (itemF s k = .ok (10, k + 2)) := by unfold Hid; rw [HI.out, if_neg (by omega), if_pos rfl]; try rfl
            clear HN hq HM
            go_wp2
            go_big_quiet (fail)
            go_wp2
            go_ret3
            have := ritem_ok (w := w) HR.out (n + nq)
            exact this
          · have e3 : ((110 : Int) == ((c : Nat) : Int)) = false := by rw [beq_eq_false_iff_ne]; omega
            have e4 : ((((({ data := #[92, 34, 110, 114, 116] } : ByteArray)[2]'(by decide)).toNat : Nat) : Int) == ((c : Nat) : Int)) = false := e3
            have HN2 : Hid (∀ i, i < 2 + 1 → [92, 34, 110, 114, 116].getD i 0 ≠ c) := fun i hi => by
              by_cases h : i < 2
              · exact HN.out i h
              · obtain rfl : i = 2 := by omega
                show 110 ≠ c
                omega
            clear he
            go_wp2
            go_big_quiet (fail)
            go_wp2
            go_roundg (5 - (2 + 1))
            case measure => rw [HM.out]; omega
            case rel => exact ⟨2 + 1, n + nq, rfl, by go_num, by omega, HN2.out, rfl⟩
        · as_aux_lemma =>
          by_cases he : c = 114
          · obtain rfl : c = 114 := he
            have HR : Hid (itemF s k = .ok (13, k + 2)) := by unfold Hid; rw [HI.out, if_neg (by omega), if_neg (by omega), if_pos rfl]; try rfl
            clear HN hq HM
            go_wp2
            go_big_quiet (fail)
            go_wp2
            go_ret3
            have := ritem_ok (w := w) HR.out (n + nq)
            exact this
          · have e3 : ((114 : Int) == ((c : Nat) : Int)) = false := by rw [beq_eq_false_iff_ne]; omega
            have e4 : ((((({ data := #[92, 34, 110, 114, 116] } : ByteArray)[3]'(by decide)).toNat : Nat) : Int) == ((c : Nat) : Int)) = false := e3
            have HN2 : Hid (∀ i, i < 3 + 1 → [92, 34, 110, 114, 116].getD i 0 ≠ c) := fun i hi => by
              by_cases h : i < 3
              · exact HN.out i h
              · obtain rfl : i = 3 := by omega
                show 114 ≠ c
                omega
            clear he
            go_wp2
            go_big_quiet (fail)
            go_wp2
            go_roundg (5 - (3 + 1))
            case measure => rw [HM.out]; omega
            case rel => exact ⟨3 + 1, n + nq, rfl, by go_num, by omega, HN2.out, rfl⟩
        · as_aux_lemma =>
          by_cases he : c = 116
          · obtain rfl : c = 116 := he
            have HR : Hid (itemF s k = .ok (9, k + 2)) := by unfold Hid; rw [HI.out, if_neg (by omega), if_neg (by omega), if_neg (by omega), if_pos rfl]; try rfl
            clear HN hq HM
            go_wp2
            go_big_quiet (fail)
            go_wp2
            go_ret3
            have := ritem_ok (w := w) HR.out (n + nq)
            exact this
          · have e3 : ((116 : Int) == ((c : Nat) : Int)) = false := by rw [beq_eq_false_iff_ne]; omega
            have e4 : ((((({ data := #[92, 34, 110, 114, 116] } : ByteArray)[4]'(by decide)).toNat : Nat) : Int) == ((c : Nat) : Int)) = false := e3
            have HN2 : Hid (∀ i, i < 4 + 1 → [92, 34, 110, 114, 116].getD i 0 ≠ c) := fun i hi => by
              by_cases h : i < 4
              · exact HN.out i h
              · obtain rfl : i = 4 := by omega
                show 116 ≠ c
                omega
            clear he
            go_wp2
            go_big_quiet (fail)
            go_wp2
            go_roundg (5 - (4 + 1))
            case measure => rw [HM.out]; omega
            case rel => exact ⟨4 + 1, n + nq, rfl, by go_num, by omega, HN2.out, rfl⟩
        · as_aux_lemma =>
          have n0 : 92 ≠ c := HN.out 0 (by omega)
          have n1 : 34 ≠ c := HN.out 1 (by omega)
          have n2 : 110 ≠ c := HN.out 2 (by omega)
          have n3 : 114 ≠ c := HN.out 3 (by omega)
          have n4 : 116 ≠ c := HN.out 4 (by omega)
          have HI2 : Hid (itemF s k = if c ≠ 120 then .error (k + 1) else if k + 2 = s.size then .error (k + 2)
              else if worthI (gb s (k + 2)) < 0 then .error (k + 2) else if k + 3 = s.size then .error (k + 3) else if worthI (gb s (k + 3)) < 0 then .error (k + 3) else .ok (16 * worthI (gb s (k + 2)) + worthI (gb s (k + 3)), k + 4)) := by
            unfold Hid; rw [HI.out, if_neg (by omega), if_neg (by omega), if_neg (by omega), if_neg (by omega)]
          clear n0 n1 n2 n3 n4 HN HI HM hq
          by_cases hx : c = 120
          · subst hx
            have HI3 : Hid (itemF s k = if k + 2 = s.size then .error (k + 2)
              else if worthI (gb s (k + 2)) < 0 then .error (k + 2) else if k + 3 = s.size then .error (k + 3) else if worthI (gb s (k + 3)) < 0 then .error (k + 3) else .ok (16 * worthI (gb s (k + 2)) + worthI (gb s (k + 3)), k + 4)) := by unfold Hid; rw [HI2.out, if_neg (by simp)]
            clear HI2
            go_wp2
            go_loopg [8] 2 (fun mm j wr => ∃ q : Nat, mm = 2 - q ∧ j = .int .i64 ((k + 2 + q : Nat) : Int) ∧ q ≤ 2 ∧ (∀ i, i < q → k + 2 + i < s.size ∧ 0 ≤ worthI (gb s (k + 2 + i))) ∧ wr = w.drewN n)
            case atStart => exact ⟨0, rfl, by go_num, by omega, fun _ h => absurd h (by omega), rfl⟩
            case round =>
              obtain ⟨q, hmm, rfl, hq, hall, rfl⟩ := hrel
              have HM : Hid (gk = 2 - q) := hmm
              have HA : Hid (∀ i, i < q → k + 2 + i < s.size ∧ 0 ≤ worthI (gb s (k + 2 + i))) := hall
              clear hmm hall
              by_cases hq2 : q < 2
              · by_cases hin : k + 2 + q < s.size
                · have hbq := (gb_lt hin).symm
                  by_cases hwt : 0 ≤ worthI (gb s (k + 2 + q))
                  · have HA2 : Hid (∀ i, i < q + 1 → k + 2 + i < s.size ∧ 0 ≤ worthI (gb s (k + 2 + i))) := fun i hi => by
                      by_cases h : i < q
                      · exact HA.out i h
                      · obtain rfl : i = q := by omega
                        exact ⟨hin, hwt⟩
                    generalize hwv : worthI (gb s (k + 2 + q)) = wv at hwt
                    have HWV : Hid (worthI (gb s (k + 2 + q)) = wv) := hwv
                    clear hwv
                    go_wp2_with (go_at_call 76; refine (rw_any _ _).mono ?_; rintro e w' ⟨he, rfl⟩; rw [HWV.out] at he; subst he)
                    go_roundg (2 - (q + 1))
                    case measure => rw [HM.out]; omega
                    case rel => exact ⟨q + 1, rfl, by go_num, by omega, HA2.out, rfl⟩
                  · have HR : Hid (itemF s k = .error (k + 2 + q)) := by
                      unfold Hid; rw [HI3.out]
                      have hc : q = 0 ∨ q = 1 := by omega
                      rcases hc with rfl | rfl
                      · rw [if_neg (by omega), if_pos (by simpa using hwt)]
                      · have h0 := HA.out 0 (by omega)
                        rw [if_neg (by omega), if_neg (by have := h0.2; simpa using this), if_neg (by omega), if_pos (by have : ¬ 0 ≤ worthI (gb s (k + 3)) := hwt; omega)]
                    generalize hwv : worthI (gb s (k + 2 + q)) = wv at hwt
                    have HWV : Hid (worthI (gb s (k + 2 + q)) = wv) := hwv
                    clear hwv
                    go_wp2_with (go_at_call 76; refine (rw_any _ _).mono ?_; rintro e w' ⟨he, rfl⟩; rw [HWV.out] at he; subst he)
                    go_ret3
                    exact ritem_no HR.out H92.out n
                · have HR : Hid (itemF s k = .error (k + 2 + q)) := by
                    unfold Hid; rw [HI3.out]
                    have hc : q = 0 ∨ q = 1 := by omega
                    rcases hc with rfl | rfl
                    · rw [if_pos (by omega)]
                    · have h0 := HA.out 0 (by omega)
                      rw [if_neg (by omega), if_neg (by have := h0.2; simpa using this), if_pos (by omega)]
                  go_wp2
                  go_ret3
                  exact ritem_no HR.out H92.out n
              · obtain rfl : q = 2 := by omega
                have h0 := HA.out 0 (by omega)
                have h1 := HA.out 1 (by omega)
                have hk2 : k + 2 < s.size := h0.1
                have hk3 : k + 3 < s.size := h1.1
                have hw2 : 0 ≤ worthI (gb s (k + 2)) := h0.2
                have hw3 : 0 ≤ worthI (gb s (k + 3)) := h1.2
                have HR : Hid (itemF s k = .ok (16 * worthI (gb s (k + 2)) + worthI (gb s (k + 3)), k + 4)) := by
                  unfold Hid; rw [HI3.out, if_neg (by omega), if_neg (by omega), if_neg (by omega), if_neg (by omega)]
                have hl2 := Nu.worthI_lt (gb s (k + 2))
                have hl3 := Nu.worthI_lt (gb s (k + 3))
                have hb2 := (gb_lt hk2).symm
                have hb3 := (gb_lt hk3).symm
                have HW2 : Hid (∀ w : World, Calls Tryz.prog 76 #[.int .u8 (gb s (k + 2)), .bool true] w fun e w' => e = .returned (.int .i64 (worthI (gb s (k + 2)))) ∧ w = w') := fun w => rw_any _ w
                have HW3 : Hid (∀ w : World, Calls Tryz.prog 76 #[.int .u8 (gb s (k + 3)), .bool true] w fun e w' => e = .returned (.int .i64 (worthI (gb s (k + 3)))) ∧ w = w') := fun w => rw_any _ w
                generalize worthI (gb s (k + 2)) = x2 at hw2 hl2 HR HW2
                generalize worthI (gb s (k + 3)) = x3 at hw3 hl3 HR HW3
                have s1 : IntKind.i64.wrap (16 * x2) = 16 * x2 := IntWalk.i64_in _ (by omega)
                have s2 : IntKind.i64.wrap (16 * x2 + x3) = 16 * x2 + x3 := IntWalk.i64_in _ (by omega)
                have s3 : IntKind.u8.wrap (16 * x2 + x3) = 16 * x2 + x3 := by simp [IntKind.wrap, IntKind.bits, IntKind.signed]; omega
                have s4 : IntKind.i64.wrap ((k : Int) + 2) = (k : Int) + 2 := IntWalk.i64_in _ (by omega)
                have s5 : IntKind.i64.wrap ((k : Int) + 3) = (k : Int) + 3 := IntWalk.i64_in _ (by omega)
                have s6 : IntKind.i64.wrap ((k : Int) + 4) = (k : Int) + 4 := IntWalk.i64_in _ (by omega)
                have t2 : ((k : Int) + 2).toNat = k + 2 := by omega
                have t3 : ((k : Int) + 3).toNat = k + 3 := by omega
                have u2 : 0 ≤ (k : Int) + 2 := by omega
                have u3 : 0 ≤ (k : Int) + 3 := by omega
                have v2 : (k : Int) + 2 < (s.size : Int) := by omega
                have v3 : (k : Int) + 3 < (s.size : Int) := by omega
                clear h0 h1 HA HI3 HM hq hq2
                generalize hwn : w.drewN n = wn
                have HWN : Hid (w.drewN n = wn) := hwn
                clear hwn
                go_wp2
                go_big_quiet ((first | (go_at_call 76; with_reducible exact qsame rfl (HW2.out _)) | (go_at_call 76; with_reducible exact qsame rfl (HW3.out _))))
                go_wp2
                go_ret3
                exact ⟨.inl ⟨16 * x2 + x3, k + 4, HR.out, rfl⟩, n + nq, by rw [← HWN.out]; simp⟩
          · have HR : Hid (itemF s k = .error (k + 1)) := by unfold Hid; rw [HI2.out, if_pos hx]
            have e5 : (((c : Nat) : Int) != 120) = true := by rw [bne_iff_ne]; omega
            clear hx HI2
            go_wp2
            go_ret3
            exact ritem_no HR.out H92.out n
  · have H92 : Hid (gb s k ≠ 92) := h92
    have e92 : (((gb s k : Nat) : Int) != 92) = true := by rw [bne_iff_ne]; omega
    have s1 : IntKind.i64.wrap ((k : Int) + 1) = (k : Int) + 1 := IntWalk.i64_in _ (by omega)
    by_cases h32 : gb s k < 32
    · have HI : Hid (itemF s k = .error k) := by unfold Hid itemF; rw [if_pos h92, if_pos h32]
      obtain ⟨c, hc⟩ : ∃ c, gb s k = c := ⟨_, rfl⟩
      rw [hc] at hb e92 h32
      have d32 : decide ((32 : Int) ≤ (c : Int)) = false := by simp; omega
      clear h92 hc
      go_enter Tryz.func53, Tryz.ntmps53
      go_wp2
      go_big_quiet (fail)
      go_wp2
      go_ret3
      exact ⟨.inr ⟨k, k + 1, _, HI.out, rfl, fun _ => rfl, fun h => absurd h H92.out⟩, _, rfl⟩
    · have HI : Hid (itemF s k = .ok ((gb s k : Int), k + 1)) := by unfold Hid itemF; rw [if_pos h92, if_neg h32]
      obtain ⟨c, hc⟩ : ∃ c, gb s k = c := ⟨_, rfl⟩
      rw [hc] at hb e92 h32 HI
      have d32 : decide ((32 : Int) ≤ (c : Int)) = true := by simp; omega
      clear h92 hc h32
      go_enter Tryz.func53, Tryz.ntmps53
      go_wp2
      go_big_quiet (fail)
      go_wp2
      go_ret3
      have := ritem_ok (w := w) HI.out nq
      exact this
end Go.Proofs.YtijnbohjcmcfjaaGreatDoor.Sc
