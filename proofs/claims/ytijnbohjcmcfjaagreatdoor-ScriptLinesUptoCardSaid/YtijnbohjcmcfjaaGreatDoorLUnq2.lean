/-
  Walks: a text in quotes read: package text's unquoter, two hex digits.
-/
import Derived.Test.YtijnbohjcmcfjaaGreatDoorLUnq1
import Derived.Test.YtijnbohjcmcfjaaGreatDoorLHex0
namespace Go.Proofs.YtijnbohjcmcfjaaGreatDoor.Sc
open Go.RowKit Go.Proofs.YtijnbohjcmcfjaaGreatDoor.Kt Go.Proofs.YtijnbohjcmcfjaaGreatDoor.Lk Go.Proofs.YtijnbohjcmcfjaaGreatDoor.Rw Go.Proofs.YtijnbohjcmcfjaaGreatDoor.Rg Go.Proofs.YtijnbohjcmcfjaaGreatDoor.Ap
open Go.Proofs.YtijnbohjcmcfjaaGreatDoor.Nu (worthI)
set_option linter.unusedSimpArgs false
set_option linter.unusedVariables false
set_option maxRecDepth 100000

theorem nib_yes (c : Nat) (x : Int) (hx : x = worthI c) (h0 : 0 ≤ x) (w : World) : Calls Tryz.prog 165 #[.int .u8 c] w fun e w' => e = .returned (.tuple #[.int .i64 x, .bool true]) ∧ w = w' :=
  (Hx.nibble_any c w).mono fun e w' ⟨h1, h2⟩ => ⟨by rw [h1, Hx.nibV_of (v := x) hx.symm h0], h2⟩
theorem nib_no (c : Nat) (h : worthI c < 0) (w : World) : Calls Tryz.prog 165 #[.int .u8 c] w fun e w' => e = .returned (.tuple #[.int .i64 0, .bool false]) ∧ w = w' :=
  (Hx.nibble_any c w).mono fun e w' ⟨h1, h2⟩ => ⟨by rw [h1]; unfold Hx.nibV; rw [if_neg (by show ¬ 0 ≤ worthI c; omega)], h2⟩
theorem bor16 (h x : Int) (h0 : 0 ≤ h) (h1 : h < 16) (x0 : 0 ≤ x) (x1 : x < 16) : bits .or .i64 (h * 16) x = h * 16 + x := by
  have H : ∀ a b : Fin 16, bits .or .i64 (((a.val : Nat) : Int) * 16) ((b.val : Nat) : Int) = ((a.val : Nat) : Int) * 16 + ((b.val : Nat) : Int) := by decide
  have := H ⟨h.toNat, by omega⟩ ⟨x.toNat, by omega⟩
  rw [show (((⟨h.toNat, by omega⟩ : Fin 16).val : Nat) : Int) = h by show ((h.toNat : Nat) : Int) = h; omega, show (((⟨x.toNat, by omega⟩ : Fin 16).val : Nat) : Int) = x by show ((x.toNat : Nat) : Int) = x; omega] at this
  exact this
/-- two hex digits behind the place k -/
def hexF (s : ByteArray) (k : Nat) : Except Nat (Int × Nat) :=
  if k + 1 = s.size then .error (k + 1)
  else if worthI (gb s (k + 1)) < 0 then .error (k + 1)
  else if k + 2 = s.size then .error (k + 2)
  else if worthI (gb s (k + 2)) < 0 then .error (k + 2)
  else .ok (16 * worthI (gb s (k + 1)) + worthI (gb s (k + 2)), k + 3)
theorem itemF_hex {s : ByteArray} {k : Nat} (h1 : gb s k = 92) (h2 : k + 1 ≠ s.size) (h3 : gb s (k + 1) = 120) : itemF s k = hexF s (k + 1) := by
  unfold itemF hexF
  rw [if_neg (by omega), if_neg h2, if_neg (by omega), if_neg (by omega), if_neg (by omega), if_neg (by omega), if_neg (by omega)]
def HexPost (base g : Nat) (s : ByteArray) (k : Nat) (out : List Int) (w : World) (e : Ending) (w' : World) : Prop :=
  ((∃ p, hexF s k = .error p ∧ e = .returned (.bool false) ∧ U base g s p out w') ∨ (∃ c k', hexF s k = .ok (c, k') ∧ e = .returned (.bool true) ∧ U base g s k' (out ++ [c]) w')) ∧ Below base w w'
/-- behind j digits -/
def HexAt (s : ByteArray) (k j : Nat) (n : Int) : Prop :=
  (j = 0 ∧ n = 0) ∨ (j = 1 ∧ k + 1 < s.size ∧ 0 ≤ worthI (gb s (k + 1)) ∧ n = worthI (gb s (k + 1))) ∨
  (j = 2 ∧ k + 2 < s.size ∧ 0 ≤ worthI (gb s (k + 1)) ∧ 0 ≤ worthI (gb s (k + 2)) ∧ n = 16 * worthI (gb s (k + 1)) + worthI (gb s (k + 2)))
theorem HexAt.lt {s : ByteArray} {k j : Nat} {n : Int} (h : HexAt s k j n) (hk : k < s.size) : j ≤ 2 ∧ k + j < s.size := by
  rcases h with ⟨rfl, _⟩ | ⟨rfl, h, _⟩ | ⟨rfl, h, _⟩ <;> omega
theorem HexAt.small {s : ByteArray} {k j : Nat} {n : Int} (h : HexAt s k j n) (hj : j < 2) : 0 ≤ n ∧ n < 16 := by
  have := Nu.worthI_lt (gb s (k + 1))
  rcases h with ⟨rfl, rfl⟩ | ⟨rfl, _, h1, rfl⟩ | ⟨rfl, _⟩ <;> omega
theorem HexAt.byte {s : ByteArray} {k : Nat} {n : Int} (h : HexAt s k 2 n) : 0 ≤ n ∧ n < 256 ∧ hexF s k = .ok (n, k + 3) := by
  have := Nu.worthI_lt (gb s (k + 1))
  have := Nu.worthI_lt (gb s (k + 2))
  rcases h with ⟨h, _⟩ | ⟨h, _⟩ | ⟨_, h0, h1, h2, rfl⟩
  · omega
  · omega
  · refine ⟨by omega, by omega, ?_⟩
    unfold hexF
    rw [if_neg (by omega), if_neg (by omega), if_neg (by omega), if_neg (by omega)]
theorem HexAt.end' {s : ByteArray} {k j : Nat} {n : Int} (h : HexAt s k j n) (hj : j < 2) (he : k + j + 1 = s.size) : hexF s k = .error (k + j + 1) := by
  unfold hexF
  rcases h with ⟨rfl, _⟩ | ⟨rfl, h0, h1, _⟩ | ⟨rfl, _⟩
  · rw [if_pos he]
  · rw [if_neg (by omega), if_neg (by omega), if_pos he]
  · omega
theorem HexAt.bad {s : ByteArray} {k j : Nat} {n : Int} (h : HexAt s k j n) (hj : j < 2) (he : k + j + 1 ≠ s.size) (hw : worthI (gb s (k + j + 1)) < 0) : hexF s k = .error (k + j + 1) := by
  unfold hexF
  rcases h with ⟨rfl, _⟩ | ⟨rfl, h0, h1, _⟩ | ⟨rfl, _⟩
  · rw [if_neg he, if_pos hw]
  · rw [if_neg (by omega), if_neg (by omega), if_neg he, if_pos hw]
  · omega
theorem HexAt.next {s : ByteArray} {k j : Nat} {n : Int} (h : HexAt s k j n) (hj : j < 2) (he : k + j + 1 < s.size) (hw : 0 ≤ worthI (gb s (k + j + 1))) : HexAt s k (j + 1) (n * 16 + worthI (gb s (k + j + 1))) := by
  rcases h with ⟨rfl, rfl⟩ | ⟨rfl, h0, h1, rfl⟩ | ⟨rfl, _⟩
  · exact .inr (.inl ⟨rfl, he, hw, by simp⟩)
  · exact .inr (.inr ⟨rfl, he, h1, hw, by rw [Int.mul_comm]⟩)
  · omega

set_option maxHeartbeats 1600000 in
theorem hex_any (base g : Nat) (s : ByteArray) (k : Nat) (out : List Int) (w : World) (hU : U base g s k out w) (hk : k < s.size) (hm : s.size ≤ 268435456) (hb : base ≤ w.heap.size) (ho : out.length ≤ s.size) :
    Calls Tryz.prog 123 #[.pointer (some ⟨g, 0, none⟩)] w (HexPost base g s k out w) := by
  obtain ⟨v, hv⟩ := hU
  have HV : Hid (UV base g s k out v w) := hv
  clear hv
  go_enter Tryz.func123, Tryz.ntmps123
  go_wp2
  go_loopg [3, 6] 2 (fun m n i wr => ∃ (j : Nat) (z : Int), m = 2 - j ∧ i = .int .i64 j ∧ n = .int .i64 z ∧ HexAt s k j z ∧ UV base g s (k + j) out v wr ∧ Below base w wr)
  case atStart => exact ⟨0, 0, rfl, rfl, rfl, .inl ⟨rfl, rfl⟩, HV.out, Below.refl _ _⟩
  case round =>
    obtain ⟨j, z, hmm, rfl, rfl, hat, hv, hB⟩ := hrel
    have HM : Hid (gk = 2 - j) := hmm
    have HA : Hid (HexAt s k j z) := hat
    have HB : Hid (Below base w wr) := hB
    obtain ⟨hj2, hkj⟩ := hat.lt hk
    obtain ⟨q, hq⟩ : ∃ q, q = k + j := ⟨_, rfl⟩
    rw [← hq] at hv hkj
    have HQ : Hid (q = k + j) := hq
    have HV1 : Hid (UV base g s q out v wr) := hv
    have f1 := hv.blk.free 1
    have c1 := hv.blk.cell 1 (v := .int .i64 (q : Int)) rfl
    have c0 := hv.blk.cell 0 (v := .string s) rfl
    clear hmm hat hB hv hq
    by_cases hj : j < 2
    · obtain ⟨z0, z1⟩ := HA.out.small hj
      have HV3 : Hid (UV base g s (q + 1) out v (wr.setCell ⟨g, 1, none⟩ (.int .i64 ((q : Int) + 1)))) := HV1.out.at' (q + 1)
      have HB3 : Hid (Below base w (wr.setCell ⟨g, 1, none⟩ (.int .i64 ((q : Int) + 1)))) := below_set HB.out HV1.out.ge
      go_upto_region 5 with (fail)
      obtain ⟨wx, hwx⟩ : ∃ wx, wx = wr.setCell ⟨g, 1, none⟩ (.int .i64 ((q : Int) + 1)) := ⟨_, rfl⟩
      rw [← hwx]
      obtain ⟨p, hp⟩ : ∃ p, p = q + 1 := ⟨_, rfl⟩
      have HP : Hid (p = q + 1) := hp
      have HV2 : Hid (UV base g s p out v wx) := by unfold Hid; rw [hwx, hp]; exact HV3.out
      have HB2 : Hid (Below base w wx) := by unfold Hid; rw [hwx]; exact HB3.out
      have d0 := HV2.out.blk.cell 0 (v := .string s) rfl
      have d1 := HV2.out.blk.cell 1 (v := .int .i64 (p : Int)) rfl
      clear hwx HV3 HB3 c0 c1 f1
      have hpk : p ≤ s.size := by omega
      clear hp
      by_cases he : p = s.size
      · have HR : Hid (hexF s k = .error (p)) := by unfold Hid; rw [HP.out, HQ.out]; exact HA.out.end' hj (by have := HQ.out; have := HP.out; omega)
        have e1 : ((p : Int) == ((s.size : Nat) : Int)) = true := by simp; omega
        clear he
        go_wp2
        go_big_quiet (fail)
        go_wp2
        go_ret
        exact ⟨.inl ⟨p, HR.out, rfl, v, HV2.out.drewN _⟩, below_drewN HB2.out _⟩
      · have e1 : ((p : Int) == ((s.size : Nat) : Int)) = false := by rw [beq_eq_false_iff_ne]; omega
        have h1 : p < s.size := by omega
        have hb1 := (gb_lt h1).symm
        by_cases hw : worthI (gb s (p)) < 0
        · have HR : Hid (hexF s k = .error (p)) := by unfold Hid; rw [HP.out, HQ.out]; exact HA.out.bad hj (by have := HQ.out; have := HP.out; omega) (by rw [← HQ.out, ← HP.out]; exact hw)
          have HW : Hid (worthI (gb s (p)) < 0) := hw
          clear hw he
          go_wp2
          go_big_quiet (fail)
          go_upto_region 7 with (fail)
          obtain ⟨wy, hwy⟩ : ∃ wy, wy = wx.drewN nq := ⟨_, rfl⟩
          rw [← hwy]
          have HV4 : Hid (UV base g s p out v wy) := by unfold Hid; rw [hwy]; exact HV2.out.drewN _
          have HB4 : Hid (Below base w wy) := by unfold Hid; rw [hwy]; exact below_drewN HB2.out _
          have d0 := HV4.out.blk.cell 0 (v := .string s) rfl
          have d1 := HV4.out.blk.cell 1 (v := .int .i64 (p : Int)) rfl
          clear hwy HV2 HB2
          go_big_quiet ((go_at_call 165; exact qsame rfl (nib_no _ HW.out _)))
          go_wp2
          go_ret
          exact ⟨.inl ⟨p, HR.out, rfl, v, HV4.out.drewN _⟩, below_drewN HB4.out _⟩
        · obtain ⟨x, hx⟩ : ∃ x, x = worthI (gb s (p)) := ⟨_, rfl⟩
          have x0 : 0 ≤ x := by omega
          have x1 : x < 16 := by rw [hx]; exact Nu.worthI_lt _
          have HX : Hid (x = worthI (gb s (p))) := hx
          have HN : Hid (HexAt s k (j + 1) (z * 16 + x)) := by
            unfold Hid; rw [hx, HP.out, HQ.out]; exact HA.out.next hj (by have := HQ.out; have := HP.out; omega) (by rw [← HQ.out, ← HP.out, ← hx]; exact x0)
          have hbo := bor16 z x z0 z1 x0 x1
          clear hw he hx
          go_wp2
          go_big_quiet (fail)
          go_upto_region 7 with (fail)
          obtain ⟨wy, hwy⟩ : ∃ wy, wy = wx.drewN nq := ⟨_, rfl⟩
          rw [← hwy]
          have HV4 : Hid (UV base g s p out v wy) := by unfold Hid; rw [hwy]; exact HV2.out.drewN _
          have HB4 : Hid (Below base w wy) := by unfold Hid; rw [hwy]; exact below_drewN HB2.out _
          have d0 := HV4.out.blk.cell 0 (v := .string s) rfl
          have d1 := HV4.out.blk.cell 1 (v := .int .i64 (p : Int)) rfl
          clear hwy HV2 HB2
          go_big_quiet ((go_at_call 165; exact qsame rfl (nib_yes _ x HX.out x0 _)))
          go_wp2
          go_roundg (2 - (j + 1))
          case measure => rw [HM.out]; omega
          case rel => exact ⟨j + 1, _, rfl, by go_num, rfl, HN.out, by rw [show k + (j + 1) = p by have := HQ.out; have := HP.out; omega]; exact HV4.out.drewN _, below_drewN HB4.out _⟩
    · obtain rfl : j = 2 := by omega
      obtain ⟨z0, z1, z2⟩ := HA.out.byte
      have HR : Hid (hexF s k = .ok (z, k + 3)) := z2
      have HZ : Hid (z % 256 = z) := by unfold Hid; omega
      have HV3 : Hid (UV base g s (q + 1) out v (wr.setCell ⟨g, 1, none⟩ (.int .i64 ((q : Int) + 1)))) := HV1.out.at' (q + 1)
      have HB3 : Hid (Below base w (wr.setCell ⟨g, 1, none⟩ (.int .i64 ((q : Int) + 1)))) := below_set HB.out HV1.out.ge
      clear z2
      go_upto_region 13 with (fail)
      obtain ⟨wx, hwx⟩ : ∃ wx, wx = wr.setCell ⟨g, 1, none⟩ (.int .i64 ((q : Int) + 1)) := ⟨_, rfl⟩
      rw [← hwx]
      have HV2 : Hid (UV base g s (k + 3) out v wx) := by unfold Hid; rw [hwx, show k + 3 = q + 1 by have := HQ.out; omega]; exact HV3.out
      have HB2 : Hid (Below base w wx) := by unfold Hid; rw [hwx]; exact HB3.out
      have d2 := HV2.out.blk.cell 2 (v := v) rfl
      have hbx : base ≤ wx.heap.size := Nat.le_trans hb HB2.out.size
      clear hwx HV3 HB3 c0 c1 f1
      go_wp2_with (at_builtin; refine wpList_app rfl _ _ rfl base v out.length out rfl HV2.out.own HB2.out hbx [z] 1 rfl _ (by first | rfl | (rw [HZ.out]; rfl)) rfl (by omega) ?_)
      intro v' w1 hown' hB' hg' hat
      obtain ⟨A', cap', rfl⟩ := row_is hown'
      have HP : Hid (UV base g s (k + 3) (out ++ [z]) (.slice A' (out.length + 1) cap') (w1.setCell ⟨g, 2, none⟩ (.slice A' (out.length + 1) cap'))) := HV2.out.put (by rw [List.map_append]; exact hown') hg' hat
      have f2 : w1.frozen? ⟨g, 2, none⟩ = false := (HV2.out.blk.grown hg' (Ne.symm HV2.out.ne)).free 2
      have e2 : w1.cell? ⟨g, 2, none⟩ = some v := (HV2.out.blk.grown hg' (Ne.symm HV2.out.ne)).cell 2 rfl
      have HBB : Hid (Below base w (w1.setCell ⟨g, 2, none⟩ (.slice A' (out.length + 1) cap'))) := below_set hB' HV2.out.ge
      clear hown' hB' hg' hat
      go_wp2
      go_ret
      exact ⟨.inr ⟨_, _, HR.out, rfl, _, HP.out⟩, HBB.out⟩
end Go.Proofs.YtijnbohjcmcfjaaGreatDoor.Sc
