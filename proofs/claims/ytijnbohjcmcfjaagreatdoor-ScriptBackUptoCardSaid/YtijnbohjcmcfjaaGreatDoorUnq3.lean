/-
  Walks: a text in quotes read: package text's unquoter, an item that begins with a backslash.
-/
import Derived.Test.YtijnbohjcmcfjaaGreatDoorUnq2
namespace Go.Proofs.YtijnbohjcmcfjaaGreatDoor.Sc
open Go.RowKit Go.Proofs.YtijnbohjcmcfjaaGreatDoor.Kt Go.Proofs.YtijnbohjcmcfjaaGreatDoor.Lk Go.Proofs.YtijnbohjcmcfjaaGreatDoor.Rw Go.Proofs.YtijnbohjcmcfjaaGreatDoor.Rg Go.Proofs.YtijnbohjcmcfjaaGreatDoor.Ap
open Go.Proofs.YtijnbohjcmcfjaaGreatDoor.Nu (worthI)
set_option linter.unusedSimpArgs false
set_option linter.unusedVariables false
set_option maxRecDepth 100000

set_option maxHeartbeats 3200000 in
theorem escaped_any (base g : Nat) (s : ByteArray) (k : Nat) (out : List Int) (w : World) (hU : U base g s k out w) (hk : k < s.size) (hm : s.size ≤ 268435456) (hq : gb s k = 92) (hb : base ≤ w.heap.size) (ho : out.length ≤ s.size) :
    Calls Tryz.prog 88 #[.pointer (some ⟨g, 0, none⟩)] w (ItemPost base g s k out w) := by
  obtain ⟨v, hv⟩ := hU
  have HQ : Hid (gb s k = 92) := hq
  have f1 := hv.blk.free 1
  have c1 := hv.blk.cell 1 (v := .int .i64 (k : Int)) rfl
  have HV3 : Hid (UV base g s (k + 1) out v (w.setCell ⟨g, 1, none⟩ (.int .i64 ((k : Int) + 1)))) := hv.at' (k + 1)
  have HB3 : Hid (Below base w (w.setCell ⟨g, 1, none⟩ (.int .i64 ((k : Int) + 1)))) := below_set (Below.refl _ _) hv.ge
  clear hv hq
  go_enter Tryz.func88, Tryz.ntmps88
  go_upto_region 2 with (fail)
  obtain ⟨wx, hwx⟩ : ∃ wx, wx = w.setCell ⟨g, 1, none⟩ (.int .i64 ((k : Int) + 1)) := ⟨_, rfl⟩
  rw [← hwx]
  obtain ⟨p, hp⟩ : ∃ p, p = k + 1 := ⟨_, rfl⟩
  have HP : Hid (p = k + 1) := hp
  have HV2 : Hid (UV base g s p out v wx) := by unfold Hid; rw [hwx, hp]; exact HV3.out
  have HB2 : Hid (Below base w wx) := by unfold Hid; rw [hwx]; exact HB3.out
  have d0 := HV2.out.blk.cell 0 (v := .string s) rfl
  have d1 := HV2.out.blk.cell 1 (v := .int .i64 (p : Int)) rfl
  have hpk : p ≤ s.size := by omega
  clear hwx HV3 HB3 c1 f1 hp
  by_cases he : p = s.size
  · have HR : Hid (itemF s k = .error p) := by unfold Hid itemF; rw [if_neg (by have := HQ.out; omega), if_pos (by have := HP.out; omega), HP.out]
    have e1 : ((p : Int) == ((s.size : Nat) : Int)) = true := by simp; omega
    clear he
    go_wp2
    go_big_quiet (fail)
    go_wp2
    go_ret
    exact ⟨.inl ⟨p, HR.out, rfl, v, HV2.out.drewN _⟩, below_drewN HB2.out _⟩
  · have e1 : ((p : Int) == ((s.size : Nat) : Int)) = false := by rw [beq_eq_false_iff_ne]; omega
    have h1 : p < s.size := by omega
    have hb1 := (gb_lt h1).symm
    have HC : Hid (∀ x, gb s p = x → itemF s k = (if x = 92 ∨ x = 34 then .ok ((x : Int), p + 1) else if x = 110 then .ok (10, p + 1) else if x = 114 then .ok (13, p + 1) else if x = 116 then .ok (9, p + 1) else if x ≠ 120 then .error p else hexF s p)) := by
      intro x hx
      by_cases hx120 : x = 120
      · subst hx120
        rw [if_neg (by omega), if_neg (by omega), if_neg (by omega), if_neg (by omega), if_neg (by omega), itemF_hex HQ.out (by have := HP.out; omega) (by rw [← HP.out]; exact hx), HP.out]
      · unfold itemF
        have hx' : gb s (k + 1) = x := by rw [← HP.out]; exact hx
        rw [if_neg (by have := HQ.out; omega), if_neg (by have := HP.out; omega), hx', HP.out]
        repeat' split
        all_goals first | rfl | omega
    go_wp2
    go_big_quiet (fail)
    go_upto_region 4 with (fail)
    obtain ⟨wy, hwy⟩ : ∃ wy, wy = wx.drewN nq := ⟨_, rfl⟩
    rw [← hwy]
    have HV4 : Hid (UV base g s p out v wy) := by unfold Hid; rw [hwy]; exact HV2.out.drewN _
    have HB4 : Hid (Below base w wy) := by unfold Hid; rw [hwy]; exact below_drewN HB2.out _
    have d0 := HV4.out.blk.cell 0 (v := .string s) rfl
    have d1 := HV4.out.blk.cell 1 (v := .int .i64 (p : Int)) rfl
    clear hwy HV2 HB2 he
    obtain ⟨x, hx⟩ : ∃ x, x = gb s p := ⟨_, rfl⟩
    have hby := gb_byte s p
    have HI := HC.out x hx.symm
    rw [← hx] at hb1 hby
    have HX : Hid (x = gb s p) := hx
    clear hx HC
    go_big_quiet (fail)
    by_cases h92 : x = 92
    · subst h92
      rw [if_pos (.inl rfl)] at HI
      go_upto_region 9 with (fail)
      obtain ⟨wz, hwz⟩ : ∃ wz, wz = wy.drewN nq := ⟨_, rfl⟩
      rw [← hwz]
      have HV5 : Hid (UV base g s p out v wz) := by unfold Hid; rw [hwz]; exact HV4.out.drewN _
      have HB5 : Hid (Below base w wz) := by unfold Hid; rw [hwz]; exact below_drewN HB4.out _
      have d2 := HV5.out.blk.cell 2 (v := v) rfl
      have hbz : base ≤ wz.heap.size := Nat.le_trans hb HB5.out.size
      clear hwz HV4 HB4 d0 d1
      go_wp2_with (at_builtin; refine wpList_app rfl _ _ rfl base v out.length out rfl HV5.out.own HB5.out hbz [92] 1 rfl _ rfl rfl (by omega) ?_)
      intro v' w1 hown' hB' hg' hat
      obtain ⟨A', cap', rfl⟩ := row_is hown'
      have HP2 : Hid (UV base g s p (out ++ [92]) (.slice A' (out.length + 1) cap') (w1.setCell ⟨g, 2, none⟩ (.slice A' (out.length + 1) cap'))) := HV5.out.put (by rw [List.map_append]; exact hown') hg' hat
      have f2 : w1.frozen? ⟨g, 2, none⟩ = false := (HV5.out.blk.grown hg' (Ne.symm HV5.out.ne)).free 2
      have e2 : w1.cell? ⟨g, 2, none⟩ = some v := (HV5.out.blk.grown hg' (Ne.symm HV5.out.ne)).cell 2 rfl
      have HBB : Hid (Below base w (w1.setCell ⟨g, 2, none⟩ (.slice A' (out.length + 1) cap'))) := below_set hB' HV5.out.ge
      clear hown' hB' hg' hat
      have e1 := HP2.out.blk.cell 1 (v := .int .i64 (p : Int)) rfl
      have f1 := HP2.out.blk.free 1
      go_wp2
      go_ret
      have h9 := HP2.out.at' (p + 1)
      exact ⟨.inr ⟨_, _, HI, rfl, _, h9⟩, below_set HBB.out HV5.out.ge⟩
    · by_cases h34 : x = 34
      · subst h34
        rw [if_pos (.inr rfl)] at HI
        go_upto_region 9 with (fail)
        obtain ⟨wz, hwz⟩ : ∃ wz, wz = wy.drewN nq := ⟨_, rfl⟩
        rw [← hwz]
        have HV5 : Hid (UV base g s p out v wz) := by unfold Hid; rw [hwz]; exact HV4.out.drewN _
        have HB5 : Hid (Below base w wz) := by unfold Hid; rw [hwz]; exact below_drewN HB4.out _
        have d2 := HV5.out.blk.cell 2 (v := v) rfl
        have hbz : base ≤ wz.heap.size := Nat.le_trans hb HB5.out.size
        clear hwz HV4 HB4 d0 d1
        go_wp2_with (at_builtin; refine wpList_app rfl _ _ rfl base v out.length out rfl HV5.out.own HB5.out hbz [34] 1 rfl _ rfl rfl (by omega) ?_)
        intro v' w1 hown' hB' hg' hat
        obtain ⟨A', cap', rfl⟩ := row_is hown'
        have HP2 : Hid (UV base g s p (out ++ [34]) (.slice A' (out.length + 1) cap') (w1.setCell ⟨g, 2, none⟩ (.slice A' (out.length + 1) cap'))) := HV5.out.put (by rw [List.map_append]; exact hown') hg' hat
        have f2 : w1.frozen? ⟨g, 2, none⟩ = false := (HV5.out.blk.grown hg' (Ne.symm HV5.out.ne)).free 2
        have e2 : w1.cell? ⟨g, 2, none⟩ = some v := (HV5.out.blk.grown hg' (Ne.symm HV5.out.ne)).cell 2 rfl
        have HBB : Hid (Below base w (w1.setCell ⟨g, 2, none⟩ (.slice A' (out.length + 1) cap'))) := below_set hB' HV5.out.ge
        clear hown' hB' hg' hat
        have e1 := HP2.out.blk.cell 1 (v := .int .i64 (p : Int)) rfl
        have f1 := HP2.out.blk.free 1
        go_wp2
        go_ret
        have h9 := HP2.out.at' (p + 1)
        exact ⟨.inr ⟨_, _, HI, rfl, _, h9⟩, below_set HBB.out HV5.out.ge⟩
      · rw [if_neg (by omega)] at HI
        by_cases h110 : x = 110
        · subst h110
          rw [if_pos rfl] at HI
          go_upto_region 11 with (fail)
          obtain ⟨wz, hwz⟩ : ∃ wz, wz = wy.drewN nq := ⟨_, rfl⟩
          rw [← hwz]
          have HV5 : Hid (UV base g s p out v wz) := by unfold Hid; rw [hwz]; exact HV4.out.drewN _
          have HB5 : Hid (Below base w wz) := by unfold Hid; rw [hwz]; exact below_drewN HB4.out _
          have d2 := HV5.out.blk.cell 2 (v := v) rfl
          have hbz : base ≤ wz.heap.size := Nat.le_trans hb HB5.out.size
          clear hwz HV4 HB4 d0 d1
          go_wp2_with (at_builtin; refine wpList_app rfl _ _ rfl base v out.length out rfl HV5.out.own HB5.out hbz [10] 1 rfl _ rfl rfl (by omega) ?_)
          intro v' w1 hown' hB' hg' hat
          obtain ⟨A', cap', rfl⟩ := row_is hown'
          have HP2 : Hid (UV base g s p (out ++ [10]) (.slice A' (out.length + 1) cap') (w1.setCell ⟨g, 2, none⟩ (.slice A' (out.length + 1) cap'))) := HV5.out.put (by rw [List.map_append]; exact hown') hg' hat
          have f2 : w1.frozen? ⟨g, 2, none⟩ = false := (HV5.out.blk.grown hg' (Ne.symm HV5.out.ne)).free 2
          have e2 : w1.cell? ⟨g, 2, none⟩ = some v := (HV5.out.blk.grown hg' (Ne.symm HV5.out.ne)).cell 2 rfl
          have HBB : Hid (Below base w (w1.setCell ⟨g, 2, none⟩ (.slice A' (out.length + 1) cap'))) := below_set hB' HV5.out.ge
          clear hown' hB' hg' hat
          have e1 := HP2.out.blk.cell 1 (v := .int .i64 (p : Int)) rfl
          have f1 := HP2.out.blk.free 1
          go_wp2
          go_ret
          have h9 := HP2.out.at' (p + 1)
          exact ⟨.inr ⟨_, _, HI, rfl, _, h9⟩, below_set HBB.out HV5.out.ge⟩
        · rw [if_neg h110] at HI
          by_cases h114 : x = 114
          · subst h114
            rw [if_pos rfl] at HI
            go_upto_region 13 with (fail)
            obtain ⟨wz, hwz⟩ : ∃ wz, wz = wy.drewN nq := ⟨_, rfl⟩
            rw [← hwz]
            have HV5 : Hid (UV base g s p out v wz) := by unfold Hid; rw [hwz]; exact HV4.out.drewN _
            have HB5 : Hid (Below base w wz) := by unfold Hid; rw [hwz]; exact below_drewN HB4.out _
            have d2 := HV5.out.blk.cell 2 (v := v) rfl
            have hbz : base ≤ wz.heap.size := Nat.le_trans hb HB5.out.size
            clear hwz HV4 HB4 d0 d1
            go_wp2_with (at_builtin; refine wpList_app rfl _ _ rfl base v out.length out rfl HV5.out.own HB5.out hbz [13] 1 rfl _ rfl rfl (by omega) ?_)
            intro v' w1 hown' hB' hg' hat
            obtain ⟨A', cap', rfl⟩ := row_is hown'
            have HP2 : Hid (UV base g s p (out ++ [13]) (.slice A' (out.length + 1) cap') (w1.setCell ⟨g, 2, none⟩ (.slice A' (out.length + 1) cap'))) := HV5.out.put (by rw [List.map_append]; exact hown') hg' hat
            have f2 : w1.frozen? ⟨g, 2, none⟩ = false := (HV5.out.blk.grown hg' (Ne.symm HV5.out.ne)).free 2
            have e2 : w1.cell? ⟨g, 2, none⟩ = some v := (HV5.out.blk.grown hg' (Ne.symm HV5.out.ne)).cell 2 rfl
            have HBB : Hid (Below base w (w1.setCell ⟨g, 2, none⟩ (.slice A' (out.length + 1) cap'))) := below_set hB' HV5.out.ge
            clear hown' hB' hg' hat
            have e1 := HP2.out.blk.cell 1 (v := .int .i64 (p : Int)) rfl
            have f1 := HP2.out.blk.free 1
            go_wp2
            go_ret
            have h9 := HP2.out.at' (p + 1)
            exact ⟨.inr ⟨_, _, HI, rfl, _, h9⟩, below_set HBB.out HV5.out.ge⟩
          · rw [if_neg h114] at HI
            by_cases h116 : x = 116
            · subst h116
              rw [if_pos rfl] at HI
              go_upto_region 15 with (fail)
              obtain ⟨wz, hwz⟩ : ∃ wz, wz = wy.drewN nq := ⟨_, rfl⟩
              rw [← hwz]
              have HV5 : Hid (UV base g s p out v wz) := by unfold Hid; rw [hwz]; exact HV4.out.drewN _
              have HB5 : Hid (Below base w wz) := by unfold Hid; rw [hwz]; exact below_drewN HB4.out _
              have d2 := HV5.out.blk.cell 2 (v := v) rfl
              have hbz : base ≤ wz.heap.size := Nat.le_trans hb HB5.out.size
              clear hwz HV4 HB4 d0 d1
              go_wp2_with (at_builtin; refine wpList_app rfl _ _ rfl base v out.length out rfl HV5.out.own HB5.out hbz [9] 1 rfl _ rfl rfl (by omega) ?_)
              intro v' w1 hown' hB' hg' hat
              obtain ⟨A', cap', rfl⟩ := row_is hown'
              have HP2 : Hid (UV base g s p (out ++ [9]) (.slice A' (out.length + 1) cap') (w1.setCell ⟨g, 2, none⟩ (.slice A' (out.length + 1) cap'))) := HV5.out.put (by rw [List.map_append]; exact hown') hg' hat
              have f2 : w1.frozen? ⟨g, 2, none⟩ = false := (HV5.out.blk.grown hg' (Ne.symm HV5.out.ne)).free 2
              have e2 : w1.cell? ⟨g, 2, none⟩ = some v := (HV5.out.blk.grown hg' (Ne.symm HV5.out.ne)).cell 2 rfl
              have HBB : Hid (Below base w (w1.setCell ⟨g, 2, none⟩ (.slice A' (out.length + 1) cap'))) := below_set hB' HV5.out.ge
              clear hown' hB' hg' hat
              have e1 := HP2.out.blk.cell 1 (v := .int .i64 (p : Int)) rfl
              have f1 := HP2.out.blk.free 1
              go_wp2
              go_ret
              have h9 := HP2.out.at' (p + 1)
              exact ⟨.inr ⟨_, _, HI, rfl, _, h9⟩, below_set HBB.out HV5.out.ge⟩
            · rw [if_neg h116] at HI
              have e92 : (((x : Nat) : Int) == 92) = false := by rw [beq_eq_false_iff_ne]; omega
              have e34 : (((x : Nat) : Int) == 34) = false := by rw [beq_eq_false_iff_ne]; omega
              have e110 : (((x : Nat) : Int) == 110) = false := by rw [beq_eq_false_iff_ne]; omega
              have e114 : (((x : Nat) : Int) == 114) = false := by rw [beq_eq_false_iff_ne]; omega
              have e116 : (((x : Nat) : Int) == 116) = false := by rw [beq_eq_false_iff_ne]; omega
              by_cases h120 : x = 120
              · subst h120
                rw [if_neg (by omega)] at HI
                have HI2 : Hid (itemF s k = hexF s p) := HI
                go_upto_region 17 with (fail)
                obtain ⟨wz, hwz⟩ : ∃ wz, wz = wy.drewN nq := ⟨_, rfl⟩
                rw [← hwz]
                have HV5 : Hid (UV base g s p out v wz) := by unfold Hid; rw [hwz]; exact HV4.out.drewN _
                have HB5 : Hid (Below base w wz) := by unfold Hid; rw [hwz]; exact below_drewN HB4.out _
                have hbz : base ≤ wz.heap.size := Nat.le_trans hb HB5.out.size
                clear hwz HV4 HB4 d0 d1 HI
                go_wp2_with (go_at_call 123; fail)
                refine (hex_any base g s p out _ ⟨v, HV5.out⟩ h1 hm hbz ho).mono ?_
                rintro e w2 ⟨⟨q, h1', rfl, hu⟩ | ⟨c, k', h1', rfl, hu⟩, hB2⟩
                · have HR : Hid (itemF s k = .error q) := by unfold Hid; rw [HI2.out]; exact h1'
                  clear h1'
                  go_wp2
                  go_ret
                  exact ⟨.inl ⟨q, HR.out, rfl, hu⟩, HB5.out.trans hB2⟩
                · have HR : Hid (itemF s k = .ok (c, k')) := by unfold Hid; rw [HI2.out]; exact h1'
                  clear h1'
                  go_wp2
                  go_ret
                  exact ⟨.inr ⟨c, k', HR.out, rfl, hu⟩, HB5.out.trans hB2⟩
              · rw [if_pos h120] at HI
                have e120 : (((x : Nat) : Int) == 120) = false := by rw [beq_eq_false_iff_ne]; omega
                have HR : Hid (itemF s k = .error p) := HI
                clear HI
                go_wp2
                go_ret
                exact ⟨.inl ⟨p, HR.out, rfl, v, HV4.out.drewN _⟩, below_drewN HB4.out _⟩
end Go.Proofs.YtijnbohjcmcfjaaGreatDoor.Sc
