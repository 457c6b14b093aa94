/-
  Walks: a text in quotes read: package text's unquoter, an item that begins with a backslash.
-/
import Derived.Test.YtijnbohjcmcfjaaGreatDoorLUnq2
import Derived.Test.YtijnbohjcmcfjaaGreatDoorLSc10
namespace Go.Proofs.YtijnbohjcmcfjaaGreatDoor.Sc
open Go.RowKit Go.Proofs.YtijnbohjcmcfjaaGreatDoor.Kt Go.Proofs.YtijnbohjcmcfjaaGreatDoor.Lk Go.Proofs.YtijnbohjcmcfjaaGreatDoor.Rw Go.Proofs.YtijnbohjcmcfjaaGreatDoor.Rg Go.Proofs.YtijnbohjcmcfjaaGreatDoor.Ap
open Go.Proofs.YtijnbohjcmcfjaaGreatDoor.Nu (worthI)
set_option linter.unusedSimpArgs false
set_option linter.unusedVariables false
set_option maxRecDepth 100000

set_option maxHeartbeats 3200000 in
theorem escaped_any (base g : Nat) (s : ByteArray) (k : Nat) (out : List Int) (w : World) (hU : U base g s k out w) (hk : k < s.size) (hm : s.size ≤ 268435456) (hq : gb s k = 92) (hb : base ≤ w.heap.size) (ho : out.length ≤ s.size) :
    Calls Tryz.prog 88 #[.pointer (some ⟨g, 0, none⟩)] w (ItemPost base g s k out w) := by
  obtain ⟨v, hv⟩ := hU
  have HQ : Hid (gb s k = 92) := hq
  have f1 := hv.blk.free 1
  have c1 := hv.blk.cell 1 (v := .int .i64 (k : Int)) rfl
  have HV3 : Hid (UV base g s (k + 1) out v (w.setCell ⟨g, 1, none⟩ (.int .i64 ((k : Int) + 1)))) := hv.at' (k + 1)
  have HB3 : Hid (Below base w (w.setCell ⟨g, 1, none⟩ (.int .i64 ((k : Int) + 1)))) := below_set (Below.refl _ _) hv.ge
  clear hv hq
  go_enter Tryz.func88, Tryz.ntmps88
  go_upto_region 2 with (fail)
  obtain ⟨wx, hwx⟩ : ∃ wx, wx = w.setCell ⟨g, 1, none⟩ (.int .i64 ((k : Int) + 1)) := ⟨_, rfl⟩
  rw [← hwx]
  obtain ⟨p, hp⟩ : ∃ p, p = k + 1 := ⟨_, rfl⟩
  have HP : Hid (p = k + 1) := hp
  have HV2 : Hid (UV base g s p out v wx) := by unfold Hid; rw [hwx, hp]; exact HV3.out
  have HB2 : Hid (Below base w wx) := by unfold Hid; rw [hwx]; exact HB3.out
  have d0 := HV2.out.blk.cell 0 (v := .string s) rfl
  have d1 := HV2.out.blk.cell 1 (v := .int .i64 (p : Int)) rfl
  have hpk : p ≤ s.size := by omega
  clear hwx HV3 HB3 c1 f1 hp
  by_cases he : p = s.size
  · have HR : Hid (itemF s k = .error p) := by unfold Hid itemF; rw [if_neg (by have := HQ.out; omega), if_pos (by have := HP.out; omega), HP.out]
    have e1 : ((p : Int) == ((s.size : Nat) : Int)) = true := by simp; omega
    clear he
    go_wp2
    go_big_quiet (fail)
    go_wp2
    go_ret
    exact ⟨.inl ⟨p, HR.out, rfl, v, HV2.out.drewN _⟩, below_drewN HB2.out _⟩
  · have e1 : ((p : Int) == ((s.size : Nat) : Int)) = false := by rw [beq_eq_false_iff_ne]; omega
    have h1 : p < s.size := by omega
    have hb1 := (gb_lt h1).symm
    have HC : Hid (∀ x, gb s p = x → itemF s k = (if x = 92 ∨ x = 34 then .ok ((x : Int), p + 1) else if x = 110 then .ok (10, p + 1) else if x = 114 then .ok (13, p + 1) else if x = 116 then .ok (9, p + 1) else if x ≠ 120 then .error p else hexF s p)) := by
      intro x hx
      by_cases hx120 : x = 120
      · subst hx120
        rw [if_neg (by omega), if_neg (by omega), if_neg (by omega), if_neg (by omega), if_neg (by omega), itemF_hex HQ.out (by have := HP.out; omega) (by rw [← HP.out]; exact hx), HP.out]
      · unfold itemF
        have hx' : gb s (k + 1) = x := by rw [← HP.out]; exact hx
        rw [if_neg (by have := HQ.out; omega), if_neg (by have := HP.out; omega), hx', HP.out]
        repeat' split
        all_goals first | rfl | omega
    go_wp2
    go_big_quiet (fail)
    go_upto_region 4 with (fail)
    obtain ⟨wy, hwy⟩ : ∃ wy, wy = wx.drewN nq := ⟨_, rfl⟩
    rw [← hwy]
    have HV4 : Hid (UV base g s p out v wy) := by unfold Hid; rw [hwy]; exact HV2.out.drewN _
    have HB4 : Hid (Below base w wy) := by unfold Hid; rw [hwy]; exact below_drewN HB2.out _
    have d0 := HV4.out.blk.cell 0 (v := .string s) rfl
    have d1 := HV4.out.blk.cell 1 (v := .int .i64 (p : Int)) rfl
    clear hwy HV2 HB2 he
    obtain ⟨x, hx⟩ : ∃ x, x = gb s p := ⟨_, rfl⟩
    have hby := gb_byte s p
    have HI := HC.out x hx.symm
    rw [← hx] at hb1 hby
    have HX : Hid (x = gb s p) := hx
    clear hx HC
    go_big_quiet (fail)
    by_cases h92 : x = 92
    · subst h92
      rw [if_pos (.inl rfl)] at HI
      go_upto_region 9 with (fail)
      obtain ⟨wz, hwz⟩ : ∃ wz, wz = wy.drewN nq := ⟨_, rfl⟩
      rw [← hwz]
      have HV5 : Hid (UV base g s p out v wz) := by unfold Hid; rw [hwz]; exact HV4.out.drewN _
      have HB5 : Hid (Below base w wz) := by unfold Hid; rw [hwz]; exact below_drewN HB4.out _
      have d2 := HV5.out.blk.cell 2 (v := v) rfl
      have hbz : base ≤ wz.heap.size := Nat.le_trans hb HB5.out.size
      clear hwz HV4 HB4 d0 d1
      go_wp2_with (at_builtin; refine wpList_app rfl _ _ rfl base v out.length out rfl HV5.out.own HB5.out hbz [92] 1 rfl _ rfl rfl (by omega) ?_)
      intro v' w1 hown' hB' hg' hat
      obtain ⟨A', cap', rfl⟩ := row_is hown'
      have HP2 : Hid (UV base g s p (out ++ [92]) (.slice A' (out.length + 1) cap') (w1.setCell ⟨g, 2, none⟩ (.slice A' (out.length + 1) cap'))) := HV5.out.put (by rw [List.map_append]; exact hown') hg' hat
      have f2 : w1.frozen? ⟨g, 2, none⟩ = false := (HV5.out.blk.grown hg' (Ne.symm HV5.out.ne)).free 2
      have e2 : w1.cell? ⟨g, 2, none⟩ = some v := (HV5.out.blk.grown hg' (Ne.symm HV5.out.ne)).cell 2 rfl
      have HBB : Hid (Below base w (w1.setCell ⟨g, 2, none⟩ (.slice A' (out.length + 1) cap'))) := below_set hB' HV5.out.ge
      clear hown' hB' hg' hat
      have e1 := HP2.out.blk.cell 1 (v := .int .i64 (p : Int)) rfl
      have f1 := HP2.out.blk.free 1
      go_wp2
      go_ret
      have h9 := HP2.out.at' (p + 1)
      exact ⟨.inr ⟨_, _, HI, rfl, _, h9⟩, below_set HBB.out HV5.out.ge⟩
    · by_cases h34 : x = 34
      · subst h34
        rw [if_pos (.inr rfl)] at HI
        go_upto_region 9 with (fail)
        obtain ⟨wz, hwz⟩ : ∃ wz, wz = wy.drewN nq := ⟨_, rfl⟩
        rw [← hwz]
        have HV5 : Hid (UV base g s p out v wz) := by unfold Hid; rw [hwz]; exact HV4.out.drewN _
        have HB5 : Hid (Below base w wz) := by unfold Hid; rw [hwz]; exact below_drewN HB4.out _
        have d2 := HV5.out.blk.cell 2 (v := v) rfl
        have hbz : base ≤ wz.heap.size := Nat.le_trans hb HB5.out.size
        clear hwz HV4 HB4 d0 d1
        go_wp2_with (at_builtin; refine wpList_app rfl _ _ rfl base v out.length out rfl HV5.out.own HB5.out hbz [34] 1 rfl _ rfl rfl (by omega) ?_)
        intro v' w1 hown' hB' hg' hat
        obtain ⟨A', cap', rfl⟩ := row_is hown'
        have HP2 : Hid (UV base g s p (out ++ [34]) (.slice A' (out.length + 1) cap') (w1.setCell ⟨g, 2, none⟩ (.slice A' (out.length + 1) cap'))) := HV5.out.put (by rw [List.map_append]; exact hown') hg' hat
        have f2 : w1.frozen? ⟨g, 2, none⟩ = false := (HV5.out.blk.grown hg' (Ne.symm HV5.out.ne)).free 2
        have e2 : w1.cell? ⟨g, 2, none⟩ = some v := (HV5.out.blk.grown hg' (Ne.symm HV5.out.ne)).cell 2 rfl
        have HBB : Hid (Below base w (w1.setCell ⟨g, 2, none⟩ (.slice A' (out.length + 1) cap'))) := below_set hB' HV5.out.ge
        clear hown' hB' hg' hat
        have e1 := HP2.out.blk.cell 1 (v := .int .i64 (p : Int)) rfl
        have f1 := HP2.out.blk.free 1
        go_wp2
        go_ret
        have h9 := HP2.out.at' (p + 1)
        exact ⟨.inr ⟨_, _, HI, rfl, _, h9⟩, below_set HBB.out HV5.out.ge⟩
      · rw [if_neg (by omega)] at HI
        by_cases h110 : x = 110
        · subst h110
          rw [if_pos rfl] at HI
          go_upto_region 11 with (fail)
          obtain ⟨wz, hwz⟩ : ∃ wz, wz = wy.drewN nq := ⟨_, rfl⟩
          rw [← hwz]
          have HV5 : Hid (UV base g s p out v wz) := by unfold Hid; rw [hwz]; exact HV4.out.drewN _
          have HB5 : Hid (Below base w wz) := by unfold Hid; rw [hwz]; exact below_drewN HB4.out _
          have d2 := HV5.out.blk.cell 2 (v := v) rfl
          have hbz : base ≤ wz.heap.size := Nat.le_trans hb HB5.out.size
          clear hwz HV4 HB4 d0 d1
          go_wp2_with (at_builtin; refine wpList_app rfl _ _ rfl base v out.length out rfl HV5.out.own HB5.out hbz [10] 1 rfl _ rfl rfl (by omega) ?_)
          intro v' w1 hown' hB' hg' hat
          obtain ⟨A', cap', rfl⟩ := row_is hown'
          have HP2 : Hid (UV base g s p (out ++ [10]) (.slice A' (out.length + 1) cap') (w1.setCell ⟨g, 2, none⟩ (.slice A' (out.length + 1) cap'))) := HV5.out.put (by rw [List.map_append]; exact hown') hg' hat
          have f2 : w1.frozen? ⟨g, 2, none⟩ = false := (HV5.out.blk.grown hg' (Ne.symm HV5.out.ne)).free 2
          have e2 : w1.cell? ⟨g, 2, none⟩ = some v := (HV5.out.blk.grown hg' (Ne.symm HV5.out.ne)).cell 2 rfl
          have HBB : Hid (Below base w (w1.setCell ⟨g, 2, none⟩ (.slice A' (out.length + 1) cap'))) := below_set hB' HV5.out.ge
          clear hown' hB' hg' hat
          have e1 := HP2.out.blk.cell 1 (v := .int .i64 (p : Int)) rfl
          have f1 := HP2.out.blk.free 1
          go_wp2
          go_ret
          have h9 := HP2.out.at' (p + 1)
          exact ⟨.inr ⟨_, _, HI, rfl, _, h9⟩, below_set HBB.out HV5.out.ge⟩
        · rw [if_neg h110] at HI
          by_cases h114 : x = 114
          · subst h114
            rw [if_pos rfl] at HI
            go_upto_region 13 with (fail)
            obtain ⟨wz, hwz⟩ : ∃ wz, wz = wy.drewN nq := ⟨_, rfl⟩
            rw [← hwz]
            have HV5 : Hid (UV base g s p out v wz) := by unfold Hid; rw [hwz]; exact HV4.out.drewN _
            have HB5 : Hid (Below base w wz) := by unfold Hid; rw [hwz]; exact below_drewN HB4.out _
            have d2 := HV5.out.blk.cell 2 (v := v) rfl
            have hbz : base ≤ wz.heap.size := Nat.le_trans hb HB5.out.size
            clear hwz HV4 HB4 d0 d1
            go_wp2_with (at_builtin; refine wpList_app rfl _ _ rfl base v out.length out rfl HV5.out.own HB5.out hbz [13] 1 rfl _ rfl rfl (by omega) ?_)
            intro v' w1 hown' hB' hg' hat
            obtain ⟨A', cap', rfl⟩ := row_is hown'
            have HP2 : Hid (UV base g s p (out ++ [13]) (.slice A' (out.length + 1) cap') (w1.setCell ⟨g, 2, none⟩ (.slice A' (out.length + 1) cap'))) := HV5.out.put (by rw [List.map_append]; exact hown') hg' hat
            have f2 : w1.frozen? ⟨g, 2, none⟩ = false := (HV5.out.blk.grown hg' (Ne.symm HV5.out.ne)).free 2
            have e2 : w1.cell? ⟨g, 2, none⟩ = some v := (HV5.out.blk.grown hg' (Ne.symm HV5.out.ne)).cell 2 rfl
            have HBB : Hid (Below base w (w1.setCell ⟨g, 2, none⟩ (.slice A' (out.length + 1) cap'))) := below_set hB' HV5.out.ge
            clear hown' hB' hg' hat
            have e1 := HP2.out.blk.cell 1 (v := .int .i64 (p : Int)) rfl
            have f1 := HP2.out.blk.free 1
            go_wp2
            go_ret
            have h9 := HP2.out.at' (p + 1)
            exact ⟨.inr ⟨_, _, HI, rfl, _, h9⟩, below_set HBB.out HV5.out.ge⟩
          · rw [if_neg h114] at HI
            by_cases h116 : x = 116
            · subst h116
              rw [if_pos rfl] at HI
              go_upto_region 15 with (fail)
              obtain ⟨wz, hwz⟩ : ∃ wz, wz = wy.drewN nq := ⟨_, rfl⟩
              rw [← hwz]
              have HV5 : Hid (UV base g s p out v wz) := by unfold Hid; rw [hwz]; exact HV4.out.drewN _
              have HB5 : Hid (Below base w wz) := by unfold Hid; rw [hwz]; exact below_drewN HB4.out _
              have d2 := HV5.out.blk.cell 2 (v := v) rfl
              have hbz : base ≤ wz.heap.size := Nat.le_trans hb HB5.out.size
              clear hwz HV4 HB4 d0 d1
              go_wp2_with (at_builtin; refine wpList_app rfl _ _ rfl base v out.length out rfl HV5.out.own HB5.out hbz [9] 1 rfl _ rfl rfl (by omega) ?_)
              intro v' w1 hown' hB' hg' hat
              obtain ⟨A', cap', rfl⟩ := row_is hown'
              have HP2 : Hid (UV base g s p (out ++ [9]) (.slice A' (out.length + 1) cap') (w1.setCell ⟨g, 2, none⟩ (.slice A' (out.length + 1) cap'))) := HV5.out.put (by rw [List.map_append]; exact hown') hg' hat
              have f2 : w1.frozen? ⟨g, 2, none⟩ = false := (HV5.out.blk.grown hg' (Ne.symm HV5.out.ne)).free 2
              have e2 : w1.cell? ⟨g, 2, none⟩ = some v := (HV5.out.blk.grown hg' (Ne.symm HV5.out.ne)).cell 2 rfl
              have HBB : Hid (Below base w (w1.setCell ⟨g, 2, none⟩ (.slice A' (out.length + 1) cap'))) := below_set hB' HV5.out.ge
              clear hown' hB' hg' hat
              have e1 := HP2.out.blk.cell 1 (v := .int .i64 (p : Int)) rfl
              have f1 := HP2.out.blk.free 1
              go_wp2
              go_ret
              have h9 := HP2.out.at' (p + 1)
              exact ⟨.inr ⟨_, _, HI, rfl, _, h9⟩, below_set HBB.out HV5.out.ge⟩
            · rw [if_neg h116] at HI
              have e92 : (((x : Nat) : Int) == 92) = false := by rw [beq_eq_false_iff_ne]; omega
              have e34 : (((x : Nat) : Int) == 34) = false := by rw [beq_eq_false_iff_ne]; omega
              have e110 : (((x : Nat) : Int) == 110) = false := by rw [beq_eq_false_iff_ne]; omega
              have e114 : (((x : Nat) : Int) == 114) = false := by rw [beq_eq_false_iff_ne]; omega
              have e116 : (((x : Nat) : Int) == 116) = false := by rw [beq_eq_false_iff_ne]; omega
              by_cases h120 : x = 120
              · subst h120
                rw [if_neg (by omega)] at HI
                have HI2 : Hid (itemF s k = hexF s p) := HI
                go_upto_region 17 with (fail)
                obtain ⟨wz, hwz⟩ : ∃ wz, wz = wy.drewN nq := ⟨_, rfl⟩
                rw [← hwz]
                have HV5 : Hid (UV base g s p out v wz) := by unfold Hid; rw [hwz]; exact HV4.out.drewN _
                have HB5 : Hid (Below base w wz) := by unfold Hid; rw [hwz]; exact below_drewN HB4.out _
                have hbz : base ≤ wz.heap.size := Nat.le_trans hb HB5.out.size
                clear hwz HV4 HB4 d0 d1 HI
                go_wp2_with (go_at_call 123; fail)
                refine (hex_any base g s p out _ ⟨v, HV5.out⟩ h1 hm hbz ho).mono ?_
                rintro e w2 ⟨⟨q, h1', rfl, hu⟩ | ⟨c, k', h1', rfl, hu⟩, hB2⟩
                · have HR : Hid (itemF s k = .error q) := by unfold Hid; rw [HI2.out]; exact h1'
                  clear h1'
                  go_wp2
                  go_ret
                  exact ⟨.inl ⟨q, HR.out, rfl, hu⟩, HB5.out.trans hB2⟩
                · have HR : Hid (itemF s k = .ok (c, k')) := by unfold Hid; rw [HI2.out]; exact h1'
                  clear h1'
                  go_wp2
                  go_ret
                  exact ⟨.inr ⟨c, k', HR.out, rfl, hu⟩, HB5.out.trans hB2⟩
              · rw [if_pos h120] at HI
                have e120 : (((x : Nat) : Int) == 120) = false := by rw [beq_eq_false_iff_ne]; omega
                have HR : Hid (itemF s k = .error p) := HI
                clear HI
                go_wp2
                go_ret
                exact ⟨.inl ⟨p, HR.out, rfl, v, HV4.out.drewN _⟩, below_drewN HB4.out _⟩
end Go.Proofs.YtijnbohjcmcfjaaGreatDoor.Sc
/-
  Walks: a text in quotes read: package text's Unquote.
-/
namespace Go.Proofs.YtijnbohjcmcfjaaGreatDoor.Sc
open Go.RowKit Go.Proofs.YtijnbohjcmcfjaaGreatDoor.Kt Go.Proofs.YtijnbohjcmcfjaaGreatDoor.Lk Go.Proofs.YtijnbohjcmcfjaaGreatDoor.Rw Go.Proofs.YtijnbohjcmcfjaaGreatDoor.Rg Go.Proofs.YtijnbohjcmcfjaaGreatDoor.Ap
open Go.Proofs.YtijnbohjcmcfjaaGreatDoor.Nu (worthI)
set_option linter.unusedSimpArgs false
set_option linter.unusedVariables false
set_option maxRecDepth 100000

/-- what a text in quotes, read, answers -/
def UnqPost (s : ByteArray) (w : World) (e : Ending) (w' : World) : Prop :=
  e = .returned (.tuple #[.string (if (unqF s).2.2 = 0 then strOfNums (unqF s).1 else ⟨#[]⟩), .int .i64 ((unqF s).2.1 : Int), .int .i64 ((unqF s).2.2 : Int)]) ∧ Below w.heap.size w w'
theorem unqPost_bad {s : ByteArray} {w w' : World} {p : Nat} {o : List Int} (h : unqF s = (o, p, 23)) (hb : Below w.heap.size w w') : UnqPost s w (.returned (.tuple #[.string ⟨#[]⟩, .int .i64 (p : Int), .int .i64 23])) w' := by
  unfold UnqPost; rw [h]; exact ⟨rfl, hb⟩
theorem unqPost_ok {s : ByteArray} {w w' : World} {p : Nat} {o : List Int} (h : unqF s = (o, p, 0)) (hb : Below w.heap.size w w') : UnqPost s w (.returned (.tuple #[.string (strOfNums o), .int .i64 (p : Int), .int .i64 0])) w' := by
  unfold UnqPost; rw [h]; exact ⟨rfl, hb⟩

set_option maxHeartbeats 3200000 in
theorem unquote_any (s : ByteArray) (w : World) (hm : s.size ≤ 268435456) : Calls Tryz.prog 60 #[.string s] w (UnqPost s w) := by
  go_enter Tryz.func60, Tryz.ntmps60
  by_cases h0 : s.size = 0
  · obtain rfl := empty_of_size h0
    have HR : Hid (unqF ⟨#[]⟩ = ([], 0, 23)) := rfl
    go_wp2
    go_ret3
    exact unqPost_bad HR.out (Below.refl _ _)
  · have l0 : 0 < s.size := by omega
    have b0 := (gb_lt l0).symm
    have ie := isEmpty_false h0
    clear h0
    by_cases h34 : gb s 0 = 34
    · have HF : Hid (unqGo s 1 [] = unqF s) := by unfold Hid unqF; rw [if_neg (by omega)]
      rw [h34] at b0
      clear h34
      go_wp2
      go_loopg [6] (s.size - 1) (fun m u wr => ∃ (k : Nat) (out : List Int), m = s.size - k ∧ 1 ≤ k ∧ k ≤ s.size ∧ unqGo s k out = unqF s ∧ out.length ≤ k ∧ U w.heap.size w.heap.size s k out wr ∧ Below w.heap.size w wr)
      case atStart =>
        refine ⟨1, [], rfl, Nat.le_refl _, l0, HF.out, Nat.zero_le _, ⟨.slice none 0 0, ⟨Nat.le_refl _, Blk.new _ _ _, row_nil _ _, by simp [Value.ownBlock]⟩⟩, (Below.refl _ _).alloc (Nat.le_refl _) _⟩
      case round =>
        obtain ⟨k, out, hmm, hk1, hk2, hgo, hol, ⟨v, hv⟩, hB⟩ := hrel
        have HM : Hid (gk = s.size - k) := hmm
        have HG : Hid (unqGo s k out = unqF s) := hgo
        have HV : Hid (UV w.heap.size w.heap.size s k out v wr) := hv
        have HB : Hid (Below w.heap.size w wr) := hB
        obtain ⟨c0, c1, c2⟩ := hv.cells
        have hcv := fun n => conv_row (P := Tryz.prog) (hv.drewN n).own 72 5 Tryz.underlying72 Tryz.underlying5 9 Tryz.underlying9
        have HCV : Hid (∀ n, (convert 72 9 v).run Tryz.prog (wr.drewN n) = .ok (.string (strOfNums out)) (wr.drewN n)) := hcv
        clear hmm hgo hv hB hcv b0 ie HF
        by_cases hlt : k < s.size
        · have hbk := (gb_lt hlt).symm
          by_cases hq : gb s k = 34
          · have HR : Hid (unqF s = (out, k + 1, 0)) := by unfold Hid; rw [← HG.out]; exact unqGo_quote hlt hq out
            have hcv := HCV.out
            rw [hq] at hbk
            clear hq
            go_wp2
            go_big_quiet (fail)
            go_wp2
            go_ret3
            exact unqPost_ok HR.out (below_drewN HB.out _)
          · have HQ : Hid (gb s k ≠ 34) := hq
            have e34 : (((gb s k : Nat) : Int) == 34) = false := by rw [beq_eq_false_iff_ne]; omega
            clear hq
            have hbs := HB.out.size
            by_cases h92 : gb s k = 92
            · have H92 : Hid (gb s k = 92) := h92
              rw [h92] at hbk e34
              clear h92
              go_wp2_with (go_at_call 88; fail)
              refine (escaped_any w.heap.size w.heap.size s k out _ ⟨v, HV.out⟩ hlt hm H92.out hbs (by omega)).mono ?_
              rintro e w1 ⟨⟨p, h1, rfl, v1, hv1⟩ | ⟨c, k', h1, rfl, hu⟩, hB1⟩
              · have HR : Hid (unqF s = ([], p, 23)) := by unfold Hid; rw [← HG.out]; exact unqGo_bad hlt HQ.out h1 out
                obtain ⟨d0, d1, d2⟩ := hv1.cells
                have HBB : Hid (Below w.heap.size w w1) := HB.out.trans hB1
                clear h1 hB1 c0 c1 c2 hv1
                go_wp2
                go_big_quiet (fail)
                go_wp2
                go_ret3
                exact unqPost_bad HR.out (below_drewN HBB.out _)
              · have HN : Hid (unqGo s k' (out ++ [c]) = unqF s) := by unfold Hid; rw [← HG.out]; exact (unqGo_next hlt HQ.out h1 out).symm
                have hgt := (itemF_gt h1).1
                have hle := (itemF_le hlt).2 c k' h1
                have HBB : Hid (Below w.heap.size w w1) := HB.out.trans hB1
                have HU : Hid (U w.heap.size w.heap.size s k' (out ++ [c]) w1) := hu
                clear h1 hB1 c0 c1 c2 hu
                go_wp2
                go_roundg (s.size - k')
                case measure => rw [HM.out]; omega
                case rel => exact ⟨k', _, rfl, by omega, hle, HN.out, by simp; omega, HU.out, HBB.out⟩
            · have H92 : Hid (gb s k ≠ 92) := h92
              have e92 : (((gb s k : Nat) : Int) == 92) = false := by rw [beq_eq_false_iff_ne]; omega
              clear h92
              go_wp2_with (go_at_call 87; fail)
              refine (plain_any w.heap.size w.heap.size s k out _ ⟨v, HV.out⟩ hlt hm H92.out hbs (by omega)).mono ?_
              rintro e w1 ⟨⟨p, h1, rfl, v1, hv1⟩ | ⟨c, k', h1, rfl, hu⟩, hB1⟩
              · have HR : Hid (unqF s = ([], p, 23)) := by unfold Hid; rw [← HG.out]; exact unqGo_bad hlt HQ.out h1 out
                obtain ⟨d0, d1, d2⟩ := hv1.cells
                have HBB : Hid (Below w.heap.size w w1) := HB.out.trans hB1
                clear h1 hB1 c0 c1 c2 hv1
                go_wp2
                go_big_quiet (fail)
                go_wp2
                go_ret3
                exact unqPost_bad HR.out (below_drewN HBB.out _)
              · have HN : Hid (unqGo s k' (out ++ [c]) = unqF s) := by unfold Hid; rw [← HG.out]; exact (unqGo_next hlt HQ.out h1 out).symm
                have hgt := (itemF_gt h1).1
                have hle := (itemF_le hlt).2 c k' h1
                have HBB : Hid (Below w.heap.size w w1) := HB.out.trans hB1
                have HU : Hid (U w.heap.size w.heap.size s k' (out ++ [c]) w1) := hu
                clear h1 hB1 c0 c1 c2 hu
                go_wp2
                go_roundg (s.size - k')
                case measure => rw [HM.out]; omega
                case rel => exact ⟨k', _, rfl, by omega, hle, HN.out, by simp; omega, HU.out, HBB.out⟩
        · have HR : Hid (unqF s = ([], s.size, 23)) := by unfold Hid; rw [← HG.out]; exact unqGo_end hlt out
          go_wp2
          go_ret3
          exact unqPost_bad HR.out HB.out
    · have HR : Hid (unqF s = ([], 0, 23)) := by unfold Hid unqF; rw [if_pos h34]
      have en : (((gb s 0 : Nat) : Int) != 34) = true := by simp; omega
      go_wp2
      go_ret3
      exact unqPost_bad HR.out (Below.refl _ _)
end Go.Proofs.YtijnbohjcmcfjaaGreatDoor.Sc
