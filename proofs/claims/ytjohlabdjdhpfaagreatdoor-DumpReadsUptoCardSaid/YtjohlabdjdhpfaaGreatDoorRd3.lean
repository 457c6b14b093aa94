/-
  A line: package dump's walk.
-/
import Derived.Test.YtjohlabdjdhpfaaGreatDoorRd2
namespace Go.Proofs.YtjohlabdjdhpfaaGreatDoor.Rd
open Go.RowKit Go.Proofs.YtjohlabdjdhpfaaGreatDoor.Kt Go.Proofs.YtjohlabdjdhpfaaGreatDoor.Lk Go.Proofs.YtjohlabdjdhpfaaGreatDoor.Rw Go.Proofs.YtjohlabdjdhpfaaGreatDoor.Ct Go.Proofs.YtjohlabdjdhpfaaGreatDoor.R3 Go.Proofs.YtjohlabdjdhpfaaGreatDoor.Hx Go.Proofs.YtjohlabdjdhpfaaGreatDoor.Rg Go.Proofs.YtjohlabdjdhpfaaGreatDoor.Bg
set_option linter.unusedSimpArgs false
set_option linter.unusedVariables false
set_option maxRecDepth 100000

theorem row_slice {w : World} {base : Nat} {te : TypeId} {size : Nat} {v : Value} {n : Nat} {xs : List Value} (h : w.ownsRow base te size v n xs) : ∃ A cap, v = .slice A n cap := by
  rcases h.2 with ⟨rfl, rfl⟩ | ⟨g, cap, cur, rfl, _⟩
  · exact ⟨none, 0, rfl⟩
  · exact ⟨_, cap, rfl⟩
set_option maxHeartbeats 6400000 in
theorem tline_any (s : ByteArray) (a : Nat) (w : World) (hm : s.size ≤ 1048574) (ha : a ≤ 1099511627776) (he : Env w) : Calls Tryz.prog 7 #[.string s, .int .i64 a] w (LinePost s a w) := by
  have HA : Hid (a ≤ 1099511627776) := ha
  have HE : Hid (Env w) := he
  clear he
  go_enter Tryz.func7, Tryz.ntmps7
  go_wp2_with (go_at_call 11; fail)
  refine (split_any s _ (by omega) HE.out).mono ?_
  rintro e w1 ⟨v, rfl, hown, hb1⟩
  by_cases h5 : (pcs s).length = 5
  · obtain ⟨p0, p1, p2, p3, p4, hp⟩ := five h5
    rw [hp] at hown
    have HP : Hid (pcs s = [p0, p1, p2, p3, p4]) := hp
    have s0 : p0.size ≤ 1048574 := Nat.le_trans (pcs_le (by rw [hp]; simp)) hm
    have s1 : p1.size ≤ 1048574 := Nat.le_trans (pcs_le (by rw [hp]; simp)) hm
    have s3 : p3.size ≤ 1048574 := Nat.le_trans (pcs_le (by rw [hp]; simp)) hm
    have s4 : p4.size ≤ 1048574 := Nat.le_trans (pcs_le (by rw [hp]; simp)) hm
    obtain ⟨g, cap, rfl, hc1, hc2, hLS⟩ := LS.of_row hown hb1
    unfold maxLen at hc1
    have L1 : Hid (LS g p0 p1 p2 p3 p4 w w1) := hLS
    have d0 := hLS.c0
    clear hown hb1 h5 hp hLS
    go_wp2_with (go_at_call 12; fail)
    refine (decimal_any' p0 _ (by omega) (HE.out.below L1.out.bel)).mono ?_
    rintro e w2 ⟨v0, b0, rfl, hb2, hy0, hn0⟩
    have L2 : Hid (LS g p0 p1 p2 p3 p4 w w2) := L1.out.below hb2
    have HY0 : Hid (b0 = true → ∃ m : Nat, m < 9223372036854775808 ∧ p0 = dgt m ∧ v0 = (m : Int)) := hy0
    have HN0 : Hid (∀ m : Nat, m < 9223372036854775808 → p0 = dgt m → b0 = true ∧ v0 = (m : Int)) := hn0
    have d1 := L2.out.c1
    clear hy0 hn0 hb2 d0 L1
    go_wp2_with (go_at_call 12; fail)
    refine (decimal_any' p1 _ (by omega) (HE.out.below L2.out.bel)).mono ?_
    rintro e w3 ⟨v1, b1, rfl, hb3, hy1, hn1⟩
    have L3 : Hid (LS g p0 p1 p2 p3 p4 w w3) := L2.out.below hb3
    have HY1 : Hid (b1 = true → ∃ m : Nat, m < 9223372036854775808 ∧ p1 = dgt m ∧ v1 = (m : Int)) := hy1
    have HN1 : Hid (∀ m : Nat, m < 9223372036854775808 → p1 = dgt m → b1 = true ∧ v1 = (m : Int)) := hn1
    have c2 := L3.out.c2
    clear hy1 hn1 hb3 d1 L2
    cases b0 with
    | false =>
      have HNO : Hid (∀ b m, ¬ LineYes s a b m) := by
        rintro b m' hL
        obtain ⟨x0, x1, x2, x3, x4, hx, h0, h1, h2, h3, h4, h5, h6, h7, h8⟩ := id hL
        have hn := hL.near
        rw [HP.out] at hx
        injection hx with z0 hx; injection hx with z1 hx; injection hx with z2 hx; injection hx with z3 hx; injection hx with z4 hx
        subst z0 z1 z2 z3 z4
        have := (HN0.out a (by have := HA.out; omega) h0).1
        cases this
      clear HY0 HN0 HY1 HN1
      go_wp2
      go_big_quiet (fail)
      go_wp2
      go_ret3
      exact linePost_no HNO.out (below_drewN L3.out.bel _)
    | true =>
      obtain ⟨m0, hm0, hp0, rfl⟩ := HY0.out rfl
      have M0 : Hid (m0 < 9223372036854775808) := hm0
      have P0 : Hid (p0 = dgt m0) := hp0
      clear HY0 hm0 hp0
      cases b1 with
      | false =>
        have HNO : Hid (∀ b m, ¬ LineYes s a b m) := by
          rintro b m' hL
          obtain ⟨x0, x1, x2, x3, x4, hx, h0, h1, h2, h3, h4, h5, h6, h7, h8⟩ := id hL
          have hn := hL.near
          rw [HP.out] at hx
          injection hx with z0 hx; injection hx with z1 hx; injection hx with z2 hx; injection hx with z3 hx; injection hx with z4 hx
          subst z0 z1 z2 z3 z4
          have := (HN1.out m' (by have := HA.out; omega) h1).1
          cases this
        clear HN0 HY1 HN1
        go_wp2
        go_big_quiet (fail)
        go_wp2
        go_ret3
        exact linePost_no HNO.out (below_drewN L3.out.bel _)
      | true =>
        obtain ⟨m, hm1, hp1, rfl⟩ := HY1.out rfl
        have M1 : Hid (m < 9223372036854775808) := hm1
        have P1 : Hid (p1 = dgt m) := hp1
        have i0 : (m0 : Int) ≤ 9223372036854775807 := by have := M0.out; omega
        have i1 : (m : Int) ≤ 9223372036854775807 := by have := M1.out; omega
        have EQM : Hid (∀ m' : Nat, m' ≤ a + s.size → p1 = dgt m' → m' = m) := fun m' h1 h2 => dgt_inj (by have := HA.out; omega) M1.out (by rw [← h2]; exact P1.out)
        have EQA : Hid (p0 = dgt a → m0 = a) := fun h => dgt_inj M0.out (by have := HA.out; omega) (by rw [← P0.out]; exact h)
        clear HY1 hm1 hp1
        by_cases e0 : m0 = a
        · subst e0
          have x0 : (((m0 : Nat) : Int) != ((m0 : Nat) : Int)) = false := by simp
          by_cases e2 : m ≤ m0
          · have HNO : Hid (∀ b m, ¬ LineYes s m0 b m) := by
              rintro b m' hL
              obtain ⟨x0, x1, x2, x3, x4, hx, h0, h1, h2, h3, h4, h5, h6, h7, h8⟩ := id hL
              have hn := hL.near
              rw [HP.out] at hx
              injection hx with z0 hx; injection hx with z1 hx; injection hx with z2 hx; injection hx with z3 hx; injection hx with z4 hx
              subst z0 z1 z2 z3 z4
              have := EQM.out m' (by omega) h1
              omega
            clear HN0 HN1
            go_wp2
            go_big_quiet (fail)
            go_wp2
            go_ret3
            exact linePost_no HNO.out (below_drewN L3.out.bel _)
          · have e2' : m0 < m := by omega
            have KN : Hid (∀ j, j < 6 → w3.cell? ⟨0, j, none⟩ = some (.string (kindsL.getD j ByteArray.empty))) := (HE.out.below L3.out.bel).kinds
            obtain ⟨K, hK⟩ : ∃ K, K = inL p2 kindsL := ⟨_, rfl⟩
            have HKK : Hid (K = inL p2 kindsL) := hK
            have HCK : Hid (Lib.containsS (kindsL.take 6) p2 = K) := by
              unfold Hid
              rw [hK, Bool.eq_iff_iff, inL_iff, Lib.containsS_iff]
              rfl
            clear hK
            cases K with
            | false =>
              have HNO : Hid (∀ b m, ¬ LineYes s m0 b m) := by
                rintro b m' hL
                obtain ⟨x0, x1, x2, x3, x4, hx, h0, h1, h2, h3, h4, h5, h6, h7, h8⟩ := id hL
                have hn := hL.near
                rw [HP.out] at hx
                injection hx with z0 hx; injection hx with z1 hx; injection hx with z2 hx; injection hx with z3 hx; injection hx with z4 hx
                subst z0 z1 z2 z3 z4
                have := inL_iff.2 h3
                rw [← HKK.out] at this
                cases this
              clear HN0 HN1
              go_upto_region 6 with (fail)
              refine wp_region_planH (LS g p0 p1 p2 p3 p4 w) [(some 39, 0), (some 40, 1), (some 41, 2), (some 42, 3), (some 43, 4), (some 44, 5), (some 45, 6), (some 46, 7), (some 47, 8), (some 48, 9), (some 49, 10), (some 50, 11), (some 51, 12), (some 52, 13), (some 53, 14), (some 54, 15), (some 55, 16), (some 56, 17), (some 57, 18), (some 58, 19), (some 59, 20), (none, 21), (some 61, 22), (some 62, 23)] (by kernel_rfl) (by kernel_rfl) (fun _ _ d _ _ h => by cases d <;> exact h) (L3.out.drew) ?_
              repeat (first | (refine planH_yes (v := ?_) (a' := ?_) rfl rfl (by rfl) ?_ ?_ ?_; rotate_left; (intro w' hS'; have c2 := hS'.c2; clear hS'; go_simp; with_reducible rfl); rotate_left; (simp only [Act.put, List.setIfInBounds_toArray, List.set_cons_zero, List.set_cons_succ]; rfl)) | (refine planH_no (a' := ?_) rfl rfl (by rfl) ?_ ?_; rotate_left; (simp only [Act.put, List.setIfInBounds_toArray, List.set_cons_zero, List.set_cons_succ]; rfl)))
              refine planH_alone _ _ _ _ ?_
              simp only [picks, List.getElem?_cons_succ, List.getElem?_cons_zero]
              go_wp2_with (go_at_call 13; refine (Tryz.slices_Contains_string 0 0 6 6 kindsL p2 _ (by decide) (by decide) (fun j hj => by rw [Nat.zero_add]; exact KN.out j hj)).mono ?_; rintro e w4 ⟨rfl, rfl⟩; rw [HCK.out])
              refine ⟨L3.out.drew, ?_⟩
              repeat (first | (refine planH_yes (v := ?_) (a' := ?_) rfl rfl (by rfl) ?_ ?_ ?_; rotate_left; (intro w' hS'; have c2 := hS'.c2; clear hS'; go_simp; with_reducible rfl); rotate_left; (simp only [Act.put, List.setIfInBounds_toArray, List.set_cons_zero, List.set_cons_succ]; rfl)) | (refine planH_no (a' := ?_) rfl rfl (by rfl) ?_ ?_; rotate_left; (simp only [Act.put, List.setIfInBounds_toArray, List.set_cons_zero, List.set_cons_succ]; rfl)))
              refine planH_done ?_
              go_wp2
              go_ret3
              exact linePost_no HNO.out (below_drewN L3.out.bel 1)
            | true =>
              have HK2 : Hid (p2 ∈ kindsL) := inL_iff.1 HKK.out.symm
              clear HN0 HN1
              go_upto_region 6 with (fail)
              refine wp_region_planH (LS g p0 p1 p2 p3 p4 w) [(some 39, 0), (some 40, 1), (some 41, 2), (some 42, 3), (some 43, 4), (some 44, 5), (some 45, 6), (some 46, 7), (some 47, 8), (some 48, 9), (some 49, 10), (some 50, 11), (some 51, 12), (some 52, 13), (some 53, 14), (some 54, 15), (some 55, 16), (some 56, 17), (some 57, 18), (some 58, 19), (some 59, 20), (none, 21), (some 61, 22), (some 62, 23)] (by kernel_rfl) (by kernel_rfl) (fun _ _ d _ _ h => by cases d <;> exact h) (L3.out.drew) ?_
              repeat (first | (refine planH_yes (v := ?_) (a' := ?_) rfl rfl (by rfl) ?_ ?_ ?_; rotate_left; (intro w' hS'; have c2 := hS'.c2; clear hS'; go_simp; with_reducible rfl); rotate_left; (simp only [Act.put, List.setIfInBounds_toArray, List.set_cons_zero, List.set_cons_succ]; rfl)) | (refine planH_no (a' := ?_) rfl rfl (by rfl) ?_ ?_; rotate_left; (simp only [Act.put, List.setIfInBounds_toArray, List.set_cons_zero, List.set_cons_succ]; rfl)))
              refine planH_alone _ _ _ _ ?_
              simp only [picks, List.getElem?_cons_succ, List.getElem?_cons_zero]
              go_wp2_with (go_at_call 13; refine (Tryz.slices_Contains_string 0 0 6 6 kindsL p2 _ (by decide) (by decide) (fun j hj => by rw [Nat.zero_add]; exact KN.out j hj)).mono ?_; rintro e w4 ⟨rfl, rfl⟩; rw [HCK.out])
              refine ⟨L3.out.drew, ?_⟩
              repeat (first | (refine planH_yes (v := ?_) (a' := ?_) rfl rfl (by rfl) ?_ ?_ ?_; rotate_left; (intro w' hS'; have c2 := hS'.c2; clear hS'; go_simp; with_reducible rfl); rotate_left; (simp only [Act.put, List.setIfInBounds_toArray, List.set_cons_zero, List.set_cons_succ]; rfl)) | (refine planH_no (a' := ?_) rfl rfl (by rfl) ?_ ?_; rotate_left; (simp only [Act.put, List.setIfInBounds_toArray, List.set_cons_zero, List.set_cons_succ]; rfl)))
              refine planH_done ?_
              have c3 := L3.out.c3
              have L3d : Hid (LS g p0 p1 p2 p3 p4 w w3.drew) := L3.out.drew
              go_upto_if 66 with (fail)
              go_cut [12, 13, 14, 15, 16] (fun a12 a13 a14 a15 a16 wx => pathOk p3 ∧ LS g p0 p1 p2 p3 p4 w wx)
              case first => as_aux_lemma =>
                by_cases h3 : p3 = ⟨#[45]⟩
                · have HY : Hid (pathOk p3) := .inl h3
                  have q3 : (p3.toList == [45]) = true := by rw [h3, Lib.toList_data]; rfl
                  clear h3
                  rw [q3]
                  clear q3
                  go_wp2
                  go_meet
                  exact ⟨HY.out, L3d.out⟩
                · have q3 : (p3.toList == [45]) = false := by
                    have := str_ne h3
                    rwa [Lib.toList_data (⟨#[45]⟩ : ByteArray)] at this
                  have HP3 : Hid (p3 ≠ ⟨#[45]⟩) := h3
                  clear h3
                  rw [q3]
                  clear q3
                  go_wp2_with (go_at_call 14; fail)
                  refine (path_any p3 _ (by omega)).mono ?_
                  rintro e w6 ⟨vp, rfl, hown6, hb6⟩
                  have L6 : Hid (LS g p0 p1 p2 p3 p4 w w6) := L3d.out.below hb6
                  have HR6 : Hid (Reads w6 vp (pathR p3).1) := Reads.of_row hown6
                  obtain ⟨A6, cap6, rfl⟩ := row_slice hown6
                  have hbd := pathR_bd p3
                  have HB1 : Hid ((pathR p3).1.length ≤ 1048576) := by have := hbd.1; unfold Hid; omega
                  have HB2 : Hid (∀ x ∈ (pathR p3).1, x.1.size ≤ 1048576) := fun x hx => Nat.le_trans (hbd.2 x hx) (by omega)
                  clear hbd hown6 hb6 c3
                  go_wp2_with (go_at_call 15; fail)
                  refine (text_any _ (pathR p3).1 _ HB1.out HB2.out HR6.out (HE.out.below L6.out.bel).tab).mono ?_
                  rintro e w7 ⟨rfl, hb7⟩
                  have L7 : Hid (LS g p0 p1 p2 p3 p4 w w7) := L6.out.below hb7
                  have c3 := L7.out.c3
                  obtain ⟨pe, hpe⟩ : ∃ x, x = (pathR p3).2.1 := ⟨_, rfl⟩
                  obtain ⟨te, hte⟩ : ∃ x, x = (textR (pathR p3).1).2 := ⟨_, rfl⟩
                  obtain ⟨tt, htt⟩ : ∃ x, x = (textR (pathR p3).1).1 := ⟨_, rfl⟩
                  obtain ⟨pn, hpn⟩ : ∃ x, x = (pathR p3).1.length := ⟨_, rfl⟩
                  have HQ : Hid (pathOk p3 ↔ pe = 0 ∧ te = 0 ∧ tt = p3 ∧ p3.size ≠ 0) := by
                    unfold Hid
                    rw [hpe, hte, htt]
                    exact ⟨fun h => h.resolve_left HP3.out, .inr⟩
                  have HPN : Hid (pe = 0 → (pn = 0 ↔ p3.size = 0)) := fun h => by
                    rw [hpe] at h
                    rw [hpn, List.length_eq_zero_iff]
                    exact pathR_some h
                  rw [← hpe, ← hte, ← htt, ← hpn]
                  clear hpe hte htt hpn hb7 HR6 HB1 HB2 L6 L3d
                  by_cases h1 : pe = 0
                  · by_cases h2 : te = 0
                    · by_cases h3 : tt = p3
                      · have x3 := str_eq h3
                        have x3' : (tt.toList != p3.toList) = false := by rw [bne, x3]; rfl
                        by_cases h4 : pn = 0
                        · have HZ : Hid (p3.size = 0) := (HPN.out h1).1 h4
                          have HNP : ¬ pathOk p3 := fun h => (HQ.out.1 h).2.2.2 HZ.out
                          have HNO : Hid (∀ b m, ¬ LineYes s m0 b m) := by
                            rintro b m' hL
                            obtain ⟨x0, x1, x2, x3, x4, hx, h0, h1, h2, h3, h4, h5, h6, h7, h8⟩ := id hL
                            have hn := hL.near
                            rw [HP.out] at hx
                            injection hx with z0 hx; injection hx with z1 hx; injection hx with z2 hx; injection hx with z3 hx; injection hx with z4 hx
                            subst z0 z1 z2 z3 z4
                            exact HNP h4
                          subst h1 h2 h4
                          clear HNP h3
                          go_wp2
                          go_ret3
                          exact linePost_no HNO.out L7.out.bel
                        · have HY : Hid (pathOk p3) := HQ.out.2 ⟨h1, h2, h3, fun h => h4 ((HPN.out h1).2 h)⟩
                          have x5 : (((pn : Nat) : Int) == 0) = false := by rw [beq_eq_false_iff_ne]; omega
                          subst h1 h2
                          clear h3 h4
                          go_wp2
                          go_meet
                          exact ⟨HY.out, L7.out⟩
                      · have x3 := str_ne h3
                        have x3' : (tt.toList != p3.toList) = true := by rw [bne, x3]; rfl
                        have HNP : ¬ pathOk p3 := fun h => h3 (HQ.out.1 h).2.2.1
                        have HNO : Hid (∀ b m, ¬ LineYes s m0 b m) := by
                          rintro b m' hL
                          obtain ⟨x0, x1, x2, x3, x4, hx, h0, h1, h2, h3, h4, h5, h6, h7, h8⟩ := id hL
                          have hn := hL.near
                          rw [HP.out] at hx
                          injection hx with z0 hx; injection hx with z1 hx; injection hx with z2 hx; injection hx with z3 hx; injection hx with z4 hx
                          subst z0 z1 z2 z3 z4
                          exact HNP h4
                        subst h1 h2
                        clear HNP h3
                        go_wp2
                        go_ret3
                        exact linePost_no HNO.out L7.out.bel
                    · have HNP : ¬ pathOk p3 := fun h => h2 (HQ.out.1 h).2.1
                      have HNO : Hid (∀ b m, ¬ LineYes s m0 b m) := by
                        rintro b m' hL
                        obtain ⟨x0, x1, x2, x3, x4, hx, h0, h1, h2, h3, h4, h5, h6, h7, h8⟩ := id hL
                        have hn := hL.near
                        rw [HP.out] at hx
                        injection hx with z0 hx; injection hx with z1 hx; injection hx with z2 hx; injection hx with z3 hx; injection hx with z4 hx
                        subst z0 z1 z2 z3 z4
                        exact HNP h4
                      have x2 : (((te : Nat) : Int) == 0) = false := by rw [beq_eq_false_iff_ne]; omega
                      have x2' : (((te : Nat) : Int) != 0) = true := by rw [bne, x2]; rfl
                      subst h1
                      clear HNP h2
                      go_wp2
                      go_ret3
                      exact linePost_no HNO.out L7.out.bel
                  · have HNP : ¬ pathOk p3 := fun h => h1 (HQ.out.1 h).1
                    have HNO : Hid (∀ b m, ¬ LineYes s m0 b m) := by
                      rintro b m' hL
                      obtain ⟨x0, x1, x2, x3, x4, hx, h0, h1, h2, h3, h4, h5, h6, h7, h8⟩ := id hL
                      have hn := hL.near
                      rw [HP.out] at hx
                      injection hx with z0 hx; injection hx with z1 hx; injection hx with z2 hx; injection hx with z3 hx; injection hx with z4 hx
                      subst z0 z1 z2 z3 z4
                      exact HNP h4
                    have x2 : (((pe : Nat) : Int) == 0) = false := by rw [beq_eq_false_iff_ne]; omega
                    have x2' : (((pe : Nat) : Int) != 0) = true := by rw [bne, x2]; rfl
                    clear HNP h1
                    go_wp2
                    go_ret3
                    exact linePost_no HNO.out L7.out.bel
              case rest =>
              obtain ⟨hpo, L8⟩ := hcut
              have HPO : Hid (pathOk p3) := hpo
              have HL8 : Hid (LS g p0 p1 p2 p3 p4 w wc) := L8
              clear L8 hpo c3 L3d
              have c4 := HL8.out.c4
              go_wp2_with (go_at_call 16; fail)
              refine (tunhex_any p4 _ (by omega)).mono ?_
              rintro e w9 ⟨v, c, q, rfl, hb9, hvs, hy, hn⟩
              have L9 : Hid (LS g p0 p1 p2 p3 p4 w w9) := HL8.out.below hb9
              have HYY : Hid (unhexOk p4 = true → c = 0 ∧ v = unhexS p4) := hy
              have HNN : Hid (unhexOk p4 = false → c ≠ 0) := hn
              clear HL8 hb9 hy hn c4
              obtain ⟨t4, ht4⟩ : ∃ t, t = hexS v := ⟨_, rfl⟩
              have HT4 : Hid (t4 = hexS v) := ht4
              have HHX : Hid (∀ w : World, Calls Tryz.prog 17 #[.string v] w fun e w' => e = .returned (.string t4) ∧ Below w.heap.size w w') := fun w => by rw [ht4]; exact thex_any v w (by omega)
              clear ht4
              have hw : IntKind.i64.wrap ((m : Int) - (m0 : Int)) = (m : Int) - (m0 : Int) := IntWalk.i64_in _ (by have := M1.out; have := M0.out; omega)
              by_cases hc : c = 0
              · have hu : unhexOk p4 = true := by
                  cases h : unhexOk p4 with
                  | true => rfl
                  | false => exact absurd hc (HNN.out h)
                have HV : Hid (v = unhexS p4) := (HYY.out hu).2
                have HUU : Hid (unhexOk p4 = true) := hu
                subst hc
                clear hu
                by_cases hz : v.size = m - m0
                · have hz2 : (((v.size : Nat) : Int) == (m : Int) - (m0 : Int)) = true := by rw [beq_iff_eq]; omega
                  by_cases g4 : t4 = p4
                  · have x4 := str_eq g4
                    have HLY : Hid (LineYes s m0 v m) := ⟨p0, p1, p2, p3, p4, HP.out, P0.out, P1.out, e2', HK2.out, HPO.out, HUU.out, HV.out, by rw [← HT4.out, g4], hz⟩
                    clear g4 hz
                    go_upto_region 14 with (fail)
                    refine wp_region_planH (LS g p0 p1 p2 p3 p4 w) [(some 106, 0), (some 107, 1), (some 108, 2), (some 109, 3), (some 110, 4), (some 111, 5), (some 112, 6), (some 113, 7), (some 114, 8), (some 115, 9), (some 116, 10), (some 117, 11), (some 118, 12), (some 119, 13), (some 121, 15), (some 122, 16), (some 123, 17), (none, 14), (some 124, 18), (some 125, 19), (some 4, 20), (some 5, 21), (some 6, 22)] (by kernel_rfl) (by kernel_rfl) (fun _ _ d _ _ h => by cases d <;> exact h) (L9.out.drew) ?_
                    repeat (first | (refine planH_yes (v := ?_) (a' := ?_) rfl rfl (by rfl) ?_ ?_ ?_; rotate_left; (intro w' hS'; have c4 := hS'.c4; clear hS'; go_simp; with_reducible rfl); rotate_left; (simp only [Act.put, List.setIfInBounds_toArray, List.set_cons_zero, List.set_cons_succ]; rfl)) | (refine planH_no (a' := ?_) rfl rfl (by rfl) ?_ ?_; rotate_left; (simp only [Act.put, List.setIfInBounds_toArray, List.set_cons_zero, List.set_cons_succ]; rfl)))
                    refine planH_alone _ _ _ _ ?_
                    simp only [picks, List.getElem?_cons_succ, List.getElem?_cons_zero]
                    go_wp2_with (go_at_call 17; refine (HHX.out _).mono ?_; rintro e w10 ⟨rfl, hb10⟩)
                    have L10 : Hid (LS g p0 p1 p2 p3 p4 w w10) := L9.out.drew.below hb10
                    refine ⟨L10.out, ?_⟩
                    clear hb10
                    repeat (first | (refine planH_yes (v := ?_) (a' := ?_) rfl rfl (by rfl) ?_ ?_ ?_; rotate_left; (intro w' hS'; have c4 := hS'.c4; clear hS'; go_simp; with_reducible rfl); rotate_left; (simp only [Act.put, List.setIfInBounds_toArray, List.set_cons_zero, List.set_cons_succ]; rfl)) | (refine planH_no (a' := ?_) rfl rfl (by rfl) ?_ ?_; rotate_left; (simp only [Act.put, List.setIfInBounds_toArray, List.set_cons_zero, List.set_cons_succ]; rfl)))
                    refine planH_done ?_
                    go_wp2
                    go_ret3
                    exact linePost_yes HLY.out L10.out.bel
                  · have HNO : Hid (∀ b m, ¬ LineYes s m0 b m) := by
                      rintro b m' hL
                      obtain ⟨x0, x1, x2, x3, x4, hx, h0, h1, h2, h3, h4, h5, h6, h7, h8⟩ := id hL
                      have hn := hL.near
                      rw [HP.out] at hx
                      injection hx with z0 hx; injection hx with z1 hx; injection hx with z2 hx; injection hx with z3 hx; injection hx with z4 hx
                      subst z0 z1 z2 z3 z4
                      apply g4
                      rw [HT4.out, HV.out, ← h6]; exact h7
                    have x4 := str_ne g4
                    clear g4 hz
                    go_upto_region 14 with (fail)
                    refine wp_region_planH (LS g p0 p1 p2 p3 p4 w) [(some 106, 0), (some 107, 1), (some 108, 2), (some 109, 3), (some 110, 4), (some 111, 5), (some 112, 6), (some 113, 7), (some 114, 8), (some 115, 9), (some 116, 10), (some 117, 11), (some 118, 12), (some 119, 13), (some 121, 15), (some 122, 16), (some 123, 17), (none, 14), (some 124, 18), (some 125, 19), (some 4, 20), (some 5, 21), (some 6, 22)] (by kernel_rfl) (by kernel_rfl) (fun _ _ d _ _ h => by cases d <;> exact h) (L9.out.drew) ?_
                    repeat (first | (refine planH_yes (v := ?_) (a' := ?_) rfl rfl (by rfl) ?_ ?_ ?_; rotate_left; (intro w' hS'; have c4 := hS'.c4; clear hS'; go_simp; with_reducible rfl); rotate_left; (simp only [Act.put, List.setIfInBounds_toArray, List.set_cons_zero, List.set_cons_succ]; rfl)) | (refine planH_no (a' := ?_) rfl rfl (by rfl) ?_ ?_; rotate_left; (simp only [Act.put, List.setIfInBounds_toArray, List.set_cons_zero, List.set_cons_succ]; rfl)))
                    refine planH_alone _ _ _ _ ?_
                    simp only [picks, List.getElem?_cons_succ, List.getElem?_cons_zero]
                    go_wp2_with (go_at_call 17; refine (HHX.out _).mono ?_; rintro e w10 ⟨rfl, hb10⟩)
                    have L10 : Hid (LS g p0 p1 p2 p3 p4 w w10) := L9.out.drew.below hb10
                    refine ⟨L10.out, ?_⟩
                    clear hb10
                    repeat (first | (refine planH_yes (v := ?_) (a' := ?_) rfl rfl (by rfl) ?_ ?_ ?_; rotate_left; (intro w' hS'; have c4 := hS'.c4; clear hS'; go_simp; with_reducible rfl); rotate_left; (simp only [Act.put, List.setIfInBounds_toArray, List.set_cons_zero, List.set_cons_succ]; rfl)) | (refine planH_no (a' := ?_) rfl rfl (by rfl) ?_ ?_; rotate_left; (simp only [Act.put, List.setIfInBounds_toArray, List.set_cons_zero, List.set_cons_succ]; rfl)))
                    refine planH_done ?_
                    go_wp2
                    go_ret3
                    exact linePost_no HNO.out L10.out.bel
                · have HNO : Hid (∀ b m, ¬ LineYes s m0 b m) := by
                    rintro b m' hL
                    obtain ⟨x0, x1, x2, x3, x4, hx, h0, h1, h2, h3, h4, h5, h6, h7, h8⟩ := id hL
                    have hn := hL.near
                    rw [HP.out] at hx
                    injection hx with z0 hx; injection hx with z1 hx; injection hx with z2 hx; injection hx with z3 hx; injection hx with z4 hx
                    subst z0 z1 z2 z3 z4
                    apply hz
                    rw [EQM.out m' (by omega) h1] at h8
                    rw [HV.out, ← h6]; exact h8
                  have hz2 : (((v.size : Nat) : Int) == (m : Int) - (m0 : Int)) = false := by rw [beq_eq_false_iff_ne]; omega
                  clear hz
                  go_upto_region 14 with (fail)
                  refine wp_region_planH (LS g p0 p1 p2 p3 p4 w) [(some 106, 0), (some 107, 1), (some 108, 2), (some 109, 3), (some 110, 4), (some 111, 5), (some 112, 6), (some 113, 7), (some 114, 8), (some 115, 9), (some 116, 10), (some 117, 11), (some 118, 12), (some 119, 13), (some 121, 15), (some 122, 16), (some 123, 17), (none, 14), (some 124, 18), (some 125, 19), (some 4, 20), (some 5, 21), (some 6, 22)] (by kernel_rfl) (by kernel_rfl) (fun _ _ d _ _ h => by cases d <;> exact h) (L9.out.drew) ?_
                  repeat (first | (refine planH_yes (v := ?_) (a' := ?_) rfl rfl (by rfl) ?_ ?_ ?_; rotate_left; (intro w' hS'; have c4 := hS'.c4; clear hS'; go_simp; with_reducible rfl); rotate_left; (simp only [Act.put, List.setIfInBounds_toArray, List.set_cons_zero, List.set_cons_succ]; rfl)) | (refine planH_no (a' := ?_) rfl rfl (by rfl) ?_ ?_; rotate_left; (simp only [Act.put, List.setIfInBounds_toArray, List.set_cons_zero, List.set_cons_succ]; rfl)))
                  refine planH_alone _ _ _ _ ?_
                  simp only [picks, List.getElem?_cons_succ, List.getElem?_cons_zero]
                  go_wp2
                  have L10 : Hid (LS g p0 p1 p2 p3 p4 w w9.drew) := L9.out.drew
                  refine ⟨L9.out.drew, ?_⟩
                  repeat (first | (refine planH_yes (v := ?_) (a' := ?_) rfl rfl (by rfl) ?_ ?_ ?_; rotate_left; (intro w' hS'; have c4 := hS'.c4; clear hS'; go_simp; with_reducible rfl); rotate_left; (simp only [Act.put, List.setIfInBounds_toArray, List.set_cons_zero, List.set_cons_succ]; rfl)) | (refine planH_no (a' := ?_) rfl rfl (by rfl) ?_ ?_; rotate_left; (simp only [Act.put, List.setIfInBounds_toArray, List.set_cons_zero, List.set_cons_succ]; rfl)))
                  refine planH_done ?_
                  go_wp2
                  go_ret3
                  exact linePost_no HNO.out L10.out.bel
              · have HNO : Hid (∀ b m, ¬ LineYes s m0 b m) := by
                  rintro b m' hL
                  obtain ⟨x0, x1, x2, x3, x4, hx, h0, h1, h2, h3, h4, h5, h6, h7, h8⟩ := id hL
                  have hn := hL.near
                  rw [HP.out] at hx
                  injection hx with z0 hx; injection hx with z1 hx; injection hx with z2 hx; injection hx with z3 hx; injection hx with z4 hx
                  subst z0 z1 z2 z3 z4
                  exact hc (HYY.out h5).1
                have hc2 : (c == 0) = false := by rw [beq_eq_false_iff_ne]; exact hc
                clear hc
                go_upto_region 14 with (fail)
                refine wp_region_planH (LS g p0 p1 p2 p3 p4 w) [(some 106, 0), (some 107, 1), (some 108, 2), (some 109, 3), (some 110, 4), (some 111, 5), (some 112, 6), (some 113, 7), (some 114, 8), (some 115, 9), (some 116, 10), (some 117, 11), (some 118, 12), (some 119, 13), (some 121, 15), (some 122, 16), (some 123, 17), (none, 14), (some 124, 18), (some 125, 19), (some 4, 20), (some 5, 21), (some 6, 22)] (by kernel_rfl) (by kernel_rfl) (fun _ _ d _ _ h => by cases d <;> exact h) (L9.out.drew) ?_
                repeat (first | (refine planH_yes (v := ?_) (a' := ?_) rfl rfl (by rfl) ?_ ?_ ?_; rotate_left; (intro w' hS'; have c4 := hS'.c4; clear hS'; go_simp; with_reducible rfl); rotate_left; (simp only [Act.put, List.setIfInBounds_toArray, List.set_cons_zero, List.set_cons_succ]; rfl)) | (refine planH_no (a' := ?_) rfl rfl (by rfl) ?_ ?_; rotate_left; (simp only [Act.put, List.setIfInBounds_toArray, List.set_cons_zero, List.set_cons_succ]; rfl)))
                refine planH_alone _ _ _ _ ?_
                simp only [picks, List.getElem?_cons_succ, List.getElem?_cons_zero]
                go_wp2
                have L10 : Hid (LS g p0 p1 p2 p3 p4 w w9.drew) := L9.out.drew
                refine ⟨L9.out.drew, ?_⟩
                repeat (first | (refine planH_yes (v := ?_) (a' := ?_) rfl rfl (by rfl) ?_ ?_ ?_; rotate_left; (intro w' hS'; have c4 := hS'.c4; clear hS'; go_simp; with_reducible rfl); rotate_left; (simp only [Act.put, List.setIfInBounds_toArray, List.set_cons_zero, List.set_cons_succ]; rfl)) | (refine planH_no (a' := ?_) rfl rfl (by rfl) ?_ ?_; rotate_left; (simp only [Act.put, List.setIfInBounds_toArray, List.set_cons_zero, List.set_cons_succ]; rfl)))
                refine planH_done ?_
                go_wp2
                go_ret3
                exact linePost_no HNO.out L10.out.bel
        · have HNO : Hid (∀ b m, ¬ LineYes s a b m) := by
            rintro b m' hL
            obtain ⟨x0, x1, x2, x3, x4, hx, h0, h1, h2, h3, h4, h5, h6, h7, h8⟩ := id hL
            have hn := hL.near
            rw [HP.out] at hx
            injection hx with z0 hx; injection hx with z1 hx; injection hx with z2 hx; injection hx with z3 hx; injection hx with z4 hx
            subst z0 z1 z2 z3 z4
            exact e0 (EQA.out h0)
          have x0 : (((m0 : Nat) : Int) != ((a : Nat) : Int)) = true := by simp; omega
          have x0' : (((m0 : Nat) : Int) == ((a : Nat) : Int)) = false := by rw [beq_eq_false_iff_ne]; omega
          clear e0 HN0 HN1
          go_wp2
          go_big_quiet (fail)
          go_wp2
          go_ret3
          exact linePost_no HNO.out (below_drewN L3.out.bel _)
  · have HNO : Hid (∀ b m, ¬ LineYes s a b m) := by
      rintro b m ⟨x0, x1, x2, x3, x4, hx, _⟩
      rw [hx] at h5; exact h5 rfl
    have hl := pcs_length s
    have hne : (((pcs s).length : Int) == 5) = false := by simp; omega
    have hne2 : (((pcs s).length : Int) != 5) = true := by simp; omega
    rcases hown.2 with ⟨rfl, h0⟩ | ⟨g, cap, cur, rfl, _⟩
    · exact absurd h0 (by rw [pcs_len]; omega)
    · clear hown h5
      go_wp2
      go_ret3
      exact linePost_no HNO.out hb1
end Go.Proofs.YtjohlabdjdhpfaaGreatDoor.Rd
