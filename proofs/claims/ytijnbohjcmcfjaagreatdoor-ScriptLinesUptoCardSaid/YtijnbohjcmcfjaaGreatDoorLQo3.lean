/-
  Walks: the document's Parse of a line: a word of kind 3.
-/
import Derived.Test.YtijnbohjcmcfjaaGreatDoorLQn
import Derived.Test.YtijnbohjcmcfjaaGreatDoorLQm
namespace Go.Proofs.YtijnbohjcmcfjaaGreatDoor.Sc
open Go.RowKit Go.Proofs.YtijnbohjcmcfjaaGreatDoor.Kt Go.Proofs.YtijnbohjcmcfjaaGreatDoor.Lk Go.Proofs.YtijnbohjcmcfjaaGreatDoor.Sp Go.Proofs.YtijnbohjcmcfjaaGreatDoor.Rw Go.Proofs.YtijnbohjcmcfjaaGreatDoor.Rg
open Go.Proofs.YtijnbohjcmcfjaaGreatDoor.Nu (dgt Sizes isInt pwOf)
set_option linter.unusedSimpArgs false
set_option linter.unusedVariables false
set_option maxRecDepth 100000

theorem str_eqS3 {a b : ByteArray} (h : a = b) : (a.toList == b.toList) = true := by rw [h]; simp
set_option maxHeartbeats 6400000 in
theorem rparse_kd3 (s : ByteArray) (w : World) (hm : s.size ≤ 1048576) (hlt : skipE s 0 < s.size) (hkd : kq (sub s (skipE s 0) (fieldE s (skipE s 0))) 4 = 3) : Calls Tryz.prog 9 #[.string s] w (ParsePost s w) := by
  have HB0 : Hid (Below w.heap.size w (w.alloc (.cells #[.int .i64 0, .string ⟨#[]⟩, .slice none 0 0, .int .i64 0, .string ⟨#[]⟩] 25))) := (Below.refl _ _).alloc (Nat.le_refl _) _
  have HR0 : Hid (Blk (w.alloc (.cells #[.int .i64 0, .string ⟨#[]⟩, .slice none 0 0, .int .i64 0, .string ⟨#[]⟩] 25)) w.heap.size #[.int .i64 0, .string ⟨#[]⟩, .slice none 0 0, .int .i64 0, .string ⟨#[]⟩] 25) := Blk.new _ _ _
  have ha := skipE_le s 0 (Nat.zero_le _)
  have HSK : Hid (∀ W, Calls Tryz.prog 22 #[.string s, .int .i64 0] W fun e w' => e = .returned (.int .i64 (skipE s 0)) ∧ W = w') := fun W => rskip_any s 0 W (Nat.zero_le _) (by omega)
  have HKD : Hid (kq (sub s (skipE s 0) (fieldE s (skipE s 0))) 4 = 3) := hkd
  have HP : Hid _ := parse_kq s hlt
  have hgt := fieldE_gt hlt
  have hle := fieldE_le s (skipE s 0) ha
  have HEN : Hid (∀ W, Calls Tryz.prog 23 #[.string s, .int .i64 (skipE s 0)] W fun e w' => e = .returned (.int .i64 (fieldE s (skipE s 0))) ∧ W = w') := fun W => rend_any s (skipE s 0) W ha (by omega)
  clear hkd
  generalize fieldE s (skipE s 0) = b at HP hgt hle HEN HKD
  generalize skipE s 0 = a at HP hgt hle HEN hlt HSK HKD
  go_enter Tryz.func9, Tryz.ntmps9
  go_wp2_with (go_at_call 22; fail)
  refine (HSK.out _).mono ?_
  rintro e w' ⟨rfl, rfl⟩
  go_wp2_with (go_at_call 23; fail)
  refine (HEN.out _).mono ?_
  rintro e w' ⟨rfl, rfl⟩
  go_wp2
  have HB1 : Hid (Below w.heap.size w ((w.alloc (.cells #[.int .i64 0, .string ⟨#[]⟩, .slice none 0 0, .int .i64 0, .string ⟨#[]⟩] 25)).alloc (.cells #[.string wField, .string wGroup, .string wNext, .string wData] 9))) := HB0.out.alloc (by simp) _
  have HR1 : Hid (Blk ((w.alloc (.cells #[.int .i64 0, .string ⟨#[]⟩, .slice none 0 0, .int .i64 0, .string ⟨#[]⟩] 25)).alloc (.cells #[.string wField, .string wGroup, .string wNext, .string wData] 9)) w.heap.size #[.int .i64 0, .string ⟨#[]⟩, .slice none 0 0, .int .i64 0, .string ⟨#[]⟩] 25) := HR0.out.alloc _
  have HW1 : Hid (Blk ((w.alloc (.cells #[.int .i64 0, .string ⟨#[]⟩, .slice none 0 0, .int .i64 0, .string ⟨#[]⟩] 25)).alloc (.cells #[.string wField, .string wGroup, .string wNext, .string wData] 9)) (w.heap.size + 1) #[.string wField, .string wGroup, .string wNext, .string wData] 9) := by
    have := Blk.new (w.alloc (.cells #[.int .i64 0, .string ⟨#[]⟩, .slice none 0 0, .int .i64 0, .string ⟨#[]⟩] 25)) #[.string wField, .string wGroup, .string wNext, .string wData] 9
    have e : (w.alloc (.cells #[.int .i64 0, .string ⟨#[]⟩, .slice none 0 0, .int .i64 0, .string ⟨#[]⟩] 25)).heap.size = w.heap.size + 1 := by simp
    rw [e] at this
    exact this
  generalize hW1 : ((w.alloc (.cells #[.int .i64 0, .string ⟨#[]⟩, .slice none 0 0, .int .i64 0, .string ⟨#[]⟩] 25)).alloc (.cells #[.string wField, .string wGroup, .string wNext, .string wData] 9)) = W1 at HB1 HR1 HW1
  go_loopw [7, 8, 9, 27] (fun kd x8 x9 i wx => ∃ q : Nat, kd = .int .i64 (kq (sub s a b) q) ∧ i = .int .i64 q ∧ q ≤ 4 ∧ wx = W1) (fun _ _ _ i _ => 4 - (intOf i).toNat)
  case atStart => exact ⟨0, rfl, rfl, by omega, hW1⟩
  case round =>
    obtain ⟨q, rfl, rfl, hq, rfl⟩ := hrel
    by_cases hq4 : q < 4
    · have hqs : q = 0 ∨ q = 1 ∨ q = 2 ∨ q = 3 := by omega
      clear hq hq4 hW1
      rcases hqs with rfl | rfl | rfl | rfl
      · have c := HW1.out.cell 0 (v := .string wField) rfl
        by_cases ht : s.extract a b = wField
        · have HT : Hid (s.extract a b = kw 0) := ht
          have e := str_eqS3 ht
          clear ht
          go_wp2
          go_roundw
          case rel => exact ⟨0 + 1, (by rw [kq_yes HT.out]; try rfl), (by first | rfl | trivial), by omega, by first | rfl | trivial⟩
          case measure => simp [intOf]
        · have HT : Hid (s.extract a b ≠ kw 0) := ht
          have e := str_neS ht
          clear ht
          go_wp2
          go_roundw
          case rel => exact ⟨0 + 1, (by rw [kq_no HT.out]; try rfl), (by first | rfl | trivial), by omega, by first | rfl | trivial⟩
          case measure => simp [intOf]
      · have c := HW1.out.cell 1 (v := .string wGroup) rfl
        by_cases ht : s.extract a b = wGroup
        · have HT : Hid (s.extract a b = kw 1) := ht
          have e := str_eqS3 ht
          clear ht
          go_wp2
          go_roundw
          case rel => exact ⟨1 + 1, (by rw [kq_yes HT.out]; try rfl), (by first | rfl | trivial), by omega, by first | rfl | trivial⟩
          case measure => simp [intOf]
        · have HT : Hid (s.extract a b ≠ kw 1) := ht
          have e := str_neS ht
          clear ht
          go_wp2
          go_roundw
          case rel => exact ⟨1 + 1, (by rw [kq_no HT.out]; try rfl), (by first | rfl | trivial), by omega, by first | rfl | trivial⟩
          case measure => simp [intOf]
      · have c := HW1.out.cell 2 (v := .string wNext) rfl
        by_cases ht : s.extract a b = wNext
        · have HT : Hid (s.extract a b = kw 2) := ht
          have e := str_eqS3 ht
          clear ht
          go_wp2
          go_roundw
          case rel => exact ⟨2 + 1, (by rw [kq_yes HT.out]; try rfl), (by first | rfl | trivial), by omega, by first | rfl | trivial⟩
          case measure => simp [intOf]
        · have HT : Hid (s.extract a b ≠ kw 2) := ht
          have e := str_neS ht
          clear ht
          go_wp2
          go_roundw
          case rel => exact ⟨2 + 1, (by rw [kq_no HT.out]; try rfl), (by first | rfl | trivial), by omega, by first | rfl | trivial⟩
          case measure => simp [intOf]
      · have c := HW1.out.cell 3 (v := .string wData) rfl
        by_cases ht : s.extract a b = wData
        · have HT : Hid (s.extract a b = kw 3) := ht
          have e := str_eqS3 ht
          clear ht
          go_wp2
          go_roundw
          case rel => exact ⟨3 + 1, (by rw [kq_yes HT.out]; try rfl), (by first | rfl | trivial), by omega, by first | rfl | trivial⟩
          case measure => simp [intOf]
        · have HT : Hid (s.extract a b ≠ kw 3) := ht
          have e := str_neS ht
          clear ht
          go_wp2
          go_roundw
          case rel => exact ⟨3 + 1, (by rw [kq_no HT.out]; try rfl), (by first | rfl | trivial), by omega, by first | rfl | trivial⟩
          case measure => simp [intOf]
    · obtain rfl : q = 4 := by omega
      have r0 := HR1.out.cell 0 (v := .int .i64 0) rfl
      have r1 := HR1.out.cell 1 (v := .string ⟨#[]⟩) rfl
      have r2 := HR1.out.cell 2 (v := .slice none 0 0) rfl
      have r3 := HR1.out.cell 3 (v := .int .i64 0) rfl
      have r4 := HR1.out.cell 4 (v := .string ⟨#[]⟩) rfl
      have q0 := HR1.out.free 0
      have q1 := HR1.out.free 1
      have q2 := HR1.out.free 2
      have q3 := HR1.out.free 3
      have q4 := HR1.out.free 4
      clear hq hq4 hW1
      have HPN : Hid (parseF s = namedF s 3 b) := by unfold Hid; rw [HP.out, HKD.out, if_neg (by decide), if_neg (by decide)]
      have hsb := skipE_le s b hle
      have HSB : Hid (∀ W, Calls Tryz.prog 22 #[.string s, .int .i64 b] W fun e w' => e = .returned (.int .i64 (skipE s b)) ∧ W = w') := fun W => rskip_any s b W hle (by omega)
      rw [HKD.out]
      clear r0 r1 r2 r3 r4 q0 q1 q2 q3 q4
      have hlt1 := HR1.out.lt
      have HB2 : Hid (Below w.heap.size w (wr.alloc (.cells #[.int .i64 3, .string ⟨#[]⟩, .slice none 0 0, .int .i64 0, .string ⟨#[]⟩] 25))) := HB1.out.alloc HB1.out.size _
      have HR2 : Hid (Blk (wr.alloc (.cells #[.int .i64 3, .string ⟨#[]⟩, .slice none 0 0, .int .i64 0, .string ⟨#[]⟩] 25)) w.heap.size #[.int .i64 0, .string ⟨#[]⟩, .slice none 0 0, .int .i64 0, .string ⟨#[]⟩] 25) := HR1.out.alloc _
      have HC2 : Hid (Blk (wr.alloc (.cells #[.int .i64 3, .string ⟨#[]⟩, .slice none 0 0, .int .i64 0, .string ⟨#[]⟩] 25)) wr.heap.size #[.int .i64 3, .string ⟨#[]⟩, .slice none 0 0, .int .i64 0, .string ⟨#[]⟩] 25) := Blk.new _ _ _
      clear HB1 HR1 HW1 HB0 HR0 HSK HEN HP HKD
      by_cases hz : skipE s b = s.size
      · have HPE : Hid (parseF s = (CallP.none, 250, s.size)) := by unfold Hid; rw [HPN.out]; exact rnamed_none 3 hz
        rw [hz] at HSB
        clear hz HPN hsb
        go_wp2_with (go_at_call 22; fail)
        refine (HSB.out _).mono ?_
        rintro e w' ⟨rfl, rfl⟩
        generalize wr.alloc (.cells #[.int .i64 3, .string ⟨#[]⟩, .slice none 0 0, .int .i64 0, .string ⟨#[]⟩] 25) = W2 at HB2 HR2 HC2 ⊢
        generalize wr.heap.size = gc at HC2 hlt1 ⊢
        have hne1 : ¬ gc = w.heap.size := by omega
        have hne2 : ¬ w.heap.size = gc := by omega
        have r0 := HR2.out.cell 0 (v := .int .i64 0) rfl
        have q0 := HR2.out.free 0
        have r1 := HR2.out.cell 1 (v := .string ⟨#[]⟩) rfl
        have q1 := HR2.out.free 1
        have r2 := HR2.out.cell 2 (v := .slice none 0 0) rfl
        have q2 := HR2.out.free 2
        have r3 := HR2.out.cell 3 (v := .int .i64 0) rfl
        have q3 := HR2.out.free 3
        have r4 := HR2.out.cell 4 (v := .string ⟨#[]⟩) rfl
        have q4 := HR2.out.free 4
        have c0 := HC2.out.cell 0 (v := .int .i64 3) rfl
        have f0 := HC2.out.free 0
        go_wp2
        have h2 := ((((HR2.out.set 0 (.int .i64 0)).set 1 (.string ⟨#[]⟩)).set 2 (.slice none 0 0)).set 3 (.int .i64 0)).set 4 (.string ⟨#[]⟩)
        refine ret_cell3G (cs := #[.int .i64 0, .string ⟨#[]⟩, .slice none 0 0, .int .i64 0, .string ⟨#[]⟩]) (t := 25) rfl Tryz.underlying25 rfl (by kernel_rfl) rfl rfl rfl rfl h2 ?_
        refine parsePost_mk (c := CallP.none) (v := .slice none 0 0) HPE.out (World.ownsRow_nil _ _ _ _) ?_
        exact below_set (below_set (below_set (below_set (below_set (HB2.out) (Nat.le_refl _)) (Nat.le_refl _)) (Nat.le_refl _)) (Nat.le_refl _)) (Nat.le_refl _)
      · have hz2 : skipE s b < s.size := by omega
        have HPS : Hid _ := rnamed_some (s := s) (k := b) 3 hle hz2
        have hgt2 := fieldE_gt hz2
        have hle2 := fieldE_le s (skipE s b) hsb
        have hsk2 := skipE_le s _ hle2
        have HEN2 : Hid (∀ W, Calls Tryz.prog 23 #[.string s, .int .i64 (skipE s b)] W fun e w' => e = .returned (.int .i64 (fieldE s (skipE s b))) ∧ W = w') := fun W => rend_any s (skipE s b) W hsb (by omega)
        have HSK2 : Hid (∀ W, Calls Tryz.prog 22 #[.string s, .int .i64 (fieldE s (skipE s b))] W fun e w' => e = .returned (.int .i64 (skipE s (fieldE s (skipE s b)))) ∧ W = w') := fun W => rskip_any s (fieldE s (skipE s b)) W hle2 (by omega)
        have HSS : Hid (skipE s (skipE s (fieldE s (skipE s b))) = skipE s (fieldE s (skipE s b))) := skipE_skip _ _
        clear hz
        generalize skipE s (fieldE s (skipE s b)) = k2 at HPS hsk2 HSK2 HSS
        generalize fieldE s (skipE s b) = e1 at HPS hgt2 hle2 hsk2 HEN2 HSK2
        generalize skipE s b = k1 at HPS hz2 hgt2 hle2 HEN2 HSB hsb
        have hnz : (s.extract k1 e1).size ≤ 1048576 := by rw [ByteArray.size_extract]; omega
        have HPX : Hid (parseF s = if symOk (sub s k1 e1) = false then (CallP.none, 250, k1) else if k2 = s.size then (⟨3, sub s k1 e1, [], 0, ⟨#[]⟩⟩, 0, 0) else restF s 3 (sub s k1 e1) k2) := by unfold Hid; rw [HPN.out, HPS.out]
        clear HPS HPN
        go_wp2_with (go_at_call 22; fail)
        refine (HSB.out _).mono ?_
        rintro e w' ⟨rfl, rfl⟩
        generalize wr.alloc (.cells #[.int .i64 3, .string ⟨#[]⟩, .slice none 0 0, .int .i64 0, .string ⟨#[]⟩] 25) = W2 at HB2 HR2 HC2 ⊢
        generalize wr.heap.size = gc at HC2 hlt1 ⊢
        have hne1 : ¬ gc = w.heap.size := by omega
        have hne2 : ¬ w.heap.size = gc := by omega
        have c0 := HC2.out.cell 0 (v := .int .i64 3) rfl
        have f0 := HC2.out.free 0
        have c1 := HC2.out.cell 1 (v := .string ⟨#[]⟩) rfl
        have f1 := HC2.out.free 1
        go_wp2_with (go_at_call 23; fail)
        refine (HEN2.out _).mono ?_
        rintro e w' ⟨rfl, rfl⟩
        clear HSB HEN2
        by_cases hs : symOk (s.extract k1 e1) = true
        rotate_left
        · have hs : symOk (s.extract k1 e1) = false := by simpa using hs
          have HPF : Hid (parseF s = (CallP.none, 250, k1)) := by unfold Hid; rw [HPX.out]; exact if_pos hs
          clear HPX
          have HSY : Hid (∀ W, Calls Tryz.prog 24 #[.string (s.extract k1 e1)] W fun e w' => e = .returned (.bool false) ∧ ∃ n, w' = W.drewN n) := fun W => (rsym_any (s.extract k1 e1) W hnz).mono fun _ _ ⟨h1, h2⟩ => ⟨by rw [h1, hs], h2⟩
          generalize hNM : s.extract k1 e1 = NM at HSY
          clear hs
          go_wp2_with (go_at_call 24; fail)
          try rw [hNM]
          refine (HSY.out _).mono ?_
          rintro e w' ⟨rfl, n1, rfl⟩
          clear hNM HSY c0 c1 f0 f1
          have HB3 : Hid (Below w.heap.size w ((W2.setCell ⟨gc, 1, none⟩ (.string NM)).drewN n1)) := below_drewN (below_set HB2.out (by omega)) n1
          have HR3 : Hid (Blk ((W2.setCell ⟨gc, 1, none⟩ (.string NM)).drewN n1) w.heap.size #[.int .i64 0, .string ⟨#[]⟩, .slice none 0 0, .int .i64 0, .string ⟨#[]⟩] 25) := (HR2.out.other ⟨gc, 1, none⟩ hne2 _).drewN n1
          have HC3 : Hid (Blk ((W2.setCell ⟨gc, 1, none⟩ (.string NM)).drewN n1) gc #[.int .i64 3, .string NM, .slice none 0 0, .int .i64 0, .string ⟨#[]⟩] 25) := (HC2.out.set 1 _).drewN n1
          clear HB2 HR2 HC2
          generalize (W2.setCell ⟨gc, 1, none⟩ (.string NM)).drewN n1 = W3 at HB3 HR3 HC3 ⊢
          have r0 := HR3.out.cell 0 (v := .int .i64 0) rfl
          have q0 := HR3.out.free 0
          have r1 := HR3.out.cell 1 (v := .string ⟨#[]⟩) rfl
          have q1 := HR3.out.free 1
          have r2 := HR3.out.cell 2 (v := .slice none 0 0) rfl
          have q2 := HR3.out.free 2
          have r3 := HR3.out.cell 3 (v := .int .i64 0) rfl
          have q3 := HR3.out.free 3
          have r4 := HR3.out.cell 4 (v := .string ⟨#[]⟩) rfl
          have q4 := HR3.out.free 4
          go_wp2
          have h2 := ((((HR3.out.set 0 (.int .i64 0)).set 1 (.string ⟨#[]⟩)).set 2 (.slice none 0 0)).set 3 (.int .i64 0)).set 4 (.string ⟨#[]⟩)
          refine ret_cell3G (cs := #[.int .i64 0, .string ⟨#[]⟩, .slice none 0 0, .int .i64 0, .string ⟨#[]⟩]) (t := 25) rfl Tryz.underlying25 rfl (by kernel_rfl) rfl rfl rfl rfl h2 ?_
          refine parsePost_mk (c := CallP.none) (v := .slice none 0 0) HPF.out (World.ownsRow_nil _ _ _ _) ?_
          exact below_set (below_set (below_set (below_set (below_set (HB3.out) (Nat.le_refl _)) (Nat.le_refl _)) (Nat.le_refl _)) (Nat.le_refl _)) (Nat.le_refl _)
        · have HPX2 : Hid (parseF s = if k2 = s.size then (⟨3, s.extract k1 e1, [], 0, ⟨#[]⟩⟩, 0, 0) else restF s 3 (s.extract k1 e1) k2) := by unfold Hid; rw [HPX.out]; exact if_neg (by rw [show symOk (sub s k1 e1) = true from hs]; simp)
          clear HPX
          have HSY : Hid (∀ W, Calls Tryz.prog 24 #[.string (s.extract k1 e1)] W fun e w' => e = .returned (.bool true) ∧ ∃ n, w' = W.drewN n) := fun W => (rsym_any (s.extract k1 e1) W hnz).mono fun _ _ ⟨h1, h2⟩ => ⟨by rw [h1, hs], h2⟩
          generalize hNM : s.extract k1 e1 = NM at HPX2 HSY
          clear hs
          go_wp2_with (go_at_call 24; fail)
          try rw [hNM]
          refine (HSY.out _).mono ?_
          rintro e w' ⟨rfl, n1, rfl⟩
          clear hNM HSY c0 c1 f0 f1
          have HB3 : Hid (Below w.heap.size w ((W2.setCell ⟨gc, 1, none⟩ (.string NM)).drewN n1)) := below_drewN (below_set HB2.out (by omega)) n1
          have HR3 : Hid (Blk ((W2.setCell ⟨gc, 1, none⟩ (.string NM)).drewN n1) w.heap.size #[.int .i64 0, .string ⟨#[]⟩, .slice none 0 0, .int .i64 0, .string ⟨#[]⟩] 25) := (HR2.out.other ⟨gc, 1, none⟩ hne2 _).drewN n1
          have HC3 : Hid (Blk ((W2.setCell ⟨gc, 1, none⟩ (.string NM)).drewN n1) gc #[.int .i64 3, .string NM, .slice none 0 0, .int .i64 0, .string ⟨#[]⟩] 25) := (HC2.out.set 1 _).drewN n1
          clear HB2 HR2 HC2
          generalize (W2.setCell ⟨gc, 1, none⟩ (.string NM)).drewN n1 = W3 at HB3 HR3 HC3 ⊢
          go_wp2_with (go_at_call 22; fail)
          refine (HSK2.out _).mono ?_
          rintro e w' ⟨rfl, rfl⟩
          clear HSK2
          by_cases hz3 : k2 = s.size
          · have HPZ : Hid (parseF s = (⟨3, NM, [], 0, ⟨#[]⟩⟩, 0, 0)) := by unfold Hid; rw [HPX2.out, if_pos hz3]
            clear HPX2
            subst hz3
            have r0 := HR3.out.cell 0 (v := .int .i64 0) rfl
            have q0 := HR3.out.free 0
            have r1 := HR3.out.cell 1 (v := .string ⟨#[]⟩) rfl
            have q1 := HR3.out.free 1
            have r2 := HR3.out.cell 2 (v := .slice none 0 0) rfl
            have q2 := HR3.out.free 2
            have r3 := HR3.out.cell 3 (v := .int .i64 0) rfl
            have q3 := HR3.out.free 3
            have r4 := HR3.out.cell 4 (v := .string ⟨#[]⟩) rfl
            have q4 := HR3.out.free 4
            have c0 := HC3.out.cell 0 (v := .int .i64 3) rfl
            have f0 := HC3.out.free 0
            have c1 := HC3.out.cell 1 (v := .string NM) rfl
            have f1 := HC3.out.free 1
            have c2 := HC3.out.cell 2 (v := .slice none 0 0) rfl
            have f2 := HC3.out.free 2
            have c3 := HC3.out.cell 3 (v := .int .i64 0) rfl
            have f3 := HC3.out.free 3
            have c4 := HC3.out.cell 4 (v := .string ⟨#[]⟩) rfl
            have f4 := HC3.out.free 4
            go_wp2
            have h2 := ((((HR3.out.set 0 (.int .i64 3)).set 1 (.string NM)).set 2 (.slice none 0 0)).set 3 (.int .i64 0)).set 4 (.string ⟨#[]⟩)
            refine ret_cell3G (cs := #[.int .i64 3, .string NM, .slice none 0 0, .int .i64 0, .string ⟨#[]⟩]) (t := 25) rfl Tryz.underlying25 rfl (by kernel_rfl) rfl rfl rfl rfl h2 ?_
            refine parsePost_mk (c := ⟨3, NM, [], 0, ⟨#[]⟩⟩) (v := .slice none 0 0) HPZ.out (World.ownsRow_nil _ _ _ _) ?_
            exact below_set (below_set (below_set (below_set (below_set (HB3.out) (Nat.le_refl _)) (Nat.le_refl _)) (Nat.le_refl _)) (Nat.le_refl _)) (Nat.le_refl _)
          · have HPR : Hid (parseF s = restF s 3 NM k2) := by unfold Hid; rw [HPX2.out, if_neg hz3]
            clear HPX2
            have hlt3 : k2 < s.size := by omega
            have hle3 := fieldE_le s k2 hsk2
            have hge3 := fieldE_ge s k2
            have HEN3 : Hid (∀ W, Calls Tryz.prog 23 #[.string s, .int .i64 k2] W fun e w' => e = .returned (.int .i64 (fieldE s k2)) ∧ W = w') := fun W => rend_any s k2 W hsk2 (by omega)
            clear hz3 HSS
            have c0 := HC3.out.cell 0 (v := .int .i64 3) rfl
            have f0 := HC3.out.free 0
            go_wp2_with (go_at_call 23; fail)
            refine (HEN3.out _).mono ?_
            rintro e w' ⟨rfl, rfl⟩
            clear HEN3
            have HF : Hid (parseF s = if (unqF (sub s k2 s.size)).2.2 ≠ 0 then (CallP.none, (unqF (sub s k2 s.size)).2.2, k2 + (unqF (sub s k2 s.size)).2.1)
                else tailF s (k2 + (unqF (sub s k2 s.size)).2.1) ⟨3, NM, [], 0, strOfNums (unqF (sub s k2 s.size)).1⟩) := HPR.out
            clear HPR
            have hsz2 := sub_rest s k2
            have hsz : (s.extract k2 s.size).size ≤ 268435456 := by rw [ByteArray.size_extract]; omega
            have hat := (unqF_what (sub s k2 s.size)).1
            go_wp2_with (go_at_call 27; fail)
            refine (runquote_any (s.extract k2 s.size) _ hsz).mono ?_
            generalize hS : sub s k2 s.size = S at HF hat hsz2
            rintro e w4 ⟨he, hb⟩
            have hS' : s.extract k2 s.size = S := hS
            rw [hS'] at he
            generalize hR : unqF S = R at HF hat he
            obtain ⟨out, at', er⟩ := R
            dsimp only at HF hat he
            generalize hTX : (if er = 0 then strOfNums out else ⟨#[]⟩) = TX at he
            subst he
            have hTX0 : er = 0 → TX = strOfNums out := fun h => by rw [← hTX, if_pos h]
            have HTX : Hid (er = 0 → TX = strOfNums out) := hTX0
            have HB4 : Hid (Below w.heap.size w w4) := HB3.out.trans (hb.mono HB3.out.size)
            have HR4 : Hid (Blk w4 w.heap.size #[.int .i64 0, .string ⟨#[]⟩, .slice none 0 0, .int .i64 0, .string ⟨#[]⟩] 25) := HR3.out.below hb HR3.out.lt
            have HC4 : Hid (Blk w4 gc #[.int .i64 3, .string NM, .slice none 0 0, .int .i64 0, .string ⟨#[]⟩] 25) := HC3.out.below hb HC3.out.lt
            clear hb HB3 HR3 HC3 c0 f0 hS hS' hR hsz hTX hTX0
            have c4 := HC4.out.cell 4 (v := .string ⟨#[]⟩) rfl
            have f4 := HC4.out.free 4
            by_cases h0 : er = 0
            rotate_left
            · have HPF : Hid (parseF s = (CallP.none, er, k2 + at')) := by unfold Hid; rw [HF.out, if_pos h0]
              have e0 : (((er : Nat) : Int) != 0) = true := by rw [bne_iff_ne]; omega
              clear HF h0
              have HB5 : Hid (Below w.heap.size w (w4.setCell ⟨gc, 4, none⟩ (.string TX))) := below_set HB4.out (by omega)
              have HR5 : Hid (Blk (w4.setCell ⟨gc, 4, none⟩ (.string TX)) w.heap.size #[.int .i64 0, .string ⟨#[]⟩, .slice none 0 0, .int .i64 0, .string ⟨#[]⟩] 25) := HR4.out.other ⟨gc, 4, none⟩ hne2 _
              have HC5 : Hid (Blk (w4.setCell ⟨gc, 4, none⟩ (.string TX)) gc #[.int .i64 3, .string NM, .slice none 0 0, .int .i64 0, .string TX] 25) := HC4.out.set 4 _
              have r0 := HR5.out.cell 0 (v := .int .i64 0) rfl
              have q0 := HR5.out.free 0
              have r1 := HR5.out.cell 1 (v := .string ⟨#[]⟩) rfl
              have q1 := HR5.out.free 1
              have r2 := HR5.out.cell 2 (v := .slice none 0 0) rfl
              have q2 := HR5.out.free 2
              have r3 := HR5.out.cell 3 (v := .int .i64 0) rfl
              have q3 := HR5.out.free 3
              have r4 := HR5.out.cell 4 (v := .string ⟨#[]⟩) rfl
              have q4 := HR5.out.free 4
              go_wp2
              have h2 := ((((HR5.out.set 0 (.int .i64 0)).set 1 (.string ⟨#[]⟩)).set 2 (.slice none 0 0)).set 3 (.int .i64 0)).set 4 (.string ⟨#[]⟩)
              refine ret_cell3G (cs := #[.int .i64 0, .string ⟨#[]⟩, .slice none 0 0, .int .i64 0, .string ⟨#[]⟩]) (t := 25) rfl Tryz.underlying25 rfl (by kernel_rfl) rfl rfl rfl rfl h2 ?_
              rw [← Int.natCast_add]
              refine parsePost_mk (c := CallP.none) (v := .slice none 0 0) HPF.out (World.ownsRow_nil _ _ _ _) ?_
              exact below_set (below_set (below_set (below_set (below_set (HB5.out) (Nat.le_refl _)) (Nat.le_refl _)) (Nat.le_refl _)) (Nat.le_refl _)) (Nat.le_refl _)
            · obtain rfl : er = 0 := by omega
              have htx : TX = strOfNums out := HTX.out rfl
              clear HTX
              have HPT : Hid (parseF s = tailF s (k2 + at') ⟨3, NM, [], 0, TX⟩) := by unfold Hid; rw [HF.out, if_neg (by simp)]; rw [htx]
              clear HF h0 htx
              have HB5 : Hid (Below w.heap.size w (w4.setCell ⟨gc, 4, none⟩ (.string TX))) := below_set HB4.out (by omega)
              have HR5 : Hid (Blk (w4.setCell ⟨gc, 4, none⟩ (.string TX)) w.heap.size #[.int .i64 0, .string ⟨#[]⟩, .slice none 0 0, .int .i64 0, .string ⟨#[]⟩] 25) := HR4.out.other ⟨gc, 4, none⟩ hne2 _
              have HC5 : Hid (Blk (w4.setCell ⟨gc, 4, none⟩ (.string TX)) gc #[.int .i64 3, .string NM, .slice none 0 0, .int .i64 0, .string TX] 25) := HC4.out.set 4 _
              have HSZ : Hid (∀ W, Calls Tryz.prog 22 #[.string s, .int .i64 ((k2 : Int) + (at' : Int))] W fun e w' => e = .returned (.int .i64 (skipE s (k2 + at'))) ∧ W = w') := fun W => by
                rw [show ((k2 : Int) + (at' : Int)) = ((k2 + at' : Nat) : Int) from by omega]
                exact rskip_any s (k2 + at') W (by omega) (by omega)
              have hzl := skipE_le s (k2 + at') (by omega)
              by_cases hz : skipE s (k2 + at') < s.size
              · have HPY : Hid (parseF s = (CallP.none, 250, skipE s (k2 + at'))) := by unfold Hid; rw [HPT.out]; unfold tailF; rw [if_pos hz]
                clear HPT
                generalize skipE s (k2 + at') = kz at hz HSZ HPY hzl
                go_wp2_with (go_at_call 22; fail)
                refine (HSZ.out _).mono ?_
                rintro e w' ⟨rfl, rfl⟩
                generalize w4.setCell ⟨gc, 4, none⟩ (.string TX) = W5 at HB5 HR5 HC5 ⊢
                have r0 := HR5.out.cell 0 (v := .int .i64 0) rfl
                have q0 := HR5.out.free 0
                have r1 := HR5.out.cell 1 (v := .string ⟨#[]⟩) rfl
                have q1 := HR5.out.free 1
                have r2 := HR5.out.cell 2 (v := .slice none 0 0) rfl
                have q2 := HR5.out.free 2
                have r3 := HR5.out.cell 3 (v := .int .i64 0) rfl
                have q3 := HR5.out.free 3
                have r4 := HR5.out.cell 4 (v := .string ⟨#[]⟩) rfl
                have q4 := HR5.out.free 4
                go_wp2
                have h2 := ((((HR5.out.set 0 (.int .i64 0)).set 1 (.string ⟨#[]⟩)).set 2 (.slice none 0 0)).set 3 (.int .i64 0)).set 4 (.string ⟨#[]⟩)
                refine ret_cell3G (cs := #[.int .i64 0, .string ⟨#[]⟩, .slice none 0 0, .int .i64 0, .string ⟨#[]⟩]) (t := 25) rfl Tryz.underlying25 rfl (by kernel_rfl) rfl rfl rfl rfl h2 ?_
                refine parsePost_mk (c := CallP.none) (v := .slice none 0 0) HPY.out (World.ownsRow_nil _ _ _ _) ?_
                exact below_set (below_set (below_set (below_set (below_set (HB5.out) (Nat.le_refl _)) (Nat.le_refl _)) (Nat.le_refl _)) (Nat.le_refl _)) (Nat.le_refl _)
              · have HPY : Hid (parseF s = (⟨3, NM, [], 0, TX⟩, 0, 0)) := by unfold Hid; rw [HPT.out]; unfold tailF; rw [if_neg hz]
                clear HPT
                obtain hze : skipE s (k2 + at') = s.size := by omega
                rw [hze] at HSZ
                clear hz hzl hze
                go_wp2_with (go_at_call 22; fail)
                refine (HSZ.out _).mono ?_
                rintro e w' ⟨rfl, rfl⟩
                generalize w4.setCell ⟨gc, 4, none⟩ (.string TX) = W5 at HB5 HR5 HC5 ⊢
                have r0 := HR5.out.cell 0 (v := .int .i64 0) rfl
                have q0 := HR5.out.free 0
                have r1 := HR5.out.cell 1 (v := .string ⟨#[]⟩) rfl
                have q1 := HR5.out.free 1
                have r2 := HR5.out.cell 2 (v := .slice none 0 0) rfl
                have q2 := HR5.out.free 2
                have r3 := HR5.out.cell 3 (v := .int .i64 0) rfl
                have q3 := HR5.out.free 3
                have r4 := HR5.out.cell 4 (v := .string ⟨#[]⟩) rfl
                have q4 := HR5.out.free 4
                have c0 := HC5.out.cell 0 (v := .int .i64 3) rfl
                have f0 := HC5.out.free 0
                have c1 := HC5.out.cell 1 (v := .string NM) rfl
                have f1 := HC5.out.free 1
                have c2 := HC5.out.cell 2 (v := .slice none 0 0) rfl
                have f2 := HC5.out.free 2
                have c3 := HC5.out.cell 3 (v := .int .i64 0) rfl
                have f3 := HC5.out.free 3
                have c4 := HC5.out.cell 4 (v := .string TX) rfl
                have f4 := HC5.out.free 4
                go_wp2
                have h2 := ((((HR5.out.set 0 (.int .i64 3)).set 1 (.string NM)).set 2 (.slice none 0 0)).set 3 (.int .i64 0)).set 4 (.string TX)
                refine ret_cell3G (cs := #[.int .i64 3, .string NM, .slice none 0 0, .int .i64 0, .string TX]) (t := 25) rfl Tryz.underlying25 rfl (by kernel_rfl) rfl rfl rfl rfl h2 ?_
                refine parsePost_mk (c := ⟨3, NM, [], 0, TX⟩) (v := .slice none 0 0) HPY.out (World.ownsRow_nil _ _ _ _) ?_
                exact below_set (below_set (below_set (below_set (below_set (HB5.out) (Nat.le_refl _)) (Nat.le_refl _)) (Nat.le_refl _)) (Nat.le_refl _)) (Nat.le_refl _)
end Go.Proofs.YtijnbohjcmcfjaaGreatDoor.Sc
