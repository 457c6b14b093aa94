/-
  Walks: the document's Parse of a line: a word of kind 2.
-/
import Derived.Test.YtijnbohjcmcfjaaGreatDoorLQn
namespace Go.Proofs.YtijnbohjcmcfjaaGreatDoor.Sc
open Go.RowKit Go.Proofs.YtijnbohjcmcfjaaGreatDoor.Kt Go.Proofs.YtijnbohjcmcfjaaGreatDoor.Lk Go.Proofs.YtijnbohjcmcfjaaGreatDoor.Sp Go.Proofs.YtijnbohjcmcfjaaGreatDoor.Rw Go.Proofs.YtijnbohjcmcfjaaGreatDoor.Rg
open Go.Proofs.YtijnbohjcmcfjaaGreatDoor.Nu (dgt Sizes isInt pwOf)
set_option linter.unusedSimpArgs false
set_option linter.unusedVariables false
set_option maxRecDepth 100000

theorem str_eqS2 {a b : ByteArray} (h : a = b) : (a.toList == b.toList) = true := by rw [h]; simp
set_option maxHeartbeats 6400000 in
theorem rparse_kd2 (s : ByteArray) (w : World) (hm : s.size ≤ 1048576) (hlt : skipE s 0 < s.size) (hkd : kq (sub s (skipE s 0) (fieldE s (skipE s 0))) 4 = 2) : Calls Tryz.prog 9 #[.string s] w (ParsePost s w) := by
  have HB0 : Hid (Below w.heap.size w (w.alloc (.cells #[.int .i64 0, .string ⟨#[]⟩, .slice none 0 0, .int .i64 0, .string ⟨#[]⟩] 25))) := (Below.refl _ _).alloc (Nat.le_refl _) _
  have HR0 : Hid (Blk (w.alloc (.cells #[.int .i64 0, .string ⟨#[]⟩, .slice none 0 0, .int .i64 0, .string ⟨#[]⟩] 25)) w.heap.size #[.int .i64 0, .string ⟨#[]⟩, .slice none 0 0, .int .i64 0, .string ⟨#[]⟩] 25) := Blk.new _ _ _
  have ha := skipE_le s 0 (Nat.zero_le _)
  have HSK : Hid (∀ W, Calls Tryz.prog 22 #[.string s, .int .i64 0] W fun e w' => e = .returned (.int .i64 (skipE s 0)) ∧ W = w') := fun W => rskip_any s 0 W (Nat.zero_le _) (by omega)
  have HKD : Hid (kq (sub s (skipE s 0) (fieldE s (skipE s 0))) 4 = 2) := hkd
  have HP : Hid _ := parse_kq s hlt
  have hgt := fieldE_gt hlt
  have hle := fieldE_le s (skipE s 0) ha
  have HEN : Hid (∀ W, Calls Tryz.prog 23 #[.string s, .int .i64 (skipE s 0)] W fun e w' => e = .returned (.int .i64 (fieldE s (skipE s 0))) ∧ W = w') := fun W => rend_any s (skipE s 0) W ha (by omega)
  clear hkd
  generalize fieldE s (skipE s 0) = b at HP hgt hle HEN HKD
  generalize skipE s 0 = a at HP hgt hle HEN hlt HSK HKD
  go_enter Tryz.func9, Tryz.ntmps9
  go_wp2_with (go_at_call 22; fail)
  refine (HSK.out _).mono ?_
  rintro e w' ⟨rfl, rfl⟩
  go_wp2_with (go_at_call 23; fail)
  refine (HEN.out _).mono ?_
  rintro e w' ⟨rfl, rfl⟩
  go_wp2
  have HB1 : Hid (Below w.heap.size w ((w.alloc (.cells #[.int .i64 0, .string ⟨#[]⟩, .slice none 0 0, .int .i64 0, .string ⟨#[]⟩] 25)).alloc (.cells #[.string wField, .string wGroup, .string wNext, .string wData] 9))) := HB0.out.alloc (by simp) _
  have HR1 : Hid (Blk ((w.alloc (.cells #[.int .i64 0, .string ⟨#[]⟩, .slice none 0 0, .int .i64 0, .string ⟨#[]⟩] 25)).alloc (.cells #[.string wField, .string wGroup, .string wNext, .string wData] 9)) w.heap.size #[.int .i64 0, .string ⟨#[]⟩, .slice none 0 0, .int .i64 0, .string ⟨#[]⟩] 25) := HR0.out.alloc _
  have HW1 : Hid (Blk ((w.alloc (.cells #[.int .i64 0, .string ⟨#[]⟩, .slice none 0 0, .int .i64 0, .string ⟨#[]⟩] 25)).alloc (.cells #[.string wField, .string wGroup, .string wNext, .string wData] 9)) (w.heap.size + 1) #[.string wField, .string wGroup, .string wNext, .string wData] 9) := by
    have := Blk.new (w.alloc (.cells #[.int .i64 0, .string ⟨#[]⟩, .slice none 0 0, .int .i64 0, .string ⟨#[]⟩] 25)) #[.string wField, .string wGroup, .string wNext, .string wData] 9
    have e : (w.alloc (.cells #[.int .i64 0, .string ⟨#[]⟩, .slice none 0 0, .int .i64 0, .string ⟨#[]⟩] 25)).heap.size = w.heap.size + 1 := by simp
    rw [e] at this
    exact this
  generalize hW1 : ((w.alloc (.cells #[.int .i64 0, .string ⟨#[]⟩, .slice none 0 0, .int .i64 0, .string ⟨#[]⟩] 25)).alloc (.cells #[.string wField, .string wGroup, .string wNext, .string wData] 9)) = W1 at HB1 HR1 HW1
  go_loopw [7, 8, 9, 27] (fun kd x8 x9 i wx => ∃ q : Nat, kd = .int .i64 (kq (sub s a b) q) ∧ i = .int .i64 q ∧ q ≤ 4 ∧ wx = W1) (fun _ _ _ i _ => 4 - (intOf i).toNat)
  case atStart => exact ⟨0, rfl, rfl, by omega, hW1⟩
  case round =>
    obtain ⟨q, rfl, rfl, hq, rfl⟩ := hrel
    by_cases hq4 : q < 4
    · have hqs : q = 0 ∨ q = 1 ∨ q = 2 ∨ q = 3 := by omega
      clear hq hq4 hW1
      rcases hqs with rfl | rfl | rfl | rfl
      · have c := HW1.out.cell 0 (v := .string wField) rfl
        by_cases ht : s.extract a b = wField
        · have HT : Hid (s.extract a b = kw 0) := ht
          have e := str_eqS2 ht
          clear ht
          go_wp2
          go_roundw
          case rel => exact ⟨0 + 1, (by rw [kq_yes HT.out]; try rfl), (by first | rfl | trivial), by omega, by first | rfl | trivial⟩
          case measure => simp [intOf]
        · have HT : Hid (s.extract a b ≠ kw 0) := ht
          have e := str_neS ht
          clear ht
          go_wp2
          go_roundw
          case rel => exact ⟨0 + 1, (by rw [kq_no HT.out]; try rfl), (by first | rfl | trivial), by omega, by first | rfl | trivial⟩
          case measure => simp [intOf]
      · have c := HW1.out.cell 1 (v := .string wGroup) rfl
        by_cases ht : s.extract a b = wGroup
        · have HT : Hid (s.extract a b = kw 1) := ht
          have e := str_eqS2 ht
          clear ht
          go_wp2
          go_roundw
          case rel => exact ⟨1 + 1, (by rw [kq_yes HT.out]; try rfl), (by first | rfl | trivial), by omega, by first | rfl | trivial⟩
          case measure => simp [intOf]
        · have HT : Hid (s.extract a b ≠ kw 1) := ht
          have e := str_neS ht
          clear ht
          go_wp2
          go_roundw
          case rel => exact ⟨1 + 1, (by rw [kq_no HT.out]; try rfl), (by first | rfl | trivial), by omega, by first | rfl | trivial⟩
          case measure => simp [intOf]
      · have c := HW1.out.cell 2 (v := .string wNext) rfl
        by_cases ht : s.extract a b = wNext
        · have HT : Hid (s.extract a b = kw 2) := ht
          have e := str_eqS2 ht
          clear ht
          go_wp2
          go_roundw
          case rel => exact ⟨2 + 1, (by rw [kq_yes HT.out]; try rfl), (by first | rfl | trivial), by omega, by first | rfl | trivial⟩
          case measure => simp [intOf]
        · have HT : Hid (s.extract a b ≠ kw 2) := ht
          have e := str_neS ht
          clear ht
          go_wp2
          go_roundw
          case rel => exact ⟨2 + 1, (by rw [kq_no HT.out]; try rfl), (by first | rfl | trivial), by omega, by first | rfl | trivial⟩
          case measure => simp [intOf]
      · have c := HW1.out.cell 3 (v := .string wData) rfl
        by_cases ht : s.extract a b = wData
        · have HT : Hid (s.extract a b = kw 3) := ht
          have e := str_eqS2 ht
          clear ht
          go_wp2
          go_roundw
          case rel => exact ⟨3 + 1, (by rw [kq_yes HT.out]; try rfl), (by first | rfl | trivial), by omega, by first | rfl | trivial⟩
          case measure => simp [intOf]
        · have HT : Hid (s.extract a b ≠ kw 3) := ht
          have e := str_neS ht
          clear ht
          go_wp2
          go_roundw
          case rel => exact ⟨3 + 1, (by rw [kq_no HT.out]; try rfl), (by first | rfl | trivial), by omega, by first | rfl | trivial⟩
          case measure => simp [intOf]
    · obtain rfl : q = 4 := by omega
      have r0 := HR1.out.cell 0 (v := .int .i64 0) rfl
      have r1 := HR1.out.cell 1 (v := .string ⟨#[]⟩) rfl
      have r2 := HR1.out.cell 2 (v := .slice none 0 0) rfl
      have r3 := HR1.out.cell 3 (v := .int .i64 0) rfl
      have r4 := HR1.out.cell 4 (v := .string ⟨#[]⟩) rfl
      have q0 := HR1.out.free 0
      have q1 := HR1.out.free 1
      have q2 := HR1.out.free 2
      have q3 := HR1.out.free 3
      have q4 := HR1.out.free 4
      clear hq hq4 hW1
      have HPT : Hid (parseF s = tailF s b ⟨2, ⟨#[]⟩, [], 0, ⟨#[]⟩⟩) := by unfold Hid; rw [HP.out, HKD.out, if_neg (by decide), if_pos rfl]
      rw [HKD.out]
      clear r0 r1 r2 r3 r4 q0 q1 q2 q3 q4
      have hlt1 := HR1.out.lt
      have HB2 : Hid (Below w.heap.size w (wr.alloc (.cells #[.int .i64 2, .string ⟨#[]⟩, .slice none 0 0, .int .i64 0, .string ⟨#[]⟩] 25))) := HB1.out.alloc HB1.out.size _
      have HR2 : Hid (Blk (wr.alloc (.cells #[.int .i64 2, .string ⟨#[]⟩, .slice none 0 0, .int .i64 0, .string ⟨#[]⟩] 25)) w.heap.size #[.int .i64 0, .string ⟨#[]⟩, .slice none 0 0, .int .i64 0, .string ⟨#[]⟩] 25) := HR1.out.alloc _
      have HC2 : Hid (Blk (wr.alloc (.cells #[.int .i64 2, .string ⟨#[]⟩, .slice none 0 0, .int .i64 0, .string ⟨#[]⟩] 25)) wr.heap.size #[.int .i64 2, .string ⟨#[]⟩, .slice none 0 0, .int .i64 0, .string ⟨#[]⟩] 25) := Blk.new _ _ _
      clear HB1 HR1 HW1 HB0 HR0 HSK HEN HP HKD
      have HSZ : Hid (∀ W, Calls Tryz.prog 22 #[.string s, .int .i64 b] W fun e w' => e = .returned (.int .i64 (skipE s b)) ∧ W = w') := fun W => rskip_any s b W hle (by omega)
      have hzl := skipE_le s b hle
      by_cases hz : skipE s b < s.size
      · have HPY : Hid (parseF s = (CallP.none, 250, skipE s b)) := by unfold Hid; rw [HPT.out]; unfold tailF; rw [if_pos hz]
        clear HPT
        generalize skipE s b = kz at hz HSZ HPY hzl
        go_wp2_with (go_at_call 22; fail)
        refine (HSZ.out _).mono ?_
        rintro e w' ⟨rfl, rfl⟩
        generalize wr.alloc (.cells #[.int .i64 2, .string ⟨#[]⟩, .slice none 0 0, .int .i64 0, .string ⟨#[]⟩] 25) = W2 at HB2 HR2 HC2 ⊢
        generalize wr.heap.size = gc at HC2 hlt1 ⊢
        have hne1 : ¬ gc = w.heap.size := by omega
        have hne2 : ¬ w.heap.size = gc := by omega
        have r0 := HR2.out.cell 0 (v := .int .i64 0) rfl
        have q0 := HR2.out.free 0
        have r1 := HR2.out.cell 1 (v := .string ⟨#[]⟩) rfl
        have q1 := HR2.out.free 1
        have r2 := HR2.out.cell 2 (v := .slice none 0 0) rfl
        have q2 := HR2.out.free 2
        have r3 := HR2.out.cell 3 (v := .int .i64 0) rfl
        have q3 := HR2.out.free 3
        have r4 := HR2.out.cell 4 (v := .string ⟨#[]⟩) rfl
        have q4 := HR2.out.free 4
        have c0 := HC2.out.cell 0 (v := .int .i64 2) rfl
        have f0 := HC2.out.free 0
        go_wp2
        have h2 := ((((HR2.out.set 0 (.int .i64 0)).set 1 (.string ⟨#[]⟩)).set 2 (.slice none 0 0)).set 3 (.int .i64 0)).set 4 (.string ⟨#[]⟩)
        refine ret_cell3G (cs := #[.int .i64 0, .string ⟨#[]⟩, .slice none 0 0, .int .i64 0, .string ⟨#[]⟩]) (t := 25) rfl Tryz.underlying25 rfl (by kernel_rfl) rfl rfl rfl rfl h2 ?_
        refine parsePost_mk (c := CallP.none) (v := .slice none 0 0) HPY.out (World.ownsRow_nil _ _ _ _) ?_
        exact below_set (below_set (below_set (below_set (below_set (HB2.out) (Nat.le_refl _)) (Nat.le_refl _)) (Nat.le_refl _)) (Nat.le_refl _)) (Nat.le_refl _)
      · have HPY : Hid (parseF s = (⟨2, ⟨#[]⟩, [], 0, ⟨#[]⟩⟩, 0, 0)) := by unfold Hid; rw [HPT.out]; unfold tailF; rw [if_neg hz]
        clear HPT
        obtain hze : skipE s b = s.size := by omega
        rw [hze] at HSZ
        clear hz hzl hze
        go_wp2_with (go_at_call 22; fail)
        refine (HSZ.out _).mono ?_
        rintro e w' ⟨rfl, rfl⟩
        generalize wr.alloc (.cells #[.int .i64 2, .string ⟨#[]⟩, .slice none 0 0, .int .i64 0, .string ⟨#[]⟩] 25) = W2 at HB2 HR2 HC2 ⊢
        generalize wr.heap.size = gc at HC2 hlt1 ⊢
        have hne1 : ¬ gc = w.heap.size := by omega
        have hne2 : ¬ w.heap.size = gc := by omega
        have r0 := HR2.out.cell 0 (v := .int .i64 0) rfl
        have q0 := HR2.out.free 0
        have r1 := HR2.out.cell 1 (v := .string ⟨#[]⟩) rfl
        have q1 := HR2.out.free 1
        have r2 := HR2.out.cell 2 (v := .slice none 0 0) rfl
        have q2 := HR2.out.free 2
        have r3 := HR2.out.cell 3 (v := .int .i64 0) rfl
        have q3 := HR2.out.free 3
        have r4 := HR2.out.cell 4 (v := .string ⟨#[]⟩) rfl
        have q4 := HR2.out.free 4
        have c0 := HC2.out.cell 0 (v := .int .i64 2) rfl
        have f0 := HC2.out.free 0
        have c1 := HC2.out.cell 1 (v := .string ⟨#[]⟩) rfl
        have f1 := HC2.out.free 1
        have c2 := HC2.out.cell 2 (v := .slice none 0 0) rfl
        have f2 := HC2.out.free 2
        have c3 := HC2.out.cell 3 (v := .int .i64 0) rfl
        have f3 := HC2.out.free 3
        have c4 := HC2.out.cell 4 (v := .string ⟨#[]⟩) rfl
        have f4 := HC2.out.free 4
        go_wp2
        have h2 := ((((HR2.out.set 0 (.int .i64 2)).set 1 (.string ⟨#[]⟩)).set 2 (.slice none 0 0)).set 3 (.int .i64 0)).set 4 (.string ⟨#[]⟩)
        refine ret_cell3G (cs := #[.int .i64 2, .string ⟨#[]⟩, .slice none 0 0, .int .i64 0, .string ⟨#[]⟩]) (t := 25) rfl Tryz.underlying25 rfl (by kernel_rfl) rfl rfl rfl rfl h2 ?_
        refine parsePost_mk (c := ⟨2, ⟨#[]⟩, [], 0, ⟨#[]⟩⟩) (v := .slice none 0 0) HPY.out (World.ownsRow_nil _ _ _ _) ?_
        exact below_set (below_set (below_set (below_set (below_set (HB2.out) (Nat.le_refl _)) (Nat.le_refl _)) (Nat.le_refl _)) (Nat.le_refl _)) (Nat.le_refl _)
end Go.Proofs.YtijnbohjcmcfjaaGreatDoor.Sc
