/-
  Walks: the document's Parse of a line: a line that names no call; every line.
-/
import Derived.Test.YtijnbohjcmcfjaaGreatDoorLQo0
import Derived.Test.YtijnbohjcmcfjaaGreatDoorLQo1
import Derived.Test.YtijnbohjcmcfjaaGreatDoorLQo2
import Derived.Test.YtijnbohjcmcfjaaGreatDoorLQo3
namespace Go.Proofs.YtijnbohjcmcfjaaGreatDoor.Sc
open Go.RowKit Go.Proofs.YtijnbohjcmcfjaaGreatDoor.Kt Go.Proofs.YtijnbohjcmcfjaaGreatDoor.Lk Go.Proofs.YtijnbohjcmcfjaaGreatDoor.Sp Go.Proofs.YtijnbohjcmcfjaaGreatDoor.Rw Go.Proofs.YtijnbohjcmcfjaaGreatDoor.Rg
open Go.Proofs.YtijnbohjcmcfjaaGreatDoor.Nu (dgt Sizes isInt pwOf)
set_option linter.unusedSimpArgs false
set_option linter.unusedVariables false
set_option maxRecDepth 100000

theorem str_eqS {a b : ByteArray} (h : a = b) : (a.toList == b.toList) = true := by rw [h]; simp
set_option maxHeartbeats 3200000 in
theorem rparse_no (s : ByteArray) (w : World) (hm : s.size ≤ 1048576) (hno : skipE s 0 = s.size ∨ kq (sub s (skipE s 0) (fieldE s (skipE s 0))) 4 < 0) : Calls Tryz.prog 9 #[.string s] w (ParsePost s w) := by
  have HB0 : Hid (Below w.heap.size w (w.alloc (.cells #[.int .i64 0, .string ⟨#[]⟩, .slice none 0 0, .int .i64 0, .string ⟨#[]⟩] 25))) := (Below.refl _ _).alloc (Nat.le_refl _) _
  have HR0 : Hid (Blk (w.alloc (.cells #[.int .i64 0, .string ⟨#[]⟩, .slice none 0 0, .int .i64 0, .string ⟨#[]⟩] 25)) w.heap.size #[.int .i64 0, .string ⟨#[]⟩, .slice none 0 0, .int .i64 0, .string ⟨#[]⟩] 25) := Blk.new _ _ _
  have ha := skipE_le s 0 (Nat.zero_le _)
  have HSK : Hid (∀ W, Calls Tryz.prog 22 #[.string s, .int .i64 0] W fun e w' => e = .returned (.int .i64 (skipE s 0)) ∧ W = w') := fun W => rskip_any s 0 W (Nat.zero_le _) (by omega)
  by_cases h0 : skipE s 0 = s.size
  · have HP : Hid (parseF s = (CallP.none, 250, s.size)) := rparse_none h0
    clear hno
    rw [h0] at HSK
    clear h0 ha
    go_enter Tryz.func9, Tryz.ntmps9
    go_wp2_with (go_at_call 22; fail)
    refine (HSK.out _).mono ?_
    rintro e w' ⟨rfl, rfl⟩
    go_wp2
    refine ret_cell3G (cs := #[.int .i64 0, .string ⟨#[]⟩, .slice none 0 0, .int .i64 0, .string ⟨#[]⟩]) (t := 25) rfl Tryz.underlying25 rfl (by kernel_rfl) rfl rfl rfl rfl HR0.out ?_
    refine parsePost_mk (c := CallP.none) (v := .slice none 0 0) HP.out (World.ownsRow_nil _ _ _ _) ?_
    exact HB0.out
  · have hlt : skipE s 0 < s.size := by omega
    have HKN : Hid (kq (sub s (skipE s 0) (fieldE s (skipE s 0))) 4 < 0) := hno.resolve_left h0
    clear hno
    have HP : Hid _ := parse_kq s hlt
    have hgt := fieldE_gt hlt
    have hle := fieldE_le s (skipE s 0) ha
    have HEN : Hid (∀ W, Calls Tryz.prog 23 #[.string s, .int .i64 (skipE s 0)] W fun e w' => e = .returned (.int .i64 (fieldE s (skipE s 0))) ∧ W = w') := fun W => rend_any s (skipE s 0) W ha (by omega)
    clear h0 ha
    generalize fieldE s (skipE s 0) = b at HP hgt hle HEN HKN
    generalize skipE s 0 = a at HP hgt hle HEN hlt HSK HKN
    go_enter Tryz.func9, Tryz.ntmps9
    go_wp2_with (go_at_call 22; fail)
    refine (HSK.out _).mono ?_
    rintro e w' ⟨rfl, rfl⟩
    go_wp2_with (go_at_call 23; fail)
    refine (HEN.out _).mono ?_
    rintro e w' ⟨rfl, rfl⟩
    go_wp2
    have HB1 : Hid (Below w.heap.size w ((w.alloc (.cells #[.int .i64 0, .string ⟨#[]⟩, .slice none 0 0, .int .i64 0, .string ⟨#[]⟩] 25)).alloc (.cells #[.string wField, .string wGroup, .string wNext, .string wData] 9))) := HB0.out.alloc (by simp) _
    have HR1 : Hid (Blk ((w.alloc (.cells #[.int .i64 0, .string ⟨#[]⟩, .slice none 0 0, .int .i64 0, .string ⟨#[]⟩] 25)).alloc (.cells #[.string wField, .string wGroup, .string wNext, .string wData] 9)) w.heap.size #[.int .i64 0, .string ⟨#[]⟩, .slice none 0 0, .int .i64 0, .string ⟨#[]⟩] 25) := HR0.out.alloc _
    have HW1 : Hid (Blk ((w.alloc (.cells #[.int .i64 0, .string ⟨#[]⟩, .slice none 0 0, .int .i64 0, .string ⟨#[]⟩] 25)).alloc (.cells #[.string wField, .string wGroup, .string wNext, .string wData] 9)) (w.heap.size + 1) #[.string wField, .string wGroup, .string wNext, .string wData] 9) := by
      have := Blk.new (w.alloc (.cells #[.int .i64 0, .string ⟨#[]⟩, .slice none 0 0, .int .i64 0, .string ⟨#[]⟩] 25)) #[.string wField, .string wGroup, .string wNext, .string wData] 9
      have e : (w.alloc (.cells #[.int .i64 0, .string ⟨#[]⟩, .slice none 0 0, .int .i64 0, .string ⟨#[]⟩] 25)).heap.size = w.heap.size + 1 := by simp
      rw [e] at this
      exact this
    generalize hW1 : ((w.alloc (.cells #[.int .i64 0, .string ⟨#[]⟩, .slice none 0 0, .int .i64 0, .string ⟨#[]⟩] 25)).alloc (.cells #[.string wField, .string wGroup, .string wNext, .string wData] 9)) = W1 at HB1 HR1 HW1
    go_loopw [7, 8, 9, 27] (fun kd x8 x9 i wx => ∃ q : Nat, kd = .int .i64 (kq (sub s a b) q) ∧ i = .int .i64 q ∧ q ≤ 4 ∧ wx = W1) (fun _ _ _ i _ => 4 - (intOf i).toNat)
    case atStart => exact ⟨0, rfl, rfl, by omega, hW1⟩
    case round =>
      obtain ⟨q, rfl, rfl, hq, rfl⟩ := hrel
      by_cases hq4 : q < 4
      · have hqs : q = 0 ∨ q = 1 ∨ q = 2 ∨ q = 3 := by omega
        clear hq hq4 hW1
        rcases hqs with rfl | rfl | rfl | rfl
        · have c := HW1.out.cell 0 (v := .string wField) rfl
          by_cases ht : s.extract a b = wField
          · have HT : Hid (s.extract a b = kw 0) := ht
            have e := str_eqS ht
            clear ht
            go_wp2
            go_roundw
            case rel => exact ⟨0 + 1, (by rw [kq_yes HT.out]; try rfl), (by first | rfl | trivial), by omega, by first | rfl | trivial⟩
            case measure => simp [intOf]
          · have HT : Hid (s.extract a b ≠ kw 0) := ht
            have e := str_neS ht
            clear ht
            go_wp2
            go_roundw
            case rel => exact ⟨0 + 1, (by rw [kq_no HT.out]; try rfl), (by first | rfl | trivial), by omega, by first | rfl | trivial⟩
            case measure => simp [intOf]
        · have c := HW1.out.cell 1 (v := .string wGroup) rfl
          by_cases ht : s.extract a b = wGroup
          · have HT : Hid (s.extract a b = kw 1) := ht
            have e := str_eqS ht
            clear ht
            go_wp2
            go_roundw
            case rel => exact ⟨1 + 1, (by rw [kq_yes HT.out]; try rfl), (by first | rfl | trivial), by omega, by first | rfl | trivial⟩
            case measure => simp [intOf]
          · have HT : Hid (s.extract a b ≠ kw 1) := ht
            have e := str_neS ht
            clear ht
            go_wp2
            go_roundw
            case rel => exact ⟨1 + 1, (by rw [kq_no HT.out]; try rfl), (by first | rfl | trivial), by omega, by first | rfl | trivial⟩
            case measure => simp [intOf]
        · have c := HW1.out.cell 2 (v := .string wNext) rfl
          by_cases ht : s.extract a b = wNext
          · have HT : Hid (s.extract a b = kw 2) := ht
            have e := str_eqS ht
            clear ht
            go_wp2
            go_roundw
            case rel => exact ⟨2 + 1, (by rw [kq_yes HT.out]; try rfl), (by first | rfl | trivial), by omega, by first | rfl | trivial⟩
            case measure => simp [intOf]
          · have HT : Hid (s.extract a b ≠ kw 2) := ht
            have e := str_neS ht
            clear ht
            go_wp2
            go_roundw
            case rel => exact ⟨2 + 1, (by rw [kq_no HT.out]; try rfl), (by first | rfl | trivial), by omega, by first | rfl | trivial⟩
            case measure => simp [intOf]
        · have c := HW1.out.cell 3 (v := .string wData) rfl
          by_cases ht : s.extract a b = wData
          · have HT : Hid (s.extract a b = kw 3) := ht
            have e := str_eqS ht
            clear ht
            go_wp2
            go_roundw
            case rel => exact ⟨3 + 1, (by rw [kq_yes HT.out]; try rfl), (by first | rfl | trivial), by omega, by first | rfl | trivial⟩
            case measure => simp [intOf]
          · have HT : Hid (s.extract a b ≠ kw 3) := ht
            have e := str_neS ht
            clear ht
            go_wp2
            go_roundw
            case rel => exact ⟨3 + 1, (by rw [kq_no HT.out]; try rfl), (by first | rfl | trivial), by omega, by first | rfl | trivial⟩
            case measure => simp [intOf]
      · obtain rfl : q = 4 := by omega
        have r0 := HR1.out.cell 0 (v := .int .i64 0) rfl
        have r1 := HR1.out.cell 1 (v := .string ⟨#[]⟩) rfl
        have r2 := HR1.out.cell 2 (v := .slice none 0 0) rfl
        have r3 := HR1.out.cell 3 (v := .int .i64 0) rfl
        have r4 := HR1.out.cell 4 (v := .string ⟨#[]⟩) rfl
        have q0 := HR1.out.free 0
        have q1 := HR1.out.free 1
        have q2 := HR1.out.free 2
        have q3 := HR1.out.free 3
        have q4 := HR1.out.free 4
        clear hq hq4 hW1
        have hk := HKN.out
        clear HKN
        have HP2 : Hid (parseF s = (CallP.none, 250, a)) := by unfold Hid; rw [HP.out, if_pos hk]
        have hk' : decide (kq (sub s a b) 4 < 0) = true := by simpa using hk
        clear hk HP
        generalize kq (sub s a b) 4 = KD at hk' ⊢
        go_wp2
        have h2 := ((((HR1.out.set 0 (.int .i64 0)).set 1 (.string ⟨#[]⟩)).set 2 (.slice none 0 0)).set 3 (.int .i64 0)).set 4 (.string ⟨#[]⟩)
        refine ret_cell3G (cs := #[.int .i64 0, .string ⟨#[]⟩, .slice none 0 0, .int .i64 0, .string ⟨#[]⟩]) (t := 25) rfl Tryz.underlying25 rfl (by kernel_rfl) rfl rfl rfl rfl h2 ?_
        refine parsePost_mk (c := CallP.none) (v := .slice none 0 0) HP2.out (World.ownsRow_nil _ _ _ _) ?_
        exact below_set (below_set (below_set (below_set (below_set HB1.out (Nat.le_refl _)) (Nat.le_refl _)) (Nat.le_refl _)) (Nat.le_refl _)) (Nat.le_refl _)

theorem rparse_any (s : ByteArray) (w : World) (hm : s.size ≤ 1048576) : Calls Tryz.prog 9 #[.string s] w (ParsePost s w) := by
  by_cases h0 : skipE s 0 = s.size
  · exact rparse_no s w hm (.inl h0)
  · have hlt : skipE s 0 < s.size := by have := skipE_le s 0 (Nat.zero_le _); omega
    rcases kq_range (sub s (skipE s 0) (fieldE s (skipE s 0))) with h | h | h | h | h
    · exact rparse_no s w hm (.inr (by rw [h]; decide))
    · exact rparse_kd0 s w hm hlt h
    · exact rparse_kd1 s w hm hlt h
    · exact rparse_kd2 s w hm hlt h
    · exact rparse_kd3 s w hm hlt h
end Go.Proofs.YtijnbohjcmcfjaaGreatDoor.Sc
