/-
  Walks: the document's texts in quotes, written.
-/
import Derived.Test.YtijnbohjcmcfjaaGreatDoorLQf
import Derived.Test.YtijnbohjcmcfjaaGreatDoorLRows2
import Derived.Test.YtijnbohjcmcfjaaGreatDoorLHex0
namespace Go.Proofs.YtijnbohjcmcfjaaGreatDoor.Sc
open Go.RowKit Go.Proofs.YtijnbohjcmcfjaaGreatDoor.Kt Go.Proofs.YtijnbohjcmcfjaaGreatDoor.Lk Go.Proofs.YtijnbohjcmcfjaaGreatDoor.Sp Go.Proofs.YtijnbohjcmcfjaaGreatDoor.Rw Go.Proofs.YtijnbohjcmcfjaaGreatDoor.Rg Go.Proofs.YtijnbohjcmcfjaaGreatDoor.Ap
open Go.Proofs.YtijnbohjcmcfjaaGreatDoor.Nu (worthI)
set_option linter.unusedSimpArgs false
set_option linter.unusedVariables false
set_option maxRecDepth 100000

theorem small_v (n : Nat) (hn : n < 16) (v : Int) (hv : v = (n : Int)) (w : World) : Calls Tryz.prog 55 #[.int .u8 v] w fun e w' => e = .returned (.int .u8 (hd n)) ∧ w' = w := by
  subst hv
  exact (Hx.small_any n hn w).mono fun _ _ ⟨a, b⟩ => ⟨a, b.symm⟩
/-- the place in the row of signs, of those before j -/
def kOf (c : Nat) : Nat → Int
  | 0 => -1
  | j + 1 => if [92, 34, 10, 13, 9].getD j 0 = c then (j : Int) else kOf c j
theorem kOf_eq {c j : Nat} (h : [92, 34, 10, 13, 9].getD j 0 = c) : kOf c (j + 1) = (j : Int) := if_pos h
theorem kOf_ne {c j : Nat} (h : ¬ [92, 34, 10, 13, 9].getD j 0 = c) : kOf c (j + 1) = kOf c j := if_neg h
theorem kOf_no {c : Nat} (h1 : c ≠ 92) (h2 : c ≠ 34) (h3 : c ≠ 10) (h4 : c ≠ 13) (h5 : c ≠ 9) : kOf c 5 = -1 := by
  rw [kOf_ne (by show ¬ 9 = c; omega), kOf_ne (by show ¬ 13 = c; omega), kOf_ne (by show ¬ 10 = c; omega), kOf_ne (by show ¬ 34 = c; omega), kOf_ne (by show ¬ 92 = c; omega)]; rfl
/-- where the loop over the signs stands -/
def QS (s : ByteArray) (base k : Nat) (w0 : World) (v : Value) (w : World) : Prop := w.ownsRow base 5 1 v (quoteZ s k).length ((quoteZ s k).map (Value.int .u8)) ∧ Below base w0 w
set_option maxHeartbeats 6400000 in
theorem rquote_any (s : ByteArray) (w : World) (hm : s.size ≤ 67108864) :
    Calls Tryz.prog 30 #[.string s] w fun e w' => e = .returned (.string (quoteF s)) ∧ Below w.heap.size w w' := by
  have hst : (w.alloc (.cells #[.int .u8 34] 5)).ownsRow w.heap.size 5 1 (.slice (some ⟨w.heap.size, 0, none⟩) 1 1) 1 ([(34 : Int)].map (Value.int .u8)) := by
    have := World.ownsRow_lit (base := w.heap.size) (e := 5) (size := 1) w #[.int .u8 34] 1 (Nat.le_refl _) (by unfold maxLen; omega) rfl
    exact this
  have HST : Hid ((w.alloc (.cells #[.int .u8 34] 5)).ownsRow w.heap.size 5 1 (.slice (some ⟨w.heap.size, 0, none⟩) 1 1) 1 ([(34 : Int)].map (Value.int .u8))) := hst
  clear hst
  go_enter Tryz.func30, Tryz.ntmps30
  go_wp2
  go_loopg [3, 4, 5, 6] s.size (fun mm v i _ _ wr => ∃ k : Nat, mm = s.size - k ∧ i = .int .i64 k ∧ k ≤ s.size ∧ QS s w.heap.size k w v wr)
  case atStart => exact ⟨0, rfl, rfl, Nat.zero_le _, HST.out, (Below.refl _ _).alloc (Nat.le_refl _) _⟩
  case round =>
    obtain ⟨k, hmm, rfl, hk, hQ⟩ := hrel
    have HM : Hid (gk = s.size - k) := hmm
    have HQS : Hid (QS s w.heap.size k w u3 wr) := hQ
    have hzl := quoteZ_length s k
    clear hmm hQ HST
    by_cases hlt : k < s.size
    · have hb := (gb_lt hlt).symm
      have hbyte := gb_byte s k
      have HSU : Hid (quoteZ s (k + 1) = quoteZ s k ++ qb (gb s k)) := quoteZ_succ s k
      generalize gb s k = c at hb hbyte HSU
      go_wp2
      go_loopg [5, 6] 5 (fun mm kv j wq => ∃ q : Nat, mm = 5 - q ∧ j = .int .i64 q ∧ q ≤ 5 ∧ kv = .int .i64 (kOf c q) ∧ QS s w.heap.size k w u3 wq)
      case atStart => exact ⟨0, rfl, rfl, by omega, rfl, HQS.out⟩
      case round =>
        obtain ⟨q, hmm2, rfl, hq, rfl, hQ2⟩ := hrel
        have HM2 : Hid (gk = 5 - q) := hmm2
        have HQ2 : Hid (QS s w.heap.size k w u3 wr) := hQ2
        clear hmm2 hQ2 HQS
        have hcase : q = 0 ∨ q = 1 ∨ q = 2 ∨ q = 3 ∨ q = 4 ∨ q = 5 := by omega
        rcases hcase with rfl | rfl | rfl | rfl | rfl | rfl
        · as_aux_lemma =>
          by_cases he : c = 92
          · have HE : Hid (kOf c (0 + 1) = ((0 : Nat) : Int)) := kOf_eq (by rw [he]; rfl)
            obtain rfl : c = 92 := he
            go_wp2
            go_big_quiet (fail)
            go_wp2
            go_roundg (5 - (0 + 1))
            case measure => rw [HM2.out]; omega
            case rel => exact ⟨0 + 1, rfl, by go_num, by omega, by first | (rw [HE.out]; done) | (rw [HE.out]; rfl), ⟨HQ2.out.1, below_drewN HQ2.out.2 _⟩⟩
          · have HE : Hid (kOf c (0 + 1) = kOf c 0) := kOf_ne (by show ¬ 92 = c; omega)
            have e1 : ((92 : Int) == ((c : Nat) : Int)) = false := by rw [beq_eq_false_iff_ne]; omega
            have e2 : ((((({ data := #[92, 34, 10, 13, 9] } : ByteArray)[0]'(by decide)).toNat : Nat) : Int) == ((c : Nat) : Int)) = false := e1
            clear he
            generalize kOf c 0 = K at HE
            go_wp2
            go_big_quiet (fail)
            go_wp2
            go_roundg (5 - (0 + 1))
            case measure => rw [HM2.out]; omega
            case rel => exact ⟨0 + 1, rfl, by go_num, by omega, by rw [HE.out], ⟨HQ2.out.1, below_drewN HQ2.out.2 _⟩⟩
        · as_aux_lemma =>
          by_cases he : c = 34
          · have HE : Hid (kOf c (1 + 1) = ((1 : Nat) : Int)) := kOf_eq (by rw [he]; rfl)
            obtain rfl : c = 34 := he
            go_wp2
            go_big_quiet (fail)
            go_wp2
            go_roundg (5 - (1 + 1))
            case measure => rw [HM2.out]; omega
            case rel => exact ⟨1 + 1, rfl, by go_num, by omega, by first | (rw [HE.out]; done) | (rw [HE.out]; rfl), ⟨HQ2.out.1, below_drewN HQ2.out.2 _⟩⟩
          · have HE : Hid (kOf c (1 + 1) = kOf c 1) := kOf_ne (by show ¬ 34 = c; omega)
            have e1 : ((34 : Int) == ((c : Nat) : Int)) = false := by rw [beq_eq_false_iff_ne]; omega
            have e2 : ((((({ data := #[92, 34, 10, 13, 9] } : ByteArray)[1]'(by decide)).toNat : Nat) : Int) == ((c : Nat) : Int)) = false := e1
            clear he
            generalize kOf c 1 = K at HE
            go_wp2
            go_big_quiet (fail)
            go_wp2
            go_roundg (5 - (1 + 1))
            case measure => rw [HM2.out]; omega
            case rel => exact ⟨1 + 1, rfl, by go_num, by omega, by rw [HE.out], ⟨HQ2.out.1, below_drewN HQ2.out.2 _⟩⟩
        · as_aux_lemma =>
          by_cases he : c = 10
          · have HE : Hid (kOf c (2 + 1) = ((2 : Nat) : Int)) := kOf_eq (by rw [he]; rfl)
            obtain rfl : c = 10 := he
            go_wp2
            go_big_quiet (fail)
            go_wp2
            go_roundg (5 - (2 + 1))
            case measure => rw [HM2.out]; omega
            case rel => exact ⟨2 + 1, rfl, by go_num, by omega, by first | (rw [HE.out]; done) | (rw [HE.out]; rfl), ⟨HQ2.out.1, below_drewN HQ2.out.2 _⟩⟩
          · have HE : Hid (kOf c (2 + 1) = kOf c 2) := kOf_ne (by show ¬ 10 = c; omega)
            have e1 : ((10 : Int) == ((c : Nat) : Int)) = false := by rw [beq_eq_false_iff_ne]; omega
            have e2 : ((((({ data := #[92, 34, 10, 13, 9] } : ByteArray)[2]'(by decide)).toNat : Nat) : Int) == ((c : Nat) : Int)) = false := e1
            clear he
            generalize kOf c 2 = K at HE
            go_wp2
            go_big_quiet (fail)
            go_wp2
            go_roundg (5 - (2 + 1))
            case measure => rw [HM2.out]; omega
            case rel => exact ⟨2 + 1, rfl, by go_num, by omega, by rw [HE.out], ⟨HQ2.out.1, below_drewN HQ2.out.2 _⟩⟩
        · as_aux_lemma =>
          by_cases he : c = 13
          · have HE : Hid (kOf c (3 + 1) = ((3 : Nat) : Int)) := kOf_eq (by rw [he]; rfl)
            obtain rfl : c = 13 := he
            go_wp2
            go_big_quiet (fail)
            go_wp2
            go_roundg (5 - (3 + 1))
            case measure => rw [HM2.out]; omega
            case rel => exact ⟨3 + 1, rfl, by go_num, by omega, by first | (rw [HE.out]; done) | (rw [HE.out]; rfl), ⟨HQ2.out.1, below_drewN HQ2.out.2 _⟩⟩
          · have HE : Hid (kOf c (3 + 1) = kOf c 3) := kOf_ne (by show ¬ 13 = c; omega)
            have e1 : ((13 : Int) == ((c : Nat) : Int)) = false := by rw [beq_eq_false_iff_ne]; omega
            have e2 : ((((({ data := #[92, 34, 10, 13, 9] } : ByteArray)[3]'(by decide)).toNat : Nat) : Int) == ((c : Nat) : Int)) = false := e1
            clear he
            generalize kOf c 3 = K at HE
            go_wp2
            go_big_quiet (fail)
            go_wp2
            go_roundg (5 - (3 + 1))
            case measure => rw [HM2.out]; omega
            case rel => exact ⟨3 + 1, rfl, by go_num, by omega, by rw [HE.out], ⟨HQ2.out.1, below_drewN HQ2.out.2 _⟩⟩
        · as_aux_lemma =>
          by_cases he : c = 9
          · have HE : Hid (kOf c (4 + 1) = ((4 : Nat) : Int)) := kOf_eq (by rw [he]; rfl)
            obtain rfl : c = 9 := he
            go_wp2
            go_big_quiet (fail)
            go_wp2
            go_roundg (5 - (4 + 1))
            case measure => rw [HM2.out]; omega
            case rel => exact ⟨4 + 1, rfl, by go_num, by omega, by first | (rw [HE.out]; done) | (rw [HE.out]; rfl), ⟨HQ2.out.1, below_drewN HQ2.out.2 _⟩⟩
          · have HE : Hid (kOf c (4 + 1) = kOf c 4) := kOf_ne (by show ¬ 9 = c; omega)
            have e1 : ((9 : Int) == ((c : Nat) : Int)) = false := by rw [beq_eq_false_iff_ne]; omega
            have e2 : ((((({ data := #[92, 34, 10, 13, 9] } : ByteArray)[4]'(by decide)).toNat : Nat) : Int) == ((c : Nat) : Int)) = false := e1
            clear he
            generalize kOf c 4 = K at HE
            go_wp2
            go_big_quiet (fail)
            go_wp2
            go_roundg (5 - (4 + 1))
            case measure => rw [HM2.out]; omega
            case rel => exact ⟨4 + 1, rfl, by go_num, by omega, by rw [HE.out], ⟨HQ2.out.1, below_drewN HQ2.out.2 _⟩⟩
        · as_aux_lemma =>
          clear hq HM2
          by_cases h0 : c = 92
          · have HQB : Hid (qb c = [92, 92]) := by unfold Hid; rw [h0]; rfl
            have hK : kOf c 5 = 0 := by rw [h0]; rfl
            rw [hK]
            clear hK h0
            have hbz := HQ2.out.2.size
            go_wp2_with (at_builtin; refine wpList_app rfl _ _ rfl w.heap.size u3 (quoteZ s k).length (quoteZ s k) rfl HQ2.out.1 HQ2.out.2 hbz [92, 92] 2 rfl _ rfl rfl (by omega) ?_)
            intro v' w1 own1 hB1 _ _
            have HN : Hid (QS s w.heap.size (k + 1) w v' w1) := ⟨by rw [HSU.out, List.length_append, HQB.out, List.map_append]; exact own1, hB1⟩
            clear own1 hB1 hbz
            go_wp2
            go_roundg (s.size - (k + 1))
            case measure => rw [HM.out]; omega
            case rel => exact ⟨k + 1, rfl, by go_num, by omega, HN.out⟩
          by_cases h1 : c = 34
          · have HQB : Hid (qb c = [92, 34]) := by unfold Hid; rw [h1]; rfl
            have hK : kOf c 5 = 1 := by rw [h1]; rfl
            rw [hK]
            clear hK h0 h1
            have hbz := HQ2.out.2.size
            go_wp2_with (at_builtin; refine wpList_app rfl _ _ rfl w.heap.size u3 (quoteZ s k).length (quoteZ s k) rfl HQ2.out.1 HQ2.out.2 hbz [92, 34] 2 rfl _ rfl rfl (by omega) ?_)
            intro v' w1 own1 hB1 _ _
            have HN : Hid (QS s w.heap.size (k + 1) w v' w1) := ⟨by rw [HSU.out, List.length_append, HQB.out, List.map_append]; exact own1, hB1⟩
            clear own1 hB1 hbz
            go_wp2
            go_roundg (s.size - (k + 1))
            case measure => rw [HM.out]; omega
            case rel => exact ⟨k + 1, rfl, by go_num, by omega, HN.out⟩
          by_cases h2 : c = 10
          · have HQB : Hid (qb c = [92, 110]) := by unfold Hid; rw [h2]; rfl
            have hK : kOf c 5 = 2 := by rw [h2]; rfl
            rw [hK]
            clear hK h0 h1 h2
            have hbz := HQ2.out.2.size
            go_wp2_with (at_builtin; refine wpList_app rfl _ _ rfl w.heap.size u3 (quoteZ s k).length (quoteZ s k) rfl HQ2.out.1 HQ2.out.2 hbz [92, 110] 2 rfl _ rfl rfl (by omega) ?_)
            intro v' w1 own1 hB1 _ _
            have HN : Hid (QS s w.heap.size (k + 1) w v' w1) := ⟨by rw [HSU.out, List.length_append, HQB.out, List.map_append]; exact own1, hB1⟩
            clear own1 hB1 hbz
            go_wp2
            go_roundg (s.size - (k + 1))
            case measure => rw [HM.out]; omega
            case rel => exact ⟨k + 1, rfl, by go_num, by omega, HN.out⟩
          by_cases h3 : c = 13
          · have HQB : Hid (qb c = [92, 114]) := by unfold Hid; rw [h3]; rfl
            have hK : kOf c 5 = 3 := by rw [h3]; rfl
            rw [hK]
            clear hK h0 h1 h2 h3
            have hbz := HQ2.out.2.size
            go_wp2_with (at_builtin; refine wpList_app rfl _ _ rfl w.heap.size u3 (quoteZ s k).length (quoteZ s k) rfl HQ2.out.1 HQ2.out.2 hbz [92, 114] 2 rfl _ rfl rfl (by omega) ?_)
            intro v' w1 own1 hB1 _ _
            have HN : Hid (QS s w.heap.size (k + 1) w v' w1) := ⟨by rw [HSU.out, List.length_append, HQB.out, List.map_append]; exact own1, hB1⟩
            clear own1 hB1 hbz
            go_wp2
            go_roundg (s.size - (k + 1))
            case measure => rw [HM.out]; omega
            case rel => exact ⟨k + 1, rfl, by go_num, by omega, HN.out⟩
          by_cases h4 : c = 9
          · have HQB : Hid (qb c = [92, 116]) := by unfold Hid; rw [h4]; rfl
            have hK : kOf c 5 = 4 := by rw [h4]; rfl
            rw [hK]
            clear hK h0 h1 h2 h3 h4
            have hbz := HQ2.out.2.size
            go_wp2_with (at_builtin; refine wpList_app rfl _ _ rfl w.heap.size u3 (quoteZ s k).length (quoteZ s k) rfl HQ2.out.1 HQ2.out.2 hbz [92, 116] 2 rfl _ rfl rfl (by omega) ?_)
            intro v' w1 own1 hB1 _ _
            have HN : Hid (QS s w.heap.size (k + 1) w v' w1) := ⟨by rw [HSU.out, List.length_append, HQB.out, List.map_append]; exact own1, hB1⟩
            clear own1 hB1 hbz
            go_wp2
            go_roundg (s.size - (k + 1))
            case measure => rw [HM.out]; omega
            case rel => exact ⟨k + 1, rfl, by go_num, by omega, HN.out⟩
          have hK : kOf c 5 = -1 := kOf_no h0 h1 h2 h3 h4
          rw [hK]
          clear hK
          by_cases hp : 32 ≤ c ∧ c ≤ 126
          · obtain ⟨p1, p2⟩ := hp
            have HQB : Hid (qb c = [(c : Int)]) := by unfold Hid qb; rw [if_neg (by omega), if_neg h2, if_neg h3, if_neg h4, if_pos ⟨p1, p2⟩]
            clear h0 h1 h2 h3 h4
            have hbz := HQ2.out.2.size
            go_wp2_with (at_builtin; refine wpList_app rfl _ _ rfl w.heap.size u3 (quoteZ s k).length (quoteZ s k) rfl HQ2.out.1 HQ2.out.2 hbz [(c : Int)] 1 rfl _ rfl rfl (by omega) ?_)
            intro v' w1 own1 hB1 _ _
            have HN : Hid (QS s w.heap.size (k + 1) w v' w1) := ⟨by rw [HSU.out, List.length_append, HQB.out, List.map_append]; exact own1, hB1⟩
            clear own1 hB1 hbz
            go_wp2
            go_roundg (s.size - (k + 1))
            case measure => rw [HM.out]; omega
            case rel => exact ⟨k + 1, rfl, by go_num, by omega, HN.out⟩
          · have HQB : Hid (qb c = [92, 120, hd (c / 16), hd (c % 16)]) := by unfold Hid qb; rw [if_neg (by omega), if_neg h2, if_neg h3, if_neg h4, if_neg hp]
            have hpc : c < 32 ∨ 126 < c := by omega
            clear h0 h1 h2 h3 h4 hp
            obtain ⟨x1, hx1⟩ : ∃ x, x = hd (c / 16) := ⟨_, rfl⟩
            obtain ⟨x2, hx2⟩ : ∃ x, x = hd (c % 16) := ⟨_, rfl⟩
            have HQ : Hid (∀ v : Int, v = ((c / 16 : Nat) : Int) → ∀ w : World, Calls Tryz.prog 55 #[.int .u8 v] w fun e w' => e = .returned (.int .u8 x1) ∧ w' = w) := hx1 ▸ small_v (c / 16) (by omega)
            have HR : Hid (∀ v : Int, v = ((c % 16 : Nat) : Int) → ∀ w : World, Calls Tryz.prog 55 #[.int .u8 v] w fun e w' => e = .returned (.int .u8 x2) ∧ w' = w) := hx2 ▸ small_v (c % 16) (by omega)
            rw [← hx1, ← hx2] at HQB
            clear hx1 hx2
            have HOD : Hid (wr.drew.ownsRow w.heap.size 5 1 u3 (quoteZ s k).length ((quoteZ s k).map (Value.int .u8))) := World.ownsRow.drew HQ2.out.1
            have HBD : Hid (Below w.heap.size w wr.drew) := HQ2.out.2.drew
            have hbz : w.heap.size ≤ wr.drew.heap.size := HQ2.out.2.size
            rcases hpc with hpc | hpc
            all_goals
              go_upto_region 11 with (fail)
              refine wp_region_plan [(some 25, 0), (some 26, 1), (some 27, 2), (some 28, 3), (some 29, 4), (some 31, 6), (some 32, 7), (some 33, 8), (some 34, 9), (none, 5), (none, 10), (none, 11), (none, 12), (none, 13)] (by kernel_rfl) (by kernel_rfl) (fun _ _ d _ _ h => by cases d <;> exact h) ?_
              repeat (refine plan_pure (v := ?_) (a' := ?_) rfl rfl (Or.inl ⟨by rfl, ?_⟩) ?_ ?_; rotate_left; (intro w'; go_simp; with_reducible rfl); rotate_left; (simp only [Act.put, List.setIfInBounds_toArray, List.set_cons_zero, List.set_cons_succ]; rfl))
              refine plan_seq _ _ _ rfl ?_
              simp only [picks, List.getElem?_cons_succ, List.getElem?_cons_zero]
              go_wp2_with (first
                | (go_at_call 55; ((with_reducible refine (HQ.out _ (by omega) _).mono ?_); rintro e w' ⟨rfl, rfl⟩))
                | (go_at_call 55; ((with_reducible refine (HR.out _ (by first | omega | exact (Int.ofNat_tmod _ _).symm) _).mono ?_); rintro e w' ⟨rfl, rfl⟩))
                | (at_builtin; refine wpList_app rfl _ _ rfl w.heap.size u3 (quoteZ s k).length (quoteZ s k) rfl HOD.out HBD.out hbz [92, 120, x1, x2] 4 rfl _ rfl rfl (by omega) ?_))
              intro v' w1 own1 hB1 _ _
              have HN : Hid (QS s w.heap.size (k + 1) w v' w1) := ⟨by rw [HSU.out, List.length_append, HQB.out, List.map_append]; exact own1, hB1⟩
              clear own1 hB1
              go_wp2
              go_roundg (s.size - (k + 1))
              case measure => rw [HM.out]; omega
              case rel => exact ⟨k + 1, rfl, by go_num, by omega, HN.out⟩
    · as_aux_lemma =>
      obtain rfl : k = s.size := by omega
      have hbz := HQS.out.2.size
      clear hlt HM
      go_wp2_with (at_builtin; refine wpList_app rfl _ _ rfl w.heap.size u3 (quoteZ s s.size).length (quoteZ s s.size) rfl HQS.out.1 HQS.out.2 hbz [34] 1 rfl _ rfl rfl (by omega) ?_)
      intro v' w1 own1 hB1 _ _
      have HB1 : Hid (Below w.heap.size w w1) := hB1
      have own2 : w1.ownsRow w.heap.size 5 1 v' ((quoteZ s s.size).length + 1) ((quoteZ s s.size ++ [34]).map (Value.int .u8)) := by rw [List.map_append]; exact own1
      have hcv := conv_row (P := Tryz.prog) own2 72 5 Tryz.underlying72 Tryz.underlying5 9 Tryz.underlying9
      have HF : Hid (quoteF s = strOfNums (quoteZ s s.size ++ [34])) := rfl
      clear hB1 own1 own2 hbz
      go_wp2
      go_ret
      exact ⟨by rw [HF.out]; rfl, HB1.out⟩
end Go.Proofs.YtijnbohjcmcfjaaGreatDoor.Sc
