/-
  Walks: the document's own Path: the loop over the steps.
-/
import Derived.Test.YtjohlabdjdhpfaaGreatDoorRefPath
import Derived.Deep.DeepCutAuto
import Derived.Deep.CutBlock
namespace Go.Proofs.YtjohlabdjdhpfaaGreatDoor.Lk
open Go.RowKit Go.Proofs.YtjohlabdjdhpfaaGreatDoor.Kt
set_option linter.unusedSimpArgs false
set_option linter.unusedVariables false
set_option maxRecDepth 100000

/-- what has been read when a step begins at k -/
def RInv (s : ByteArray) (w : World) (wr : World) (k : Nat) (acc : List Step) (v : Value) : Prop :=
  k ≤ s.size ∧ acc.length ≤ k ∧ wr.ownsRow w.heap.size 63 2 v acc.length (cellsOf acc) ∧ Below w.heap.size w wr ∧ pathGo s k acc = pathR s

theorem dig_bounds' {c : Nat} (h : isDig c = true) : 48 ≤ c ∧ c ≤ 57 := by unfold isDig at h; simpa using h
theorem cells_two_here (w : World) (x y : Value) : ∀ j u, [x, y][j]? = some u → (w.alloc (.cells #[x, y] 63)).cell? ((⟨w.heap.size, 0, none⟩ : Addr).add j) = some u := by
  intro j u hj
  match j, hj with
  | 0, hj => simp at hj; subst hj; simp [Addr.add]
  | 1, hj => simp at hj; subst hj; simp [Addr.add]
theorem grown_realloc (w : World) (o o' : Obj) : (w.alloc o).grownBy (w.alloc o') (some w.heap.size) :=
  ⟨rfl, rfl, rfl, by simp, fun k hk hne => by
    have hk' : k < w.heap.size := by simp at hk hne; omega
    rw [Below.heap_alloc _ _ _ hk', Below.heap_alloc _ _ _ hk']⟩
theorem infoStepR : (Tryz.prog.info? 63).map (fun i => (i.zero, i.size, i.bytes)) = some (some (.agg #[(.string ⟨#[]⟩), (.int .i64 0)]), 2, 24) := by kernel_rfl
theorem cells_two_newR (w : World) (o : Obj) (x y : Value) : ∀ j u, [x, y][j]? = some u → ((w.alloc o).alloc (.cells #[x, y] 63)).cell? ((⟨w.heap.size + 1, 0, none⟩ : Addr).add j) = some u := by
  intro j u hj
  match j, hj with
  | 0, hj => simp at hj; subst hj; simp [Addr.add]
  | 1, hj => simp at hj; subst hj; simp [Addr.add]
/-- what Path answers: the steps in new memory -/
def RPathPost (s : ByteArray) (w : World) (e : Ending) (w' : World) : Prop :=
  ∃ v, e = .returned (.tuple #[v, .int .i64 (pathR s).2.1, .int .i64 (pathR s).2.2]) ∧ w'.ownsRow w.heap.size 63 2 v (pathR s).1.length (cellsOf (pathR s).1) ∧ Below w.heap.size w w'
set_option maxRecDepth 100000 in
theorem rpath_empty (w : World) : Calls Tryz.prog 23 #[.string ⟨#[]⟩] w (RPathPost ⟨#[]⟩ w) := by
  have hr : Hid (pathR ⟨#[]⟩ = ([], 0, 0)) := by unfold Hid pathR; exact if_pos rfl
  go_enter Tryz.func23, Tryz.ntmps23
  go_wp2
  refine wp_loop_rounds 1 ?_
  rw [rounds_succ]
  go_wp2
  go_ret3
  refine ⟨_, by rw [hr.out]; rfl, by rw [hr.out]; exact World.ownsRow_nil _ _ _ _, Below.refl _ _⟩

set_option maxRecDepth 100000 in
set_option maxHeartbeats 3200000 in
theorem rpath_some (s : ByteArray) (w : World) (hm : s.size ≤ 1048576) (h0 : s.size ≠ 0) : Calls Tryz.prog 23 #[.string s] w (RPathPost s w) := by
  obtain ⟨i0, hi, hz0, hz1, hz2⟩ := info_parts infoStepR
  have he1 := isEmpty_false h0
  have HP : Hid (pathGo s 0 [] = pathR s) := by unfold Hid pathR; rw [if_neg h0]
  clear h0
  go_enter Tryz.func23, Tryz.ntmps23
  go_wp2
  go_loopg [5, 6] s.size (fun m v at_ wr => ∃ k acc, m = s.size - k ∧ at_ = .int .i64 (k : Nat) ∧ RInv s w wr k acc v)
  case atStart => exact ⟨0, [], rfl, rfl, Nat.zero_le _, Nat.zero_le _, World.ownsRow_nil _ _ _ _, Below.refl _ _, HP.out⟩
  case round =>
    obtain ⟨k, acc, hmm, rfl, hk, hacc, hown, hbel, hgo⟩ := hrel
    have HM : Hid (gk = s.size - k) := hmm
    have HGO : Hid (pathGo s k acc = pathR s) := hgo
    clear hmm hgo HP
    obtain ⟨wo, rfl⟩ : ∃ wo : World, wo = wr := ⟨_, rfl⟩
    go_upto_block 2 with (fail)
    go_cut [6] (fun a wx => ∃ j : Nat, a = .int .i64 j ∧ j = nameEnd s k k ∧ Below wo.heap.size wo wx)
    case first =>
      go_wp2
      go_loopw [6] (fun a wx => ∃ j : Nat, a = .int .i64 j ∧ k ≤ j ∧ j ≤ s.size ∧ nameEnd s k j = nameEnd s k k ∧ Below wo.heap.size wo wx) (fun a _ => s.size - (intOf a).toNat)
      case atStart => exact ⟨k, rfl, Nat.le_refl _, hk, rfl, Below.refl _ _⟩
      case round =>
        obtain ⟨j, rfl, hkj, hj, hend, hbx⟩ := hrel
        have HE : Hid (nameEnd s k j = nameEnd s k k) := hend
        clear hend
        have hw : IntKind.i64.wrap ((j : Int) - (k : Int)) = (j : Int) - (k : Int) := IntWalk.i64_in _ (by omega)
        cases hng : nameGo s k j with
        | true =>
          have HG : Hid (nameGo s k j = true) := hng
          have hlt := nameGo_lt hng
          have hb := (gb_lt hlt).symm
          have h64 : (j : Int) - (k : Int) < 64 := by unfold nameGo at hng; simp at hng; omega
          have HL : Hid ((isLet (gb s j) || (!(((j : Int) == (k : Int)) : Bool) && isDig (gb s j))) = true) := by
            unfold Hid; unfold nameGo at hng; simp at hng ⊢; rcases hng.2 with h | h
            · exact .inl h
            · exact .inr ⟨by omega, h.2⟩
          clear hng
          go_wp2_with (go_at_call 41; refine (letter12 (gb s j) (gb_byte _ _) _ _).mono ?_; rintro e w' ⟨he, hbl⟩; rw [HL.out] at he; subst he)
          go_roundw
          case rel => exact ⟨j + 1, rfl, by omega, by omega, (nameEnd_go HG.out).trans HE.out, hbx.trans (hbl.mono hbx.size)⟩
          case measure => simp [intOf]; omega
        | false =>
          have HS : Hid (nameEnd s k k = j) := by unfold Hid; rw [← HE.out]; exact nameEnd_stop hng
          by_cases h1 : j < s.size
          · have hb := (gb_lt h1).symm
            by_cases h2 : j < k + 64
            · have h64 : (j : Int) - (k : Int) < 64 := by omega
              have HL : Hid ((isLet (gb s j) || (!(((j : Int) == (k : Int)) : Bool) && isDig (gb s j))) = false) := by
                unfold Hid; unfold nameGo at hng; simp [h1, h2] at hng ⊢; exact ⟨hng.1, fun h => hng.2 (by omega)⟩
              clear hng
              go_wp2_with (go_at_call 41; refine (letter12 (gb s j) (gb_byte _ _) _ _).mono ?_; rintro e w' ⟨he, hbl⟩; rw [HL.out] at he; subst he)
              go_meet
              case rel => exact ⟨j, rfl, HS.out.symm, hbx.trans (hbl.mono hbx.size)⟩
            · have h64 : ¬ (j : Int) - (k : Int) < 64 := by omega
              clear hng
              go_wp2
              go_meet
              case rel => exact ⟨j, rfl, HS.out.symm, hbx⟩
          · clear hng
            go_wp2
            go_meet
            case rel => exact ⟨j, rfl, HS.out.symm, hbx⟩
    case rest =>
      obtain ⟨w1, rfl⟩ : ∃ w1 : World, w1 = wc := ⟨_, rfl⟩
      obtain ⟨j, rfl, hje, hbw⟩ := hcut
      have HJ : Hid (j = nameEnd s k k) := hje
      have hjs : j ≤ s.size := by rw [hje]; exact nameEnd_le s k k hk
      have hkj : k ≤ j := by rw [hje]; exact nameEnd_ge s k k
      have hown1 := hown.kept (grown_below hbw none) (by cases h : u5.ownBlock <;> simp)
      have hbel1 := hbel.trans (hbw.mono hbel.size)
      clear hje hown hbel hbw
      by_cases hjk : j = k
      · subst hjk
        have HR : Hid (pathR s = ([], 210, j)) := by
          unfold Hid; rw [← HGO.out, pathGo_bad (by unfold stepOk; rw [if_pos HJ.out.symm])]; unfold stepEnd; rw [if_pos HJ.out.symm]
        go_wp2
        go_ret3
        refine ⟨_, by rw [HR.out]; rfl, by rw [HR.out]; exact World.ownsRow_nil _ _ _ _, hbel1⟩
      · have hne : nameEnd s k k ≠ k := by rw [← HJ.out]; exact hjk
        have d0 : (((j : Nat) : Int) == ((k : Nat) : Int)) = false := by simp; omega
        have hgb : brk s k = (gb s j == 91) := by unfold brk; rw [← HJ.out]
        go_upto_region 10 with (fail)
        go_cut [53] (fun b wx => w1.alloc (.cells #[.string (s.extract k j), .int .i64 (-1)] 63) = wx ∧ b = .bool (brk s k))
        case first =>
          by_cases hlt : j < s.size
          · have hb := (gb_lt hlt).symm
            have HB : Hid (brk s k = ((((gb s j : Nat) : Int) == 91) : Bool)) := by unfold Hid; rw [hgb, Bool.eq_iff_iff]; simp; omega
            clear hgb
            go_wp2
            go_meet
            case rel => exact ⟨rfl, by rw [HB.out]⟩
          · have HB : Hid (brk s k = false) := by unfold Hid; rw [hgb, gb_ge hlt]; rfl
            clear hgb
            go_wp2
            go_meet
            case rel => exact ⟨rfl, by rw [HB.out]⟩
        case rest =>
          obtain ⟨rfl, rfl⟩ := hcut
          go_upto_if 53 with (fail)
          go_cut [6] (fun a wx => a = .int .i64 (stepEnd s k : Nat) ∧ Blk wx w1.heap.size #[.string (stepName s k), .int .i64 (stepEntry s k)] 63 ∧ (w1.alloc (.cells #[.string (s.extract k j), .int .i64 (-1)] 63)).grownBy wx (some w1.heap.size) ∧ stepOk s k = true)
          case first =>
            cases hbk : brk s k with
            | false =>
              have h1 : stepEnd s k = j := by unfold stepEnd; rw [if_neg hne, hbk, HJ.out]; rfl
              have h2 : stepEntry s k = -1 := by unfold stepEntry; rw [hbk]; rfl
              have h3 : stepName s k = s.extract k j := by unfold stepName; rw [HJ.out]
              have h4 : stepOk s k = true := by unfold stepOk; rw [if_neg hne, hbk]; rfl
              have HH : Hid (stepEnd s k = j ∧ stepEntry s k = -1 ∧ stepName s k = s.extract k j ∧ stepOk s k = true) := ⟨h1, h2, h3, h4⟩
              clear h1 h2 h3 h4 hbk hgb
              go_wp2
              go_meet
              case rel => exact ⟨by rw [HH.out.1], by rw [HH.out.2.1, HH.out.2.2.1]; exact Blk.new _ _ _, World.grownBy.refl _ _, HH.out.2.2.2⟩
            | true =>
              have h91 : gb s j = 91 := by have := hgb.symm.trans hbk; simpa using this
              have hlt : j < s.size := lt_of_gb (by omega)
              have hbr : brk s k = true := hbk
              have HBK : Hid (brk s k = true) := hbk
              clear hbk hgb h91 hbr
              have HNA : Hid (numAt s k = numEnd s (j + 2) (gb s (j + 1) - 48)) := by unfold Hid numAt; rw [← HJ.out]
              go_upto_block 4 with (fail)
              go_cut [6, 9] (fun a n wx => w1.alloc (.cells #[.string (s.extract k j), .int .i64 (-1)] 63) = wx ∧ ∃ p m : Nat, a = .int .i64 p ∧ n = .int .i64 m ∧ p ≤ s.size ∧ ((isDig (gb s (j + 1)) = false ∧ p = j + 1) ∨ (isDig (gb s (j + 1)) = true ∧ numAt s k = (p, m))))
              case first =>
                go_wp2
                go_loop [6, 9] (fun a n => ∃ p m : Nat, a = .int .i64 p ∧ n = .int .i64 m ∧ p ≤ s.size ∧ m ≤ 65535 ∧ ((p = j + 1 ∧ m = 0) ∨ (j + 1 < p ∧ isDig (gb s (j + 1)) = true ∧ numEnd s p m = numAt s k))) (fun a _ => s.size - (intOf a).toNat)
                case atStart => exact ⟨j + 1, 0, rfl, rfl, by omega, by omega, .inl ⟨rfl, rfl⟩⟩
                case round =>
                  obtain ⟨p, m, rfl, rfl, hp, hm6, hor⟩ := hrel
                  rcases hor with ⟨rfl, rfl⟩ | ⟨hjp, hdig, hnum⟩
                  · have e1 : ((((j + 1 : Nat) : Int) == (j : Int) + 1) : Bool) = true := by simp
                    cases hd : isDig (gb s (j + 1)) with
                    | true =>
                      have H4 : Hid (isDig (gb s (j + 1)) = true) := hd
                      obtain ⟨hb1, hb2⟩ := dig_bounds' hd
                      have hl := lt_of_dig hd
                      have hb := (gb_lt hl).symm
                      clear hd
                      go_wp2_with (go_at_call 42; refine (digit21_any _ _).mono ?_; rintro e w' ⟨he, rfl⟩; rw [H4.out] at he; subst he)
                      go_round
                      case rel => exact ⟨j + 2, gb s (j + 1) - 48, by go_num, by congr 1; omega, by omega, by omega, .inr ⟨by omega, by first | exact H4.out | trivial, HNA.out.symm⟩⟩
                      case measure => simp [intOf]; omega
                    | false =>
                      have H4 : Hid (isDig (gb s (j + 1)) = false) := hd
                      clear hd
                      by_cases hl : j + 1 < s.size
                      · have hb := (gb_lt hl).symm
                        go_wp2_with (go_at_call 42; refine (digit21_any _ _).mono ?_; rintro e w' ⟨he, rfl⟩; rw [H4.out] at he; subst he)
                        go_meet
                        case rel => exact ⟨rfl, j + 1, 0, rfl, rfl, hp, .inl ⟨H4.out, rfl⟩⟩
                      · go_wp2
                        go_meet
                        case rel => exact ⟨rfl, j + 1, 0, rfl, rfl, hp, .inl ⟨H4.out, rfl⟩⟩
                  · have e1 : (((p : Int) == (j : Int) + 1) : Bool) = false := by simp; omega
                    have HD : Hid (isDig (gb s (j + 1)) = true) := hdig
                    have HNUM : Hid (numEnd s p m = numAt s k) := hnum
                    clear hdig hnum
                    by_cases hl : p < s.size
                    · have hb := (gb_lt hl).symm
                      cases hd : isDig (gb s p) with
                      | true =>
                        have H4 : Hid (isDig (gb s p) = true) := hd
                        obtain ⟨hb1, hb2⟩ := dig_bounds' hd
                        by_cases hm0 : 0 < m
                        · by_cases h3 : m * 10 + (gb s p - 48) ≤ 65535
                          · have HG : Hid (numGo s p m = true) := by unfold Hid numGo; simp [hd, hm0, h3]
                            have h3' : (m : Int) * 10 + ((gb s p : Int) - 48) ≤ 65535 := by omega
                            clear hd
                            go_wp2_with (go_at_call 42; refine (digit21_any _ _).mono ?_; rintro e w' ⟨he, rfl⟩; rw [H4.out] at he; subst he)
                            go_round
                            case rel => exact ⟨p + 1, m * 10 + (gb s p - 48), by go_num, by congr 1; omega, by omega, by omega, .inr ⟨by omega, HD.out, (numEnd_go HG.out).trans HNUM.out⟩⟩
                            case measure => simp [intOf]; omega
                          · have HG : Hid (numGo s p m = false) := by unfold Hid numGo; simp [h3]
                            have h3' : ¬ (m : Int) * 10 + ((gb s p : Int) - 48) ≤ 65535 := by omega
                            clear hd
                            go_wp2_with (go_at_call 42; refine (digit21_any _ _).mono ?_; rintro e w' ⟨he, rfl⟩; rw [H4.out] at he; subst he)
                            go_meet
                            case rel => exact ⟨rfl, p, m, rfl, rfl, hp, .inr ⟨HD.out, by rw [← HNUM.out]; exact numEnd_stop HG.out⟩⟩
                        · have HG : Hid (numGo s p m = false) := by unfold Hid numGo; simp [hm0]
                          clear hd
                          go_wp2_with (go_at_call 42; refine (digit21_any _ _).mono ?_; rintro e w' ⟨he, rfl⟩; rw [H4.out] at he; subst he)
                          go_meet
                          case rel => exact ⟨rfl, p, m, rfl, rfl, hp, .inr ⟨HD.out, by rw [← HNUM.out]; exact numEnd_stop HG.out⟩⟩
                      | false =>
                        have H4 : Hid (isDig (gb s p) = false) := hd
                        have HG : Hid (numGo s p m = false) := by unfold Hid numGo; simp [hd]
                        clear hd
                        go_wp2_with (go_at_call 42; refine (digit21_any _ _).mono ?_; rintro e w' ⟨he, rfl⟩; rw [H4.out] at he; subst he)
                        go_meet
                        case rel => exact ⟨rfl, p, m, rfl, rfl, hp, .inr ⟨HD.out, by rw [← HNUM.out]; exact numEnd_stop HG.out⟩⟩
                    · have HG : Hid (numGo s p m = false) := by unfold Hid numGo; rw [gb_ge hl]; rfl
                      go_wp2
                      go_meet
                      case rel => exact ⟨rfl, p, m, rfl, rfl, hp, .inr ⟨HD.out, by rw [← HNUM.out]; exact numEnd_stop HG.out⟩⟩
              case rest =>
                obtain ⟨rfl, p, m, rfl, rfl, hp, hor⟩ := hcut
                rcases hor with ⟨hd, rfl⟩ | ⟨hd, hnum⟩
                · have HR : Hid (pathR s = ([], 210, j + 1)) := by
                    unfold Hid; rw [← HGO.out, pathGo_bad (by unfold stepOk; rw [if_neg hne, if_pos HBK.out, ← HJ.out, hd]; simp)]; unfold stepEnd; rw [if_neg hne, if_pos HBK.out, ← HJ.out, hd]; simp
                  have e1 : ((((j + 1 : Nat) : Int) == (j : Int) + 1) : Bool) = true := by simp
                  clear hd
                  go_wp2
                  go_ret3
                  refine ⟨_, by rw [HR.out]; rfl, by rw [HR.out]; exact World.ownsRow_nil _ _ _ _, hbel1.alloc hbel1.size _⟩
                · have hall := numAt_all (s := s) (k := k) (by rw [← HJ.out]; exact hd)
                  rw [hnum, ← HJ.out] at hall
                  dsimp only at hall
                  have e1 : (((p : Int) == (j : Int) + 1) : Bool) = false := by simp; omega
                  have HN : Hid (numAt s k = (p, m)) := hnum
                  have HD : Hid (isDig (gb s (nameEnd s k k + 1)) = true) := by unfold Hid; rw [← HJ.out]; exact hd
                  clear hnum hd
                  by_cases hc : gb s p = 93
                  · have hl : p < s.size := lt_of_gb (by omega)
                    have hb := (gb_lt hl).symm
                    have e2 : (((p : Int) == ((s.size : Nat) : Int)) : Bool) = false := by simp; omega
                    have e3 : ((((gb s p : Nat) : Int) != 93) : Bool) = false := by rw [hc]; rfl
                    have h1 : stepEnd s k = p + 1 := by unfold stepEnd; rw [if_neg hne, if_pos HBK.out, if_pos HD.out, HN.out, if_pos hc]
                    have h2 : stepEntry s k = m := by unfold stepEntry; rw [if_pos HBK.out, HN.out]
                    have h3 : stepName s k = s.extract k j := by unfold stepName; rw [HJ.out]
                    have h4 : stepOk s k = true := by unfold stepOk; rw [if_neg hne, if_pos HBK.out, if_pos HD.out, HN.out]; simp [hc]
                    have HH : Hid (stepEnd s k = p + 1 ∧ stepEntry s k = m ∧ stepName s k = s.extract k j ∧ stepOk s k = true) := ⟨h1, h2, h3, h4⟩
                    clear h1 h2 h3 h4 hc
                    go_wp2
                    go_meet
                    case rel =>
                      refine ⟨by rw [HH.out.1]; rfl, ?_, ?_, HH.out.2.2.2⟩
                      · rw [HH.out.2.1, HH.out.2.2.1]; exact Blk.new _ _ _
                      · exact grown_realloc _ _ _
                  · have HR : Hid (pathR s = ([], 210, p)) := by
                      unfold Hid; rw [← HGO.out, pathGo_bad (by unfold stepOk; rw [if_neg hne, if_pos HBK.out, if_pos HD.out, HN.out]; simp [hc])]; unfold stepEnd; rw [if_neg hne, if_pos HBK.out, if_pos HD.out, HN.out, if_neg hc]
                    by_cases hl : p < s.size
                    · have hb := (gb_lt hl).symm
                      have e2 : (((p : Int) == ((s.size : Nat) : Int)) : Bool) = false := by simp; omega
                      have e3 : ((((gb s p : Nat) : Int) != 93) : Bool) = true := by simp; omega
                      clear hc
                      go_wp2
                      go_ret3
                      refine ⟨_, by rw [HR.out]; rfl, by rw [HR.out]; exact World.ownsRow_nil _ _ _ _, hbel1.alloc hbel1.size _⟩
                    · have e2 : (((p : Int) == ((s.size : Nat) : Int)) : Bool) = true := by simp; omega
                      clear hc
                      go_wp2
                      go_ret3
                      refine ⟨_, by rw [HR.out]; rfl, by rw [HR.out]; exact World.ownsRow_nil _ _ _ _, hbel1.alloc hbel1.size _⟩
          case rest =>
            obtain ⟨rfl, hX, hgX, hok⟩ := hcut
            have HOK : Hid (stepOk s k = true) := hok
            have hend := stepEnd_le s k hk
            have hge := stepEnd_ge s k
            have hown2 := (hown1.alloc (.cells #[.string (s.extract k j), .int .i64 (-1)] 63)).kept hgX (by cases h : u5.ownBlock with | none => exact .inl rfl | some q => right; intro e; have := (hown1.lt q h).2; simp at e; omega)
            have hbel2 : Below w.heap.size w wc := (hbel1.alloc hbel1.size _).grown hgX (by have := hbel1.size; simp; omega) (fun q hq => by have := hbel1.size; simp at hq; omega)
            have hl1 := hX.lt
            have x0 := hX.cell 0 (v := .string (stepName s k)) rfl
            have x1 := hX.cell 1 (v := .int .i64 (stepEntry s k)) rfl
            clear hX hgX hown1 hbel1 hok hgb hne d0 hjk hkj hjs HJ
            go_wp2_with (at_builtin; refine wpList_append_own _ rfl _ _ 44 rfl w.heap.size 63 i0 (.agg #[.string ⟨#[]⟩, .int .i64 0]) 2 24 Tryz.underlying44 hi hz0 hz1 hz2 rfl (by decide) u5 acc.length (cellsOf acc) rfl (hown2.alloc _) ⟨wc.heap.size, 0, none⟩ 1 1 [.string (stepName s k), .int .i64 (stepEntry s k)] rfl rfl ?c1 ?c2 ?c3 ?c4 ?c5 ?_)
            case c1 => exact cells_two_here _ _ _
            case c2 => intro u hu; simp at hu; rcases hu with rfl | rfl <;> rfl
            case c3 => unfold maxLen; omega
            case c4 => omega
            case c5 => have := hbel2.size; simp; omega
            intro v1 w2 hown3' hgrow _
            have hown3 : w2.ownsRow w.heap.size 63 2 v1 (acc ++ [(stepName s k, stepEntry s k)]).length (cellsOf (acc ++ [(stepName s k, stepEntry s k)])) := by
              rw [List.length_append, cellsOf_append]; exact hown3'
            have hlen : (acc ++ [(stepName s k, stepEntry s k)]).length = acc.length + 1 := by simp
            have hbel3 : Below w.heap.size w w2 := (hbel2.alloc hbel2.size _).grown hgrow (by have := hbel2.size; simp; omega) (fun q hq => by have := (hown2.lt q hq).1; omega)
            obtain ⟨acc1, hacc1⟩ : ∃ acc1, acc1 = acc ++ [(stepName s k, stepEntry s k)] := ⟨_, rfl⟩
            have HA : Hid (acc1 = acc ++ [(stepName s k, stepEntry s k)]) := hacc1
            rw [← hacc1] at hown3 hlen
            clear hown3' hgrow hown2 hbel2 hacc1 x0 x1 hl1
            by_cases he : stepEnd s k = s.size
            · have HR : Hid (pathR s = (acc1, 0, 0)) := by unfold Hid; rw [← HGO.out, pathGo_done HOK.out he, HA.out]
              have e1 : (((stepEnd s k : Nat) : Int) == ((s.size : Nat) : Int)) = true := by rw [he]; simp
              clear he
              go_wp2
              go_ret3
              refine ⟨v1, by rw [HR.out]; rfl, by rw [HR.out]; exact hown3, hbel3⟩
            · have e1 : (((stepEnd s k : Nat) : Int) == ((s.size : Nat) : Int)) = false := by simp; omega
              have hlt : stepEnd s k < s.size := by omega
              have hb := (gb_lt hlt).symm
              have hlen1 : acc1.length ≤ stepEnd s k + 1 := by omega
              by_cases hdot : gb s (stepEnd s k) = 46
              · have HN : Hid (pathGo s (stepEnd s k + 1) acc1 = pathR s) := by unfold Hid; rw [← HGO.out, HA.out, pathGo_next HOK.out hdot]
                have d2 : (((gb s (stepEnd s k) : Nat) : Int) != 46) = false := by rw [hdot]; rfl
                clear hdot he
                go_wp2
                go_roundg (s.size - (stepEnd s k + 1))
                case measure => rw [HM.out]; omega
                case rel => exact ⟨stepEnd s k + 1, acc1, rfl, rfl, by omega, hlen1, hown3, hbel3, HN.out⟩
              · have HR : Hid (pathR s = ([], 210, stepEnd s k)) := by unfold Hid; rw [← HGO.out, pathGo_odd HOK.out he hdot]
                have d2 : (((gb s (stepEnd s k) : Nat) : Int) != 46) = true := by simp; omega
                clear hdot he
                go_wp2
                go_ret3
                refine ⟨_, by rw [HR.out]; rfl, by rw [HR.out]; exact World.ownsRow_nil _ _ _ _, hbel3⟩
theorem rpath_any (s : ByteArray) (w : World) (hm : s.size ≤ 1048576) : Calls Tryz.prog 23 #[.string s] w (RPathPost s w) := by
  by_cases h0 : s.size = 0
  · have e := empty_of_size h0
    subst e
    exact rpath_empty w
  · exact rpath_some s w hm h0
end Go.Proofs.YtjohlabdjdhpfaaGreatDoor.Lk
