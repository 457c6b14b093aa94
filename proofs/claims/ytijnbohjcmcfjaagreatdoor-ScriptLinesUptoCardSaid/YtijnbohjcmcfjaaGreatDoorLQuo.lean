/-
  Walks: a text in quotes: package text's Quote.
-/
import Derived.Test.YtijnbohjcmcfjaaGreatDoorLRows2
import Derived.Test.YtijnbohjcmcfjaaGreatDoorLReg
import Derived.Test.YtijnbohjcmcfjaaGreatDoorLSplit
import Derived.Deep.DeepCutAuto
import Derived.Deep.CutBlock
namespace Go.Proofs.YtijnbohjcmcfjaaGreatDoor.Sc
open Go.RowKit Go.Proofs.YtijnbohjcmcfjaaGreatDoor.Kt Go.Proofs.YtijnbohjcmcfjaaGreatDoor.Lk Go.Proofs.YtijnbohjcmcfjaaGreatDoor.Rw Go.Proofs.YtijnbohjcmcfjaaGreatDoor.Rg Go.Proofs.YtijnbohjcmcfjaaGreatDoor.Ap
set_option linter.unusedSimpArgs false
set_option linter.unusedVariables false
set_option maxRecDepth 100000

/-- the letter of a digit, out of the text that holds them -/
theorem run_digit : ∀ n : Nat, n < 16 → ∀ w : World, (Instr.index 9 (.string { data := #[48, 49, 50, 51, 52, 53, 54, 55, 56, 57, 97, 98, 99, 100, 101, 102] }) (.int .u8 (n : Int))).run Tryz.prog w = .ok (.int .u8 (hd n)) w
  | 0, _, w => by kernel_rfl
  | 1, _, w => by kernel_rfl
  | 2, _, w => by kernel_rfl
  | 3, _, w => by kernel_rfl
  | 4, _, w => by kernel_rfl
  | 5, _, w => by kernel_rfl
  | 6, _, w => by kernel_rfl
  | 7, _, w => by kernel_rfl
  | 8, _, w => by kernel_rfl
  | 9, _, w => by kernel_rfl
  | 10, _, w => by kernel_rfl
  | 11, _, w => by kernel_rfl
  | 12, _, w => by kernel_rfl
  | 13, _, w => by kernel_rfl
  | 14, _, w => by kernel_rfl
  | 15, _, w => by kernel_rfl
  | n + 16, h, _ => absurd h (by omega)
theorem and15 (c : Nat) (h : c < 256) : bits .and .u8 (c : Int) 15 = ((c % 16 : Nat) : Int) := by
  have H : ∀ c : Fin 256, bits .and .u8 ((c.val : Nat) : Int) 15 = ((c.val % 16 : Nat) : Int) := by decide
  exact H ⟨c, h⟩

set_option maxHeartbeats 3200000 in
theorem tquote_any (s : ByteArray) (w : World) (hm : s.size ≤ 67108864) :
    Calls Tryz.prog 20 #[.string s] w fun e w' => e = .returned (.string (quoteF s)) ∧ Below w.heap.size w w' := by
  go_enter Tryz.func20, Tryz.ntmps20
  go_wp2
  go_loopw [3, 9] (fun v i wr => ∃ k : Nat, i = .int .i64 k ∧ k ≤ s.size ∧ wr.ownsRow w.heap.size 5 1 v (quoteZ s k).length ((quoteZ s k).map (Value.int .u8)) ∧ Below w.heap.size w wr) (fun _ i _ => s.size - (intOf i).toNat)
  case atStart =>
    refine ⟨0, rfl, Nat.zero_le _, ?_, (Below.refl _ _).alloc (Nat.le_refl _) _⟩
    exact World.ownsRow_lit (base := w.heap.size) (e := 5) (size := 1) w #[.int .u8 34] 1 (Nat.le_refl _) (by unfold maxLen; omega) rfl
  case round =>
    obtain ⟨k, rfl, hk, hown, hB⟩ := hrel
    have hl := quoteZ_length s k
    obtain ⟨n, hn⟩ : ∃ n, n = (quoteZ s k).length := ⟨_, rfl⟩
    rw [← hn] at hown hl
    have HN : Hid (n = (quoteZ s k).length) := hn
    have HOWN : Hid (wr.ownsRow w.heap.size 5 1 u3 n ((quoteZ s k).map (Value.int .u8))) := hown
    have HB : Hid (Below w.heap.size w wr) := hB
    clear hown hn hB
    by_cases hlt : k < s.size
    · have hb := (gb_lt hlt).symm
      have hby := gb_byte s k
      have HQ : Hid (∀ ys : List Int, qb (gb s k) = ys → ∀ (v' : Value) (w' : World), w'.ownsRow w.heap.size 5 1 v' (n + ys.length) ((quoteZ s k ++ ys).map (Value.int .u8)) → w'.ownsRow w.heap.size 5 1 v' (quoteZ s (k + 1)).length ((quoteZ s (k + 1)).map (Value.int .u8))) := by
        intro ys hys v' w' h
        rw [quoteZ_succ, hys, List.length_append, ← HN.out]; exact h
      obtain ⟨c, hc⟩ : ∃ c, c = gb s k := ⟨_, rfl⟩
      rw [← hc] at hb hby HQ
      clear hc
      by_cases h1 : c = 92 ∨ c = 34
      · by_cases h92 : c = 92
        · subst h92
          have HX : Hid (qb 92 = [92, 92]) := by unfold Hid; rfl
          clear h1
          go_wp2_with (at_builtin; refine wpList_app rfl _ _ rfl w.heap.size u3 n (quoteZ s k) rfl HOWN.out HB.out HB.out.size [92, 92] 2 rfl _ rfl rfl (by omega) ?_)
          intro v' w1 hown' hB' _ _
          have HO := HQ.out _ HX.out v' w1 (by rw [List.map_append]; exact hown')
          have HO2 : Hid (w1.ownsRow w.heap.size 5 1 v' (quoteZ s (k + 1)).length ((quoteZ s (k + 1)).map (Value.int .u8))) := HO
          have HBB : Hid (Below w.heap.size w w1) := hB'
          clear hown' hB' HO
          go_wp2
          go_roundw
          case rel => exact ⟨k + 1, by go_num, by omega, HO2.out, HBB.out⟩
          case measure => simp [intOf]; omega
        · obtain rfl : c = 34 := by omega
          have HX : Hid (qb 34 = [92, 34]) := by unfold Hid; rfl
          clear h1 h92
          go_wp2_with (at_builtin; refine wpList_app rfl _ _ rfl w.heap.size u3 n (quoteZ s k) rfl HOWN.out HB.out HB.out.size [92, 34] 2 rfl _ rfl rfl (by omega) ?_)
          intro v' w1 hown' hB' _ _
          have HO := HQ.out _ HX.out v' w1 (by rw [List.map_append]; exact hown')
          have HO2 : Hid (w1.ownsRow w.heap.size 5 1 v' (quoteZ s (k + 1)).length ((quoteZ s (k + 1)).map (Value.int .u8))) := HO
          have HBB : Hid (Below w.heap.size w w1) := hB'
          clear hown' hB' HO
          go_wp2
          go_roundw
          case rel => exact ⟨k + 1, by go_num, by omega, HO2.out, HBB.out⟩
          case measure => simp [intOf]; omega
      · by_cases h2 : c = 10
        · subst h2
          have HX : Hid (qb 10 = [92, 110]) := by unfold Hid; rfl
          clear h1
          go_wp2_with (at_builtin; refine wpList_app rfl _ _ rfl w.heap.size u3 n (quoteZ s k) rfl HOWN.out HB.out HB.out.size [92, 110] 2 rfl _ rfl rfl (by omega) ?_)
          intro v' w1 hown' hB' _ _
          have HO := HQ.out _ HX.out v' w1 (by rw [List.map_append]; exact hown')
          have HO2 : Hid (w1.ownsRow w.heap.size 5 1 v' (quoteZ s (k + 1)).length ((quoteZ s (k + 1)).map (Value.int .u8))) := HO
          have HBB : Hid (Below w.heap.size w w1) := hB'
          clear hown' hB' HO
          go_wp2
          go_roundw
          case rel => exact ⟨k + 1, by go_num, by omega, HO2.out, HBB.out⟩
          case measure => simp [intOf]; omega
        · by_cases h3 : c = 13
          · subst h3
            have HX : Hid (qb 13 = [92, 114]) := by unfold Hid; rfl
            clear h1 h2
            go_wp2_with (at_builtin; refine wpList_app rfl _ _ rfl w.heap.size u3 n (quoteZ s k) rfl HOWN.out HB.out HB.out.size [92, 114] 2 rfl _ rfl rfl (by omega) ?_)
            intro v' w1 hown' hB' _ _
            have HO := HQ.out _ HX.out v' w1 (by rw [List.map_append]; exact hown')
            have HO2 : Hid (w1.ownsRow w.heap.size 5 1 v' (quoteZ s (k + 1)).length ((quoteZ s (k + 1)).map (Value.int .u8))) := HO
            have HBB : Hid (Below w.heap.size w w1) := hB'
            clear hown' hB' HO
            go_wp2
            go_roundw
            case rel => exact ⟨k + 1, by go_num, by omega, HO2.out, HBB.out⟩
            case measure => simp [intOf]; omega
          · by_cases h4 : c = 9
            · subst h4
              have HX : Hid (qb 9 = [92, 116]) := by unfold Hid; rfl
              clear h1 h2 h3
              go_wp2_with (at_builtin; refine wpList_app rfl _ _ rfl w.heap.size u3 n (quoteZ s k) rfl HOWN.out HB.out HB.out.size [92, 116] 2 rfl _ rfl rfl (by omega) ?_)
              intro v' w1 hown' hB' _ _
              have HO := HQ.out _ HX.out v' w1 (by rw [List.map_append]; exact hown')
              have HO2 : Hid (w1.ownsRow w.heap.size 5 1 v' (quoteZ s (k + 1)).length ((quoteZ s (k + 1)).map (Value.int .u8))) := HO
              have HBB : Hid (Below w.heap.size w w1) := hB'
              clear hown' hB' HO
              go_wp2
              go_roundw
              case rel => exact ⟨k + 1, by go_num, by omega, HO2.out, HBB.out⟩
              case measure => simp [intOf]; omega
            · have e92 : (((c : Nat) : Int) == 92) = false := by simp; omega
              have e34 : (((c : Nat) : Int) == 34) = false := by simp; omega
              have e10 : (((c : Nat) : Int) == 10) = false := by simp; omega
              have e13 : (((c : Nat) : Int) == 13) = false := by simp; omega
              have e9 : (((c : Nat) : Int) == 9) = false := by simp; omega
              by_cases h5 : 32 ≤ c ∧ c ≤ 126
              · have f1 : (32 : Int) ≤ (c : Int) := by omega
                have f2 : (c : Int) ≤ 126 := by omega
                have HX : Hid (qb c = [(c : Int)]) := by unfold Hid; unfold qb; rw [if_neg h1, if_neg h2, if_neg h3, if_neg h4, if_pos h5]
                clear h1 h2 h3 h4 h5
                go_wp2_with (at_builtin; refine wpList_app rfl _ _ rfl w.heap.size u3 n (quoteZ s k) rfl HOWN.out HB.out HB.out.size [(c : Int)] 1 rfl _ rfl rfl (by omega) ?_)
                intro v' w1 hown' hB' _ _
                have HO := HQ.out _ HX.out v' w1 (by rw [List.map_append]; exact hown')
                have HO2 : Hid (w1.ownsRow w.heap.size 5 1 v' (quoteZ s (k + 1)).length ((quoteZ s (k + 1)).map (Value.int .u8))) := HO
                have HBB : Hid (Below w.heap.size w w1) := hB'
                clear hown' hB' HO
                go_wp2
                go_roundw
                case rel => exact ⟨k + 1, by go_num, by omega, HO2.out, HBB.out⟩
                case measure => simp [intOf]; omega
              · by_cases h6 : 32 ≤ c
                · have f1 : (32 : Int) ≤ (c : Int) := by omega
                  have f2 : ¬ (c : Int) ≤ 126 := by omega
                  go_upto_region 6 with (fail)
                  obtain ⟨x1, hx1⟩ : ∃ x, x = hd (c / 16) := ⟨_, rfl⟩
                  obtain ⟨x2, hx2⟩ : ∃ x, x = hd (c % 16) := ⟨_, rfl⟩
                  have hg1 : ∀ w : World, (Instr.index 9 (.string { data := #[48, 49, 50, 51, 52, 53, 54, 55, 56, 57, 97, 98, 99, 100, 101, 102] }) (.int .u8 ((c : Int) / 16))).run Tryz.prog w = .ok (.int .u8 x1) w := fun w => by rw [hx1]; exact run_digit (c / 16) (by omega) w
                  have hg2 : ∀ w : World, (Instr.index 9 (.string { data := #[48, 49, 50, 51, 52, 53, 54, 55, 56, 57, 97, 98, 99, 100, 101, 102] }) (.int .u8 (bits .and .u8 (c : Int) 15))).run Tryz.prog w = .ok (.int .u8 x2) w := fun w => by rw [hx2, and15 _ hby]; exact run_digit (c % 16) (by omega) w
                  have HX : Hid (qb c = [92, 120, x1, x2]) := by unfold Hid qb; rw [if_neg h1, if_neg h2, if_neg h3, if_neg h4, if_neg h5, hx1, hx2]
                  clear hx1 hx2
                  refine wp_region_plan [(some 15, 0), (some 16, 1), (some 17, 2), (some 18, 3), (some 19, 4), (some 20, 5), (some 21, 6), (none, 7), (none, 8), (none, 9)] (by kernel_rfl) (by kernel_rfl) (fun _ _ d _ _ h => by cases d <;> exact h) ?_
                  repeat (refine plan_pure (v := ?_) (a' := ?_) rfl rfl (Or.inl ⟨by rfl, ?_⟩) ?_ ?_; rotate_left; (intro w'; go_simp; with_reducible rfl); rotate_left; (simp only [Act.put, List.setIfInBounds_toArray, List.set_cons_zero, List.set_cons_succ]; rfl))
                  refine plan_seq _ _ _ rfl ?_
                  simp only [picks, List.getElem?_cons_succ, List.getElem?_cons_zero]
                  clear hg1 hg2 h1 h2 h3 h4 h5
                  go_wp2_with (at_builtin; refine wpList_app rfl _ _ rfl w.heap.size u3 n (quoteZ s k) rfl (World.ownsRow.drew HOWN.out) (HB.out.drew) (by have := HB.out.size; simpa using this) [92, 120, x1, x2] 4 rfl _ rfl rfl (by omega) ?_)
                  intro v' w1 hown' hB' _ _
                  have HO := HQ.out _ HX.out v' w1 (by rw [List.map_append]; exact hown')
                  have HO2 : Hid (w1.ownsRow w.heap.size 5 1 v' (quoteZ s (k + 1)).length ((quoteZ s (k + 1)).map (Value.int .u8))) := HO
                  have HBB : Hid (Below w.heap.size w w1) := hB'
                  clear hown' hB' HO
                  go_wp2
                  go_roundw
                  case rel => exact ⟨k + 1, by go_num, by omega, HO2.out, HBB.out⟩
                  case measure => simp [intOf]; omega
                · have f1 : ¬ (32 : Int) ≤ (c : Int) := by omega
                  go_upto_region 6 with (fail)
                  obtain ⟨x1, hx1⟩ : ∃ x, x = hd (c / 16) := ⟨_, rfl⟩
                  obtain ⟨x2, hx2⟩ : ∃ x, x = hd (c % 16) := ⟨_, rfl⟩
                  have hg1 : ∀ w : World, (Instr.index 9 (.string { data := #[48, 49, 50, 51, 52, 53, 54, 55, 56, 57, 97, 98, 99, 100, 101, 102] }) (.int .u8 ((c : Int) / 16))).run Tryz.prog w = .ok (.int .u8 x1) w := fun w => by rw [hx1]; exact run_digit (c / 16) (by omega) w
                  have hg2 : ∀ w : World, (Instr.index 9 (.string { data := #[48, 49, 50, 51, 52, 53, 54, 55, 56, 57, 97, 98, 99, 100, 101, 102] }) (.int .u8 (bits .and .u8 (c : Int) 15))).run Tryz.prog w = .ok (.int .u8 x2) w := fun w => by rw [hx2, and15 _ hby]; exact run_digit (c % 16) (by omega) w
                  have HX : Hid (qb c = [92, 120, x1, x2]) := by unfold Hid qb; rw [if_neg h1, if_neg h2, if_neg h3, if_neg h4, if_neg h5, hx1, hx2]
                  clear hx1 hx2
                  refine wp_region_plan [(some 15, 0), (some 16, 1), (some 17, 2), (some 18, 3), (some 19, 4), (some 20, 5), (some 21, 6), (none, 7), (none, 8), (none, 9)] (by kernel_rfl) (by kernel_rfl) (fun _ _ d _ _ h => by cases d <;> exact h) ?_
                  repeat (refine plan_pure (v := ?_) (a' := ?_) rfl rfl (Or.inl ⟨by rfl, ?_⟩) ?_ ?_; rotate_left; (intro w'; go_simp; with_reducible rfl); rotate_left; (simp only [Act.put, List.setIfInBounds_toArray, List.set_cons_zero, List.set_cons_succ]; rfl))
                  refine plan_seq _ _ _ rfl ?_
                  simp only [picks, List.getElem?_cons_succ, List.getElem?_cons_zero]
                  clear hg1 hg2 h1 h2 h3 h4 h5
                  go_wp2_with (at_builtin; refine wpList_app rfl _ _ rfl w.heap.size u3 n (quoteZ s k) rfl (World.ownsRow.drew HOWN.out) (HB.out.drew) (by have := HB.out.size; simpa using this) [92, 120, x1, x2] 4 rfl _ rfl rfl (by omega) ?_)
                  intro v' w1 hown' hB' _ _
                  have HO := HQ.out _ HX.out v' w1 (by rw [List.map_append]; exact hown')
                  have HO2 : Hid (w1.ownsRow w.heap.size 5 1 v' (quoteZ s (k + 1)).length ((quoteZ s (k + 1)).map (Value.int .u8))) := HO
                  have HBB : Hid (Below w.heap.size w w1) := hB'
                  clear hown' hB' HO
                  go_wp2
                  go_roundw
                  case rel => exact ⟨k + 1, by go_num, by omega, HO2.out, HBB.out⟩
                  case measure => simp [intOf]; omega
    · obtain rfl : k = s.size := by omega
      go_wp2_with (at_builtin; refine wpList_app rfl _ _ rfl w.heap.size u3 n (quoteZ s s.size) rfl HOWN.out HB.out HB.out.size [34] 1 rfl _ rfl rfl (by omega) ?_)
      intro v' w1 hown' hB' _ _
      have hown2 : w1.ownsRow w.heap.size 5 1 v' (n + 1) ((quoteZ s s.size ++ [34]).map (Value.int .u8)) := by rw [List.map_append]; exact hown'
      have hcv := conv_row (P := Tryz.prog) hown2 72 5 Tryz.underlying72 Tryz.underlying5 9 Tryz.underlying9
      clear hown' hown2
      go_wp2
      go_ret
      exact ⟨rfl, hB'⟩
end Go.Proofs.YtijnbohjcmcfjaaGreatDoor.Sc
