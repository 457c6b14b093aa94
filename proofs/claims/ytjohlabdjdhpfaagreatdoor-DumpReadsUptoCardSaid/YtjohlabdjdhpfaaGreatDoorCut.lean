/-
  A line cut at its spaces: the plain function, the library's answer, the document's walk.
-/
import Derived.Test.YtjohlabdjdhpfaaGreatDoorRows2
import Derived.Test.YtjohlabdjdhpfaaGreatDoorReg
import Derived.Test.YtjohlabdjdhpfaaGreatDoorLookPlain
import Derived.Test.YtjohlabdjdhpfaaGreatDoorProg
import Derived.Lib.SplitLaws
import Derived.StillTailTactics
import Derived.Deep.DeepCutAuto
import Derived.Deep.CutBlock
namespace Go.Proofs.YtjohlabdjdhpfaaGreatDoor.Ct
open Go.RowKit Go.Proofs.YtjohlabdjdhpfaaGreatDoor.Kt Go.Proofs.YtjohlabdjdhpfaaGreatDoor.Lk Go.Proofs.YtjohlabdjdhpfaaGreatDoor.Rw Go.Proofs.YtjohlabdjdhpfaaGreatDoor.Rg
set_option linter.unusedSimpArgs false
set_option linter.unusedVariables false
set_option maxRecDepth 100000

/-- cut at each letter c -/
def splitL (c : UInt8) : List UInt8 → List (List UInt8)
  | [] => [[]]
  | b :: r => if b = c then [] :: splitL c r else match splitL c r with
    | [] => [[b]]
    | h :: t => (b :: h) :: t
theorem splitL_ne (c : UInt8) (l : List UInt8) : splitL c l ≠ [] := by
  cases l with
  | nil => simp [splitL]
  | cons b r =>
    unfold splitL
    split
    · simp
    · split <;> simp
/-- letters ahead of the first piece -/
def ahead (p : List UInt8) : List (List UInt8) → List (List UInt8)
  | [] => [p]
  | h :: t => (p ++ h) :: t
theorem ahead_nil (l : List (List UInt8)) (h : l ≠ []) : ahead [] l = l := by cases l with
  | nil => exact absurd rfl h
  | cons => rfl
theorem splitL_eq (c : UInt8) (p : List UInt8) (r : List UInt8) : ahead p (splitL c (c :: r)) = p :: splitL c r := by
  rw [splitL, if_pos rfl]; simp [ahead]
theorem splitL_ne' (c b : UInt8) (h : b ≠ c) (p : List UInt8) (r : List UInt8) : ahead p (splitL c (b :: r)) = ahead (p ++ [b]) (splitL c r) := by
  rw [splitL, if_neg h]
  cases hs : splitL c r with
  | nil => exact absurd hs (splitL_ne c r)
  | cons x t => simp [ahead]
open Go.Lib in
theorem splitK_eq (c : UInt8) : ∀ l : List UInt8, splitK [c] 0 (count l [c]) l = splitL c l
  | [] => by rw [count_miss (by simp [index])]; rfl
  | b :: l => by
    by_cases h : b = c
    · subst h
      rw [count_cons_eq, Nat.add_comm]
      have hix : index (b :: l) [b] = 0 := by rw [index]; simp [List.isPrefixOf]
      rw [splitK, hix]
      simp [splitL, splitK_eq b l]
    · rw [count_cons_ne b c l h, splitL, if_neg h, ← splitK_eq c l]
      have hp : ([c] : List UInt8).isPrefixOf (b :: l) = false := by simp [List.isPrefixOf, Ne.symm h]
      have hix : index (b :: l) [c] = if index l [c] == -1 then -1 else index l [c] + 1 := by rw [index, hp]; simp
      by_cases hm : index l [c] = -1
      · rw [count_miss hm]
        rfl
      · have hge := index_ge l [c]
        obtain ⟨j, hj⟩ : ∃ j : Nat, index l [c] = j := ⟨(index l [c]).toNat, by omega⟩
        rw [count_hit (by simp) hj, Nat.add_comm]
        have hm1 : (index l [c] == -1) = false := by simp; omega
        have hix2 : index (b :: l) [c] = (j : Int) + 1 := by rw [hix, hm1, hj]; rfl
        have hm2 : (index (b :: l) [c] == -1) = false := by rw [hix2]; simp; omega
        rw [splitK, splitK, hm1, hm2, hix2, hj]
        have e1 : ((j : Int) + 1).toNat = j + 1 := by omega
        simp [e1]
/-- the pieces of a text, as texts -/
def pcs (s : ByteArray) : List ByteArray := (splitL 32 s.data.toList).map fun l => ⟨l.toArray⟩
theorem splitB_eq (s : ByteArray) : Lib.splitB ⟨#[32]⟩ 0 (Lib.countB s ⟨#[32]⟩) s = pcs s := by
  have h := Lib.splitB_data ⟨#[32]⟩ 0 (Lib.countB s ⟨#[32]⟩) s
  have h2 : Lib.splitK [32] 0 (Lib.countB s ⟨#[32]⟩) s.data.toList = splitL 32 s.data.toList := splitK_eq 32 s.data.toList
  have h3 := h.trans h2
  unfold pcs
  rw [← h3, List.map_map]
  conv => lhs; rw [← List.map_id (Lib.splitB ⟨#[32]⟩ 0 (Lib.countB s ⟨#[32]⟩) s)]
  apply List.map_congr_left
  intro x _
  rfl
theorem pcs_len (s : ByteArray) : (pcs s).length = Lib.countB s ⟨#[32]⟩ + 1 := by rw [← splitB_eq]; exact Lib.splitB_all _ (by decide) 0 _ s rfl
theorem pcs_length (s : ByteArray) : (pcs s).length ≤ s.size + 1 := by
  rw [pcs_len]; have := Lib.countB_le ⟨#[32]⟩ (by decide) s.size s (Nat.le_refl _); omega

theorem infoStr : (Tryz.prog.info? 9).map (fun i => (i.zero, i.size, i.bytes)) = some (some (.string ⟨#[]⟩), 1, 16) := by kernel_rfl
theorem one_str (s : ByteArray) : ∀ u ∈ [Value.string s], u.oneCell' = true := by
  intro u hu
  rw [List.mem_singleton.1 hu]
  rfl
/-- what cut answers: a row of the pieces -/
def CutPost (s : ByteArray) (w : World) (e : Ending) (w' : World) : Prop :=
  ∃ v, e = .returned v ∧ w'.ownsRow w.heap.size 9 1 v (pcs s).length ((pcs s).map Value.string) ∧ Below w.heap.size w w'
theorem drop_byte {s : ByteArray} {k : Nat} (h : k < s.size) : s.data.toList.drop k = s[k] :: s.data.toList.drop (k + 1) := by
  have hl : k < s.data.toList.length := by simpa using h
  rw [List.drop_eq_getElem_cons hl]; rfl
theorem extract_one {s : ByteArray} {k : Nat} (h : k < s.size) : (s.extract k (k + 1)).data.toList = [s[k]] := by
  rw [Lib.extract_data, drop_byte h, show k + 1 - k = 1 by omega]
  rfl
set_option maxHeartbeats 3200000 in
theorem cut_any (s : ByteArray) (w : World) (hm : s.size ≤ 1048576) : Calls Tryz.prog 19 #[.string s] w (CutPost s w) := by
  obtain ⟨i1, hi1, hz10, hz11, hz12⟩ := info_parts infoStr
  go_enter Tryz.func19, Tryz.ntmps19
  go_wp2
  go_loopw [3, 4] (fun v iv wr => ∃ (k : Nat) (done : List ByteArray) (cur : ByteArray), iv = .int .i64 k ∧ k ≤ s.size ∧ done.length ≤ k ∧ cur.size ≤ k ∧ Hid (splitL 32 s.data.toList = done.map (·.data.toList) ++ ahead cur.data.toList (splitL 32 (s.data.toList.drop k))) ∧ wr.ownsRow w.heap.size 9 1 v (done.length + 1) ((done ++ [cur]).map Value.string) ∧ Below w.heap.size w wr) (fun _ iv _ => s.size - (intOf iv).toNat)
  case atStart => exact ⟨0, [], ⟨#[]⟩, rfl, Nat.zero_le _, Nat.zero_le _, Nat.le_refl _, by unfold Hid; rw [List.drop_zero]; exact (ahead_nil _ (splitL_ne _ _)).symm, World.ownsRow_lit _ _ 1 (Nat.le_refl _) (by decide) rfl, (Below.refl _ _).alloc (Nat.le_refl _) _⟩
  case round => as_aux_lemma =>
    obtain ⟨k, done, cur, rfl, hk, hdl, hcs, HS, hown, hB⟩ := hrel
    have HOWN : Hid (wr.ownsRow w.heap.size 9 1 u3 (done.length + 1) ((done ++ [cur]).map Value.string)) := hown
    clear hown
    by_cases hlt : k < s.size
    · have hb := (gb_lt hlt).symm
      by_cases h32 : gb s k = 32
      · have hb32 : s[k] = 32 := by
          have : s[k].toNat = 32 := by rw [← gb_lt hlt]; exact h32
          exact UInt8.toNat.inj this
        have HS2 : Hid (splitL 32 s.data.toList = (done ++ [cur]).map (·.data.toList) ++ ahead (⟨#[]⟩ : ByteArray).data.toList (splitL 32 (s.data.toList.drop (k + 1)))) := by
          unfold Hid
          rw [HS.out, drop_byte hlt, hb32, splitL_eq, List.map_append, List.append_assoc]
          congr 1
          show _ = cur.data.toList :: ahead [] _
          rw [ahead_nil _ (splitL_ne _ _)]
        rw [h32] at hb
        clear h32 hb32 HS
        go_wp2_with (at_builtin; refine wpList_append_own_at _ rfl _ _ 22 rfl w.heap.size 9 i1 (.string ⟨#[]⟩) 1 16 Tryz.underlying22 hi1 hz10 hz11 hz12 rfl (by decide) u3 (done.length + 1) ((done ++ [cur]).map Value.string) rfl (World.ownsRow.alloc HOWN.out _) ⟨wr.heap.size, 0, none⟩ 1 1 [.string ⟨#[]⟩] rfl rfl (new_cells _ _ _) (one_str _) ?c3 ?c4 ?c5 ?_)
        case c3 => unfold maxLen; omega
        case c4 => omega
        case c5 => have := hB.size; simp; omega
        intro v' w1 hown' hgrow _ _
        have HO2 : Hid (w1.ownsRow w.heap.size 9 1 v' ((done ++ [cur]).length + 1) (((done ++ [cur]) ++ [(⟨#[]⟩ : ByteArray)]).map Value.string)) := by
          unfold Hid
          have h := hown'
          simp only [List.map_append, List.length_append, List.map_cons, List.map_nil, List.length_cons, List.length_nil, Nat.zero_add, List.append_assoc, List.cons_append, List.nil_append] at h ⊢
          exact h
        have HBB : Hid (Below w.heap.size w w1) := below_row ((hB.alloc hB.size _)) (by have := hB.size; simp; omega) (World.ownsRow.alloc HOWN.out _) hgrow
        clear hown' hgrow
        go_wp2
        go_roundw
        case rel => exact ⟨k + 1, done ++ [cur], ⟨#[]⟩, by go_num, by omega, by rw [List.length_append]; simp; omega, Nat.zero_le _, HS2, HO2.out, HBB.out⟩
        case measure => simp [intOf]; omega
      · have hb32 : s[k] ≠ 32 := fun h => h32 (by rw [gb_lt hlt, h]; rfl)
        have HS2 : Hid (splitL 32 s.data.toList = done.map (·.data.toList) ++ ahead (cur ++ s.extract k (k + 1)).data.toList (splitL 32 (s.data.toList.drop (k + 1)))) := by
          unfold Hid
          rw [HS.out, drop_byte hlt, splitL_ne' 32 _ hb32, ByteArray.data_append, Array.toList_append, extract_one hlt]
        have hne : (((gb s k : Nat) : Int) == 32) = false := by simp; omega
        obtain ⟨g, cap, rfl, hg0, hg, hc1, hc2, hcl⟩ := row_shape HOWN.out (by omega)
        unfold maxLen at hc2
        have hcell : wr.cell? ⟨g, done.length, none⟩ = some (.string cur) := hcl done.length _ (by simp)
        have hfz : wr.frozen? ⟨g, done.length, none⟩ = false := HOWN.out.frozenAt _
        have hl1 : ((done.length + 1 : Nat) : Int) - 1 = (done.length : Int) := by omega
        have hsz : cur.size + (s.extract k (k + 1)).size ≤ 2097152 := by rw [ByteArray.size_extract]; omega
        have hcc : ¬ (9223372036854775807 < cur.size + (min (k + 1) s.size - k)) := by omega
        have hw1 : IntKind.i64.wrap (done.length : Int) = (done.length : Int) := IntWalk.i64_in _ (by omega)
        have hw2 : IntKind.i64.wrap ((done.length : Int) + 1 - 1) = (done.length : Int) := by rw [IntWalk.i64_in _ (by omega)]; omega
        have q1 : 0 ≤ (k : Int) + 1 := by omega
        have q2 : (k : Int) + 1 ≤ (s.size : Int) := by omega
        have q3 : (k : Int) ≤ (k : Int) + 1 := by omega
        have hdlt : (done.length : Int) < (done.length : Int) + 1 := by omega
        have hk1 : IntKind.i64.wrap ((k : Int) + 1) = (k : Int) + 1 := IntWalk.i64_in _ (by omega)
        clear h32 hb32 HS hcl
        go_upto_region 7 with (fail)
        refine wp_region_plan [(some 19, 0), (some 20, 1), (some 21, 2), (some 22, 3), (some 23, 4), (some 24, 5), (some 25, 6), (some 26, 7), (some 27, 8), (some 29, 10), (some 30, 11), (some 31, 12), (some 32, 13), (some 33, 14), (none, 9), (some 34, 15), (some 35, 16), (none, 17)] (by kernel_rfl) (by kernel_rfl) (fun _ _ d _ _ h => by cases d <;> exact h) ?_
        repeat (refine plan_pure (v := ?_) (a' := ?_) rfl rfl (Or.inl ⟨by rfl, ?_⟩) ?_ ?_; rotate_left; (intro w'; go_simp; with_reducible rfl); rotate_left; (simp only [Act.put, List.setIfInBounds_toArray, List.set_cons_zero, List.set_cons_succ]; rfl))
        refine plan_alone _ _ _ _ ?_
        simp only [picks, List.getElem?_cons_succ, List.getElem?_cons_zero]
        go_wp2
        repeat (refine plan_pure (v := ?_) (a' := ?_) rfl rfl (Or.inl ⟨by rfl, ?_⟩) ?_ ?_; rotate_left; (intro w'; go_simp; with_reducible rfl); rotate_left; (simp only [Act.put, List.setIfInBounds_toArray, List.set_cons_zero, List.set_cons_succ]; rfl))
        refine plan_seq _ _ _ rfl ?_
        simp only [picks, List.getElem?_cons_succ, List.getElem?_cons_zero]
        have HST := (World.ownsRow.drew HOWN.out).stored done.length (.string (cur ++ s.extract k (k + 1)))
        have HO2 : Hid (((wr.drew).setCell ⟨g, done.length, none⟩ (.string (cur ++ s.extract k (k + 1)))).ownsRow w.heap.size 9 1 (.slice (some ⟨g, 0, none⟩) (done.length + 1) cap) (done.length + 1) ((done ++ [cur ++ s.extract k (k + 1)]).map Value.string)) := by
          have h := HST.1
          have e : ((done ++ [cur]).map Value.string).set done.length (.string (cur ++ s.extract k (k + 1))) = (done ++ [cur ++ s.extract k (k + 1)]).map Value.string := by simp
          rw [e] at h
          exact h
        have HBB : Hid (Below w.heap.size w ((wr.drew).setCell ⟨g, done.length, none⟩ (.string (cur ++ s.extract k (k + 1))))) := (hB.drew).setCell (p := ⟨g, done.length, none⟩) hg0 _
        clear HST
        go_wp2
        go_roundw
        case rel => exact ⟨k + 1, done, cur ++ s.extract k (k + 1), by go_num, by omega, by omega, by rw [ByteArray.size_append, ByteArray.size_extract]; omega, HS2, HO2.out, HBB.out⟩
        case measure => simp [intOf]; omega
    · obtain rfl : k = s.size := by omega
      have HP : Hid (pcs s = done ++ [cur]) := by
        unfold Hid pcs
        rw [HS.out, List.drop_of_length_le (by simp)]
        show ((done.map (·.data.toList)) ++ ahead cur.data.toList [[]]).map _ = _
        rw [List.map_append, List.map_map]
        congr 1
        · conv => rhs; rw [← List.map_id done]
          apply List.map_congr_left
          intro x _; rfl
        · simp [ahead]
      have HO3 : Hid (wr.ownsRow w.heap.size 9 1 u3 (pcs s).length ((pcs s).map Value.string)) := by
        unfold Hid; rw [HP.out, List.length_append]; exact HOWN.out
      go_wp2
      go_ret
      exact ⟨u3, rfl, HO3.out, hB⟩
end Go.Proofs.YtjohlabdjdhpfaaGreatDoor.Ct
