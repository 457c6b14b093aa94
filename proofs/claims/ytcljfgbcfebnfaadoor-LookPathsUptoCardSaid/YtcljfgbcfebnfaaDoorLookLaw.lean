/-
  Walks: the statement itself: LookPaths.
-/
import Derived.Test.YtcljfgbcfebnfaaDoorLookKept
import Derived.Test.YtcljfgbcfebnfaaDoorLookOwnS
import Derived.Test.YtcljfgbcfebnfaaDoorLookText2
import Derived.Test.YtcljfgbcfebnfaaDoorLookW4
import Derived.Test.YtcljfgbcfebnfaaDoorRefPath2
namespace Go.Proofs.YtcljfgbcfebnfaaDoor.Lk
open Go.RowKit Go.Proofs.YtcljfgbcfebnfaaDoor.Kt
set_option linter.unusedSimpArgs false
set_option linter.unusedVariables false

theorem row_below {w w' : World} {base : Nat} {e : TypeId} {size : Nat} {v : Value} {n : Nat} {xs : List Value} (h : w.ownsRow base e size v n xs) (hb : Below w.heap.size w w') : w'.ownsRow base e size v n xs :=
  h.kept (grown_below hb none) (by cases v.ownBlock <;> simp)

theorem own_any (A : Option Addr) (cap : Nat) (l : List Step) (w : World) (hl : l.length ≤ 1048576) (hr : Reads w (.slice A l.length cap) l) :
    Calls Tryd.prog 7 #[.agg #[.int .i64 0, .int .i64 0, .int .i64 0, .int .i64 0, .int .i64 0, .int .i64 0, .int .i64 0, .int .i64 0, .int .i64 0, .int .i64 0, .int .i64 0, .int .i64 0, .slice none 0 0, .slice none 0 0, .int .i64 0, .slice A l.length cap, .slice none 0 0]] w (OwnPost l w) := by
  rcases hr with ⟨rfl, hv⟩ | ⟨b, off, cap', hv, r⟩
  · rcases hv with hv | ⟨a, cap', hv⟩
    · simp only [List.length_nil, Value.slice.injEq] at hv
      obtain ⟨rfl, -, rfl⟩ := hv
      exact own_nil w
    · simp only [List.length_nil, Value.slice.injEq] at hv
      obtain ⟨rfl, -, rfl⟩ := hv
      exact own_some a _ [] w hl (fun j u hu => by simp [cellsOf] at hu)
  · simp only [Value.slice.injEq, true_and] at hv
    obtain ⟨rfl, rfl⟩ := hv
    refine own_some ⟨b, off, none⟩ _ l w hl (fun j u hu => ?_)
    have hj : j < (cellsOf l).length := by
      rcases Nat.lt_or_ge j (cellsOf l).length with h | h
      · exact h
      · rw [List.getElem?_eq_none h] at hu; cases hu
    rw [cellsOf_length] at hj
    rw [show (⟨b, off, none⟩ : Addr).add j = ⟨b, off + j, none⟩ from by unfold Addr.add; split <;> simp_all]
    obtain ⟨i, hi | hi⟩ : ∃ i, j = 2 * i ∨ j = 2 * i + 1 := ⟨j / 2, by omega⟩
    · have hil : i < l.length := by omega
      have h := (r i hil).1
      rw [hi, cellsOf_name hil] at hu
      rw [hi, ← Option.some.inj hu, Nat.mul_comm]; exact h
    · have hil : i < l.length := by omega
      have h := (r i hil).2
      rw [hi, cellsOf_entry hil] at hu
      rw [hi, ← Option.some.inj hu, Nat.mul_comm 2 i, ← Nat.add_assoc]; exact h

set_option maxRecDepth 100000 in
set_option maxHeartbeats 3200000 in
theorem law_any (s : ByteArray) (A : Option Addr) (cap : Nat) (l : List Step) (w : World) (hm : s.size ≤ 1048576) (hl : l.length ≤ 1048576) (hns : ∀ x ∈ l, x.1.size ≤ 1048576) (hr : Reads w (.slice A l.length cap) l) (ht : Tab w) (hps : (pathR s).1.length ≤ 1048577) :
    Calls Tryd.prog 3 #[.string s, .slice A l.length cap] w fun e w' => e = .returned (.bool true) ∧ Below w.heap.size w w' := by
  go_enter Tryd.func3, Tryd.ntmps3
  go_upto_region 2 with (go_at_call 4; refine (rpath_any s _ hm).mono ?_; rintro e w1 ⟨v1, rfl, row1, b1⟩)
  go_upto_region 3 with (go_at_call 5; refine (rtext_any _ l _ hl hns (hr.below b1)).mono ?_; rintro e w2 ⟨rfl, b2⟩)
  go_upto_region 4 with (go_at_call 6; refine (path_any s _ hm).mono ?_; rintro e w3 ⟨v3, rfl, row3, b3⟩)
  go_upto_region 5 with (go_at_call 6; refine (path_any s _ hm).mono ?_; rintro e w4 ⟨v4, rfl, row4, b4⟩)
  have hr4 : Reads w4 (.slice A l.length cap) l := (((hr.below b1).below b2).below b3).below b4
  go_upto_region 6 with (go_at_call 7; refine (own_any A cap l _ hl hr4).mono ?_; rintro e w5 ⟨g1, c1, g2, c2, g3, c3, g4, c4, rfl, ⟨h1, m1, s1⟩, ⟨h2, m2, s2⟩, ⟨h3, m3, r3⟩, ⟨h4, m4, s4⟩, b5⟩; unfold asked)
  have hr5 := hr4.below b5
  have hpre : Reads w5 (.slice (some ⟨g3, 0, none⟩) l.length c3) l := .inr ⟨g3, 0, c3, rfl, fun i hi => by
    have := r3 i (by simp; omega)
    rwa [List.getElem_append_left hi] at this⟩
  have t5 : Tab w5 := ((((ht.below b1).below b2).below b3).below b4).below b5
  have row1' := row_below (row_below (row_below (row_below row1 b2) b3) b4) b5
  have row3' := row_below (row_below row3 b4) b5
  have row4' := row_below row4 b5
  have z1 := b1.size
  have z2 := b2.size
  have z3 := b3.size
  have z4 := b4.size
  have z5 := b5.size
  have bb : Below w.heap.size w w5 := (((b1.trans (b2.mono z1)).trans (b3.mono (by omega))).trans (b4.mono (by omega))).trans (b5.mono (by omega))
  have L1 : Hid (∀ k, v1.ownBlock = some k → k < w1.heap.size) := fun k hk => (row1.lt k hk).2
  have L3 : Hid (∀ k, v3.ownBlock = some k → w2.heap.size ≤ k ∧ k < w3.heap.size) := fun k hk => row3.lt (v := v3) k hk
  have L4 : Hid (∀ k, v4.ownBlock = some k → w3.heap.size ≤ k ∧ k < w4.heap.size) := fun k hk => row4.lt (v := v4) k hk
  clear hr hr4 row1 row3 row4 b1 b2 b3 b4 b5 ht
  go_upto_region 7 with (go_at_call 8; refine (text_any _ l _ hl hns (hpre.below ((Below.refl _ _).alloc (Nat.le_refl _) _)) (t5.below ((Below.refl _ _).alloc (Nat.le_refl _) _))).mono ?_; rintro e w6 ⟨rfl, b6⟩)
  have hy : Blk w6 w5.heap.size #[.int .i64 0, .int .i64 0, .int .i64 0, .int .i64 0, .int .i64 0, .int .i64 0, .int .i64 0, .int .i64 0, .int .i64 0, .int .i64 0, .int .i64 0, .int .i64 0, .slice (some ⟨g1, 0, none⟩) 0 c1, .slice (some ⟨g2, 0, none⟩) 0 c2, .int .i64 0, .slice (some ⟨g3, 0, none⟩) l.length c3, .slice (some ⟨g4, 0, none⟩) 0 c4] 40 := (Blk.new _ _ _).below b6 (by simp)
  have b6' : Below w5.heap.size w5 w6 := ((Below.refl _ _).alloc (Nat.le_refl _) _).trans (b6.mono (by simp))
  have rd1 := Reads.of_row (row_below row1' b6')
  have rd3 := Reads.of_row (row_below row3' b6')
  have rd4 := Reads.of_row (row_below row4' b6')
  have hr6 := hr5.below b6'
  have s1' := cell_later b6' s1
  have s2' := cell_later b6' s2
  have s4' := cell_later b6' s4
  have r3' := r3.below b6'
  have e0 := hy.cell 0 (v := .int .i64 0) rfl
  have e1 := hy.cell 1 (v := .int .i64 0) rfl
  have e2 := hy.cell 2 (v := .int .i64 0) rfl
  have e3 := hy.cell 3 (v := .int .i64 0) rfl
  have e4 := hy.cell 4 (v := .int .i64 0) rfl
  have e5 := hy.cell 5 (v := .int .i64 0) rfl
  have e6 := hy.cell 6 (v := .int .i64 0) rfl
  have e7 := hy.cell 7 (v := .int .i64 0) rfl
  have e8 := hy.cell 8 (v := .int .i64 0) rfl
  have e9 := hy.cell 9 (v := .int .i64 0) rfl
  have e10 := hy.cell 10 (v := .int .i64 0) rfl
  have e11 := hy.cell 11 (v := .int .i64 0) rfl
  have e12 := hy.cell 12 (v := .slice (some ⟨g1, 0, none⟩) 0 c1) rfl
  have e13 := hy.cell 13 (v := .slice (some ⟨g2, 0, none⟩) 0 c2) rfl
  have e14 := hy.cell 14 (v := .int .i64 0) rfl
  have e15 := hy.cell 15 (v := .slice (some ⟨g3, 0, none⟩) l.length c3) rfl
  have e16 := hy.cell 16 (v := .slice (some ⟨g4, 0, none⟩) 0 c4) rfl
  clear hpre t5 s1 s2 s4 r3 hr5 hns
  go_wp2_with (go_at_call 9; fail)
  refine (num_any _ _).mono ?_; rintro e w' ⟨rfl, rfl⟩
  go_wp2_with (go_at_call 9; fail)
  refine (num_any _ _).mono ?_; rintro e w' ⟨rfl, rfl⟩
  go_wp2_with (go_at_call 10; fail)
  refine (sameSteps_any v3 v1 (pathR s).1 _ (by omega) rd3 rd1).mono ?_; rintro e w' ⟨rfl, nq, rfl⟩
  go_wp2_with (go_at_call 10; fail)
  refine (sameSteps_any v4 v1 (pathR s).1 _ (by omega) (by exact rd4) (by exact rd1)).mono ?_; rintro e w' ⟨rfl, nq2, rfl⟩
  go_wp2_with (go_at_call 9; fail)
  refine (num_any _ _).mono ?_; rintro e w' ⟨rfl, rfl⟩
  go_wp2_with (go_at_call 9; fail)
  refine (num_any _ _).mono ?_; rintro e w' ⟨rfl, rfl⟩
  go_wp2_with (go_at_call 11; fail)
  clear e0 e1 e2 e3 e4 e5 e6 e7 e8 e9 e10 e11 e12 e13 e14 e15 e16
  refine (kept_any g1 c1 g2 c2 g3 c3 g4 c4 A cap l _ hl (by exact hr6) h1 m1 (by exact s1') h2 m2 (by exact s2') h3 m3 (by exact r3') h4 m4 (by exact s4')).mono ?_; rintro e w7 ⟨rfl, b7⟩
  have b7' : Below w6.heap.size w6 w7 := ⟨b7.os, b7.tape, b7.output, b7.size, b7.block⟩
  have row1'' := row_below (row_below row1' b6') b7'
  have row3'' := row_below (row_below row3' b6') b7'
  have row4'' := row_below (row_below row4' b6') b7'
  have z6 := b6'.size
  have z7 := b7'.size
  have bb7 : Below w.heap.size w w7 := (bb.trans (b6'.mono (by omega))).trans (b7'.mono (by omega))
  clear rd1 rd3 rd4 hr6 s1' s2' s4' r3' b7 b6 b7' row1' row3' row4' hy bb m1 m2 m3 m4 h1 h2 h3 h4
  go_upto_block 0 with (fail)
  go_cut [19] (fun i wx => w7.grownBy wx v3.ownBlock)
  case first =>
    rcases row3''.2 with ⟨hv3, hn⟩ | ⟨g, cp, cur, hv3, hg, hh, hnc, hcm, hcs, htake⟩
    · subst hv3
      go_wp2
      refine wp_loop_rounds 1 ?_
      rw [rounds_succ]
      go_wp2
      go_meet
      case rel => exact World.grownBy.refl _ _
    · subst hv3
      clear row3'' htake
      go_wp2
      go_loopw [19] (fun i wx => ∃ (k : Nat) (cu : Array Value), i = .int .i64 k ∧ k ≤ (pathR s).1.length ∧ Blk wx g cu 46 ∧ cu.size = cp * 2 ∧ w7.grownBy wx (some g)) (fun i _ => (pathR s).1.length - (intOf i).toNat)
      case atStart => exact ⟨0, cur, rfl, Nat.zero_le _, hh, hcs, World.grownBy.refl _ _⟩
      case round =>
        obtain ⟨k, cu, rfl, hk, hB, hcu, hgr⟩ := hrel
        by_cases hlt : k < (pathR s).1.length
        · have hs1 : k * 2 + 1 < cu.size := by omega
          have c0 : wr.cell? ⟨g, k * 2, none⟩ = some cu[k * 2] := hB.cell _ (Array.getElem?_eq_getElem _)
          have c1 : wr.cell? ⟨g, k * 2 + 1, none⟩ = some cu[k * 2 + 1] := hB.cell _ (Array.getElem?_eq_getElem _)
          have f0 := hB.free (k * 2)
          have f1 := hB.free (k * 2 + 1)
          go_wp2
          go_roundw
          case rel => exact ⟨k + 1, _, by go_num, by omega, (hB.set _ _).set _ _, by simp; exact hcu, grown_set (grown_set hgr _ _) _ _⟩
          case measure => simp [intOf]; omega
        · have hkn : (k : Int) = ((pathR s).1.length : Nat) := by omega
          clear hB
          go_wp2
          go_meet
          case rel => exact hgr
  case rest =>
    have bb8 : Below w.heap.size w wc := bb7.grown hcut bb7.size (fun k hk => by have := L3.out k hk; omega)
    have row1c := row1''.kept hcut (by cases h : v1.ownBlock with | none => exact .inl rfl | some q => right; intro e; have h1 := L1.out q h; have h3 := L3.out q e.symm; omega)
    have row4c := row4''.kept hcut (by cases h : v4.ownBlock with | none => exact .inl rfl | some q => right; intro e; have h4 := L4.out q h; have h3 := L3.out q e.symm; omega)
    clear row1'' row3'' row4'' hcut bb7
    go_upto_region 14 with (go_at_call 6; refine (path_any s _ hm).mono ?_; rintro e w8 ⟨v8, rfl, row8, b8⟩)
    have rd1 := Reads.of_row (row_below row1c b8)
    have rd4 := Reads.of_row (row_below row4c b8)
    have rd8 := Reads.of_row row8
    have bb9 := bb8.trans (b8.mono bb8.size)
    go_wp2_with (go_at_call 10; fail)
    refine (sameSteps_any v4 v1 (pathR s).1 _ (by omega) rd4 rd1).mono ?_; rintro e w' ⟨rfl, nq, rfl⟩
    go_wp2_with (go_at_call 10; fail)
    refine (sameSteps_any v8 v1 (pathR s).1 _ (by omega) (by exact rd8) (by exact rd1)).mono ?_; rintro e w' ⟨rfl, nq2, rfl⟩
    go_wp2
    go_ret
    exact ⟨rfl, by first | exact below_drewN bb9 _ | exact below_drewN (below_drewN bb9 _) _⟩
end Go.Proofs.YtcljfgbcfebnfaaDoor.Lk
