/-
  Walks: own, at a path that is not nil.
-/
import Derived.Test.YtcljfgbcfebnfaaDoorLookOwn
namespace Go.Proofs.YtcljfgbcfebnfaaDoor.Lk
open Go.RowKit Go.Proofs.YtcljfgbcfebnfaaDoor.Kt
set_option linter.unusedSimpArgs false
set_option linter.unusedVariables false

set_option maxRecDepth 100000 in
set_option maxHeartbeats 3200000 in
theorem own_some (ad : Addr) (cap : Nat) (l : List Step) (w : World) (hl : l.length ≤ 1048576) (hsrc : ∀ j u, (cellsOf l)[j]? = some u → w.cell? (ad.add j) = some u) : Calls Tryd.prog 7 #[.agg #[.int .i64 0, .int .i64 0, .int .i64 0, .int .i64 0, .int .i64 0, .int .i64 0, .int .i64 0, .int .i64 0, .int .i64 0, .int .i64 0, .int .i64 0, .int .i64 0, .slice none 0 0, .slice none 0 0, .int .i64 0, .slice (some ad) l.length cap, .slice none 0 0]] w (OwnPost l w) := by
  obtain ⟨i1, hi1, hz10, hz11, hz12⟩ := info_parts infoTok
  obtain ⟨i2, hi2, hz20, hz21, hz22⟩ := info_parts infoByte
  obtain ⟨i3, hi3, hz30, hz31, hz32⟩ := info_parts infoStep2
  obtain ⟨i4, hi4, hz40, hz41, hz42⟩ := info_parts infoWord
  go_enter Tryd.func7, Tryd.ntmps7
  go_upto_region 3 with (at_builtin; refine wpList_append_own_none rfl _ _ 34 rfl (w.heap.size + 2) 62 i1 21 Tryd.underlying34 hi1 (.slice none 0 0) 0 [] rfl (World.ownsRow_nil _ _ _ _) rfl ?_)
  have hbox0 : Blk ((w.alloc (.cells #[.int .i64 0, .int .i64 0, .int .i64 0, .int .i64 0, .int .i64 0, .int .i64 0, .int .i64 0, .int .i64 0, .int .i64 0, .int .i64 0, .int .i64 0, .int .i64 0, .slice none 0 0, .slice none 0 0, .int .i64 0, .slice (some ad) l.length cap, .slice none 0 0] 40)).alloc (.cells #[.int .i64 0, .int .i64 0, .int .i64 0, .int .i64 0, .int .i64 0, .int .i64 0, .int .i64 0, .int .i64 0, .int .i64 0, .int .i64 0, .int .i64 0, .int .i64 0, .slice none 0 0, .slice none 0 0, .int .i64 0, .slice none 0 0, .slice none 0 0] 40)) w.heap.size #[.int .i64 0, .int .i64 0, .int .i64 0, .int .i64 0, .int .i64 0, .int .i64 0, .int .i64 0, .int .i64 0, .int .i64 0, .int .i64 0, .int .i64 0, .int .i64 0, .slice none 0 0, .slice none 0 0, .int .i64 0, .slice (some ad) l.length cap, .slice none 0 0] 40 := (Blk.new _ _ _).alloc _
  have hres0 : Blk ((w.alloc (.cells #[.int .i64 0, .int .i64 0, .int .i64 0, .int .i64 0, .int .i64 0, .int .i64 0, .int .i64 0, .int .i64 0, .int .i64 0, .int .i64 0, .int .i64 0, .int .i64 0, .slice none 0 0, .slice none 0 0, .int .i64 0, .slice (some ad) l.length cap, .slice none 0 0] 40)).alloc (.cells #[.int .i64 0, .int .i64 0, .int .i64 0, .int .i64 0, .int .i64 0, .int .i64 0, .int .i64 0, .int .i64 0, .int .i64 0, .int .i64 0, .int .i64 0, .int .i64 0, .slice none 0 0, .slice none 0 0, .int .i64 0, .slice none 0 0, .slice none 0 0] 40)) (w.heap.size + 1) #[.int .i64 0, .int .i64 0, .int .i64 0, .int .i64 0, .int .i64 0, .int .i64 0, .int .i64 0, .int .i64 0, .int .i64 0, .int .i64 0, .int .i64 0, .int .i64 0, .slice none 0 0, .slice none 0 0, .int .i64 0, .slice none 0 0, .slice none 0 0] 40 := by
    have h := Blk.new (w.alloc (.cells #[.int .i64 0, .int .i64 0, .int .i64 0, .int .i64 0, .int .i64 0, .int .i64 0, .int .i64 0, .int .i64 0, .int .i64 0, .int .i64 0, .int .i64 0, .int .i64 0, .slice none 0 0, .slice none 0 0, .int .i64 0, .slice (some ad) l.length cap, .slice none 0 0] 40)) #[.int .i64 0, .int .i64 0, .int .i64 0, .int .i64 0, .int .i64 0, .int .i64 0, .int .i64 0, .int .i64 0, .int .i64 0, .int .i64 0, .int .i64 0, .int .i64 0, .slice none 0 0, .slice none 0 0, .int .i64 0, .slice none 0 0, .slice none 0 0] 40
    simpa using h
  have hbel0 : Below w.heap.size w ((w.alloc (.cells #[.int .i64 0, .int .i64 0, .int .i64 0, .int .i64 0, .int .i64 0, .int .i64 0, .int .i64 0, .int .i64 0, .int .i64 0, .int .i64 0, .int .i64 0, .int .i64 0, .slice none 0 0, .slice none 0 0, .int .i64 0, .slice (some ad) l.length cap, .slice none 0 0] 40)).alloc (.cells #[.int .i64 0, .int .i64 0, .int .i64 0, .int .i64 0, .int .i64 0, .int .i64 0, .int .i64 0, .int .i64 0, .int .i64 0, .int .i64 0, .int .i64 0, .int .i64 0, .slice none 0 0, .slice none 0 0, .int .i64 0, .slice none 0 0, .slice none 0 0] 40)) := ((Below.refl _ _).alloc (Nat.le_refl _) _).alloc (by simp) _
  obtain ⟨w0, hw0⟩ : ∃ w0, w0 = (w.alloc (.cells #[.int .i64 0, .int .i64 0, .int .i64 0, .int .i64 0, .int .i64 0, .int .i64 0, .int .i64 0, .int .i64 0, .int .i64 0, .int .i64 0, .int .i64 0, .int .i64 0, .slice none 0 0, .slice none 0 0, .int .i64 0, .slice (some ad) l.length cap, .slice none 0 0] 40)).alloc (.cells #[.int .i64 0, .int .i64 0, .int .i64 0, .int .i64 0, .int .i64 0, .int .i64 0, .int .i64 0, .int .i64 0, .int .i64 0, .int .i64 0, .int .i64 0, .int .i64 0, .slice none 0 0, .slice none 0 0, .int .i64 0, .slice none 0 0, .slice none 0 0] 40) := ⟨_, rfl⟩
  rw [← hw0] at hbox0 hres0 hbel0
  have hz : w.heap.size + 2 ≤ w0.heap.size := by rw [hw0]; simp
  rw [← hw0]
  clear hw0
  go_wp2_with (at_builtin; refine wpList_append_own _ rfl _ _ 34 rfl (w.heap.size + 2) 62 i1 (.agg #[(.int .i64 0), (.string ⟨#[]⟩), (.int .i64 0), (.int .i64 0), (.int .i64 0), (.int .i64 0), (.int .i64 0), (.int .i64 0), (.int .i64 0), (.int .u64 0), (.int .u64 0), (.int .u64 0), (.slice none 0 0), (.int .u64 0), (.int .i64 0), (.int .i64 0), (.int .i64 0), (.int .i64 0), (.int .i64 0), (.int .i64 0), (.int .i64 0)]) 21 192 Tryd.underlying34 hi1 hz10 hz11 hz12 rfl (by decide) (.slice none 0 0) 0 [] rfl (World.ownsRow_nil _ _ _ _) ⟨w0.heap.size, 0, none⟩ 1 1 [.int .i64 0, .string ⟨#[115, 112, 97, 114, 101]⟩, .int .i64 0, .int .i64 0, .int .i64 0, .int .i64 0, .int .i64 0, .int .i64 0, .int .i64 0, .int .u64 0, .int .u64 0, .int .u64 0, .slice none 0 0, .int .u64 0, .int .i64 0, .int .i64 0, .int .i64 0, .int .i64 0, .int .i64 0, .int .i64 0, .int .i64 0] rfl rfl ?c1 ?c2 ?c3 ?c4 ?c5 ?_)
  case c1 => exact new_cells w0 [.int .i64 0, .string ⟨#[115, 112, 97, 114, 101]⟩, .int .i64 0, .int .i64 0, .int .i64 0, .int .i64 0, .int .i64 0, .int .i64 0, .int .i64 0, .int .u64 0, .int .u64 0, .int .u64 0, .slice none 0 0, .int .u64 0, .int .i64 0, .int .i64 0, .int .i64 0, .int .i64 0, .int .i64 0, .int .i64 0, .int .i64 0] _
  case c2 => exact List.all_eq_true.1 rfl
  case c3 => unfold maxLen; omega
  case c4 => omega
  case c5 => simp; omega
  intro v1 w1 own1 gr1 _
  obtain ⟨g1, c1, hv1, hg1, hgl1, hnc1, hcm1, hc1⟩ := row_shape own1 (by decide)
  subst hv1
  have hbox1 := (hbox0.alloc _).grown gr1 (by simp [Value.ownBlock])
  have hres1 := (hres0.alloc _).grown gr1 (by simp [Value.ownBlock])
  have hbel1 : Below w.heap.size w w1 := (hbel0.alloc hbel0.size _).grown gr1 (by have := hbel0.size; simp; try omega) (fun j hj => by simp [Value.ownBlock] at hj)
  have hz1 : w0.heap.size ≤ w1.heap.size := by have := gr1.size; first | omega | (simp at this; omega)
  have s1_1 : w1.cell? ⟨g1, 1, none⟩ = some (.string ⟨#[115, 112, 97, 114, 101]⟩) := hc1 1 _ rfl
  clear hc1 own1 hbox0 hres0 hbel0
  have d13 : w1.cell? ⟨w.heap.size, 13, none⟩ = some (.slice none 0 0) := hbox1.cell 13 rfl
  clear gr1
  go_upto_region 6 with (at_builtin; refine wpList_append_own_none rfl _ _ 37 rfl (w.heap.size + 2) 5 i2 1 Tryd.underlying37 hi2 (.slice none 0 0) 0 [] rfl (World.ownsRow_nil _ _ _ _) rfl ?_)
  clear d13
  go_wp2_with (at_builtin; refine wpList_append_own _ rfl _ _ 37 rfl (w.heap.size + 2) 5 i2 (.int .u8 0) 1 1 Tryd.underlying37 hi2 hz20 hz21 hz22 rfl (by decide) (.slice none 0 0) 0 [] rfl (World.ownsRow_nil _ _ _ _) ⟨w1.heap.size, 0, none⟩ 1 1 [.int .u8 201] rfl rfl ?c1 ?c2 ?c3 ?c4 ?c5 ?_)
  case c1 => exact new_cells w1 [.int .u8 201] _
  case c2 => exact List.all_eq_true.1 rfl
  case c3 => unfold maxLen; omega
  case c4 => omega
  case c5 => simp; omega
  intro v2 w2 own2 gr2 _
  obtain ⟨g2, c2, hv2, hg2, hgl2, hnc2, hcm2, hc2⟩ := row_shape own2 (by decide)
  subst hv2
  have hbox2 := (hbox1.alloc _).grown gr2 (by simp [Value.ownBlock])
  have hres2 := (hres1.alloc _).grown gr2 (by simp [Value.ownBlock])
  have hbel2 : Below w.heap.size w w2 := (hbel1.alloc hbel1.size _).grown gr2 (by have := hbel1.size; simp; try omega) (fun j hj => by simp [Value.ownBlock] at hj)
  have hz2 : w1.heap.size ≤ w2.heap.size := by have := gr2.size; first | omega | (simp at this; omega)
  have s1_2 : w2.cell? ⟨g1, 1, none⟩ = some (.string ⟨#[115, 112, 97, 114, 101]⟩) := World.grownBy.cell gr2 (cell_later ((Below.refl _ _).alloc (Nat.le_refl _) _) s1_1) (by simp [Value.ownBlock])
  have s2_2 : w2.cell? ⟨g2, 0, none⟩ = some (.int .u8 201) := hc2 0 _ rfl
  clear hc2 own2 hbox1 hres1 hbel1 s1_1
  have d15 : w2.cell? ⟨w.heap.size, 15, none⟩ = some (.slice (some ad) l.length cap) := hbox2.cell 15 rfl
  clear gr2
  go_upto_region 8 with (fail)
  go_wp2_with (at_builtin; refine wpList_append_own_at _ rfl _ _ 22 rfl (w.heap.size + 2) 46 i3 (.agg #[.string ⟨#[]⟩, .int .i64 0]) 2 24 Tryd.underlying22 hi3 hz30 hz31 hz32 rfl (by decide) (.slice none 0 0) 0 [] rfl (World.ownsRow_nil _ _ _ _) ad l.length cap (cellsOf l) rfl (cellsOf_length l) ?c1 ?c2 ?c3 ?c4 ?c5 ?_)
  case c1 => exact fun j u hu => cell_later hbel2 (hsrc j u hu)
  case c2 => exact cellsOf_one l
  case c3 => unfold maxLen; omega
  case c4 => omega
  case c5 => omega
  intro v3 w3 own3 gr3 _ hat3
  clear d15
  have hbox3 := hbox2.grown gr3 (by simp [Value.ownBlock])
  have hres3 := hres2.grown gr3 (by simp [Value.ownBlock])
  have hbel3 : Below w.heap.size w w3 := hbel2.grown gr3 (by have := hbel2.size; simp; try omega) (fun j hj => by simp [Value.ownBlock] at hj)
  have hz3 : w2.heap.size ≤ w3.heap.size := by have := gr3.size; first | omega | (simp at this; omega)
  have s1_3 : w3.cell? ⟨g1, 1, none⟩ = some (.string ⟨#[115, 112, 97, 114, 101]⟩) := World.grownBy.cell gr3 s1_2 (by simp [Value.ownBlock])
  have s2_3 : w3.cell? ⟨g2, 0, none⟩ = some (.int .u8 201) := World.grownBy.cell gr3 s2_2 (by simp [Value.ownBlock])
  clear hbox2 hres2 hbel2 s1_2 s2_2 gr3
  have ne3 : ∀ k, k < w2.heap.size → some k ≠ v3.ownBlock := fun k hk e => by rcases hat3 with h | h <;> rw [h] at e <;> simp [Value.ownBlock] at e; omega
  clear hat3
  go_wp2_with (at_builtin; refine wpList_append_own _ rfl _ _ 22 rfl (w.heap.size + 2) 46 i3 (.agg #[.string ⟨#[]⟩, .int .i64 0]) 2 24 Tryd.underlying22 hi3 hz30 hz31 hz32 rfl (by decide) v3 l.length (cellsOf l) rfl (own3.alloc _) ⟨w3.heap.size, 0, none⟩ 1 1 [.string ⟨#[115, 112, 97, 114, 101]⟩, .int .i64 0] rfl rfl ?c1 ?c2 ?c3 ?c4 ?c5 ?_)
  case c1 => exact new_cells w3 [.string ⟨#[115, 112, 97, 114, 101]⟩, .int .i64 0] _
  case c2 => exact List.all_eq_true.1 rfl
  case c3 => unfold maxLen; omega
  case c4 => omega
  case c5 => simp; omega
  intro v4 w4 own4 gr4 _
  obtain ⟨g3, c3, hv4, hg3, hgl3, hnc3, hcm3, hc3⟩ := row_shape own4 (by omega)
  subst hv4
  have hbox4 := (hbox3.alloc _).grown gr4 (ne3 w.heap.size (by omega))
  have hres4 := (hres3.alloc _).grown gr4 (ne3 (w.heap.size + 1) (by omega))
  have hbel4 : Below w.heap.size w w4 := (hbel3.alloc hbel3.size _).grown gr4 (by have := hbel3.size; simp; try omega) (fun j hj => by have := (own3.lt j hj).1; omega)
  have hz4 : w3.heap.size ≤ w4.heap.size := by have := gr4.size; first | omega | (simp at this; omega)
  have s1_4 : w4.cell? ⟨g1, 1, none⟩ = some (.string ⟨#[115, 112, 97, 114, 101]⟩) := World.grownBy.cell gr4 (cell_later ((Below.refl _ _).alloc (Nat.le_refl _) _) s1_3) (ne3 g1 (by omega))
  have s2_4 : w4.cell? ⟨g2, 0, none⟩ = some (.int .u8 201) := World.grownBy.cell gr4 (cell_later ((Below.refl _ _).alloc (Nat.le_refl _) _) s2_3) (ne3 g2 (by omega))
  have r4 : ReadsAt w4 g3 0 (l ++ [(⟨#[115, 112, 97, 114, 101]⟩, 0)]) := fun i hi => by
    have e : cellsOf l ++ [.string ⟨#[115, 112, 97, 114, 101]⟩, .int .i64 0] = cellsOf (l ++ [(⟨#[115, 112, 97, 114, 101]⟩, 0)]) := by rw [cellsOf_append]; rfl
    rw [e] at hc3
    exact ⟨by rw [Nat.zero_add, Nat.mul_comm]; exact hc3 _ _ (cellsOf_name hi), by rw [Nat.zero_add, Nat.mul_comm]; exact hc3 _ _ (cellsOf_entry hi)⟩
  clear hc3 own4 hbox3 hres3 hbel3 s1_3 s2_3 gr4 own3 ne3
  have d16 : w4.cell? ⟨w.heap.size, 16, none⟩ = some (.slice none 0 0) := hbox4.cell 16 rfl
  go_upto_region 12 with (at_builtin; refine wpList_append_own_none rfl _ _ 38 rfl (w.heap.size + 2) 60 i4 1 Tryd.underlying38 hi4 (.slice none 0 0) 0 [] rfl (World.ownsRow_nil _ _ _ _) rfl ?_)
  clear d16
  go_wp2_with (at_builtin; refine wpList_append_own _ rfl _ _ 38 rfl (w.heap.size + 2) 60 i4 (.int .u64 0) 1 8 Tryd.underlying38 hi4 hz40 hz41 hz42 rfl (by decide) (.slice none 0 0) 0 [] rfl (World.ownsRow_nil _ _ _ _) ⟨w4.heap.size, 0, none⟩ 1 1 [.int .u64 77] rfl rfl ?c1 ?c2 ?c3 ?c4 ?c5 ?_)
  case c1 => exact new_cells w4 [.int .u64 77] _
  case c2 => exact List.all_eq_true.1 rfl
  case c3 => unfold maxLen; omega
  case c4 => omega
  case c5 => simp; omega
  intro v5 w5 own5 gr5 _
  obtain ⟨g4, c4, hv5, hg4, hgl4, hnc4, hcm4, hc4⟩ := row_shape own5 (by decide)
  subst hv5
  have hbox5 := (hbox4.alloc _).grown gr5 (by simp [Value.ownBlock])
  have hres5 := (hres4.alloc _).grown gr5 (by simp [Value.ownBlock])
  have hbel5 : Below w.heap.size w w5 := (hbel4.alloc hbel4.size _).grown gr5 (by have := hbel4.size; simp; try omega) (fun j hj => by simp [Value.ownBlock] at hj)
  have hz5 : w4.heap.size ≤ w5.heap.size := by have := gr5.size; first | omega | (simp at this; omega)
  have s1_5 : w5.cell? ⟨g1, 1, none⟩ = some (.string ⟨#[115, 112, 97, 114, 101]⟩) := World.grownBy.cell gr5 (cell_later ((Below.refl _ _).alloc (Nat.le_refl _) _) s1_4) (by simp [Value.ownBlock])
  have s2_5 : w5.cell? ⟨g2, 0, none⟩ = some (.int .u8 201) := World.grownBy.cell gr5 (cell_later ((Below.refl _ _).alloc (Nat.le_refl _) _) s2_4) (by simp [Value.ownBlock])
  have s4_5 : w5.cell? ⟨g4, 0, none⟩ = some (.int .u64 77) := hc4 0 _ rfl
  have r5 := r4.below (w' := w5) (((Below.refl _ _).alloc (Nat.le_refl _) _).trans (below_grown gr5 |>.mono (by simp)))
  clear hc4 own5 hbox4 hres4 hbel4 s1_4 s2_4 gr5 r4 hi1 hi2 hi3 hi4 hz10 hz11 hz12 hz20 hz21 hz22 hz30 hz31 hz32 hz40 hz41 hz42
  have hlt5 : w.heap.size < w5.heap.size := by omega
  have hlt6 : w.heap.size + 1 < w5.heap.size := by omega
  have b12 := hbox5.cell 12 (v := .slice none 0 0) rfl
  have b13 := hbox5.cell 13 (v := .slice none 0 0) rfl
  have b15 := hbox5.cell 15 (v := .slice (some ad) l.length cap) rfl
  have b16 := hbox5.cell 16 (v := .slice none 0 0) rfl
  go_upto_region 14 with (first
    | (refine wpList_load_row rfl 40 (.tmp 1) rfl w.heap.size rfl 40 #[.int .i64 0, .int .i64 0, .int .i64 0, .int .i64 0, .int .i64 0, .int .i64 0, .int .i64 0, .int .i64 0, .int .i64 0, .int .i64 0, .int .i64 0, .int .i64 0, .slice none 0 0, .slice none 0 0, .int .i64 0, .slice (some ad) l.length cap, .slice none 0 0] (0, 0) _ hbox5 Tryd.underlying40 rfl infoAsked ?_)
    | (refine wpList_store_row rfl 40 (.tmp 7) (.tmp 39) rfl w5.heap.size #[.int .i64 0, .int .i64 0, .int .i64 0, .int .i64 0, .int .i64 0, .int .i64 0, .int .i64 0, .int .i64 0, .int .i64 0, .int .i64 0, .int .i64 0, .int .i64 0, .slice none 0 0, .slice none 0 0, .int .i64 0, .slice (some ad) l.length cap, .slice none 0 0] rfl rfl 40 #[.int .i64 0, .int .i64 0, .int .i64 0, .int .i64 0, .int .i64 0, .int .i64 0, .int .i64 0, .int .i64 0, .int .i64 0, .int .i64 0, .int .i64 0, .int .i64 0, .slice none 0 0, .slice none 0 0, .int .i64 0, .slice none 0 0, .slice none 0 0] (heap_alloc_new _ _) infoAsked rfl rfl ?_; rw [World.setRow_alloc_new]))
  have hall : Hid (Array.all (#[.int .i64 0, .int .i64 0, .int .i64 0, .int .i64 0, .int .i64 0, .int .i64 0, .int .i64 0, .int .i64 0, .int .i64 0, .int .i64 0, .int .i64 0, .int .i64 0, .slice (some ⟨g1, 0, none⟩) 0 c1, .slice (some ⟨g2, 0, none⟩) 0 c2, .int .i64 0, .slice (some ⟨g3, 0, none⟩) l.length c3, .slice (some ⟨g4, 0, none⟩) 0 c4] : Array Value) (·.oneCell') = true) := by unfold Hid; simp [Value.oneCell']
  go_upto_region 18 with (fail)
  clear b12 b13 b15 b16
  go_wp2_with (first
    | (refine wpList_load_row rfl 40 (.tmp 7) rfl w5.heap.size rfl 40 #[.int .i64 0, .int .i64 0, .int .i64 0, .int .i64 0, .int .i64 0, .int .i64 0, .int .i64 0, .int .i64 0, .int .i64 0, .int .i64 0, .int .i64 0, .int .i64 0, .slice (some ⟨g1, 0, none⟩) 0 c1, .slice (some ⟨g2, 0, none⟩) 0 c2, .int .i64 0, .slice (some ⟨g3, 0, none⟩) l.length c3, .slice (some ⟨g4, 0, none⟩) 0 c4] (0, 0) _ (heap_alloc_new _ _) Tryd.underlying40 rfl infoAsked ?_)
    | (go_loud (refine wpList_store_row rfl 40 (.tmp 2) (.tmp 66) rfl (w.heap.size + 1) #[.int .i64 0, .int .i64 0, .int .i64 0, .int .i64 0, .int .i64 0, .int .i64 0, .int .i64 0, .int .i64 0, .int .i64 0, .int .i64 0, .int .i64 0, .int .i64 0, .slice (some ⟨g1, 0, none⟩) 0 c1, .slice (some ⟨g2, 0, none⟩) 0 c2, .int .i64 0, .slice (some ⟨g3, 0, none⟩) l.length c3, .slice (some ⟨g4, 0, none⟩) 0 c4] rfl rfl 40 #[.int .i64 0, .int .i64 0, .int .i64 0, .int .i64 0, .int .i64 0, .int .i64 0, .int .i64 0, .int .i64 0, .int .i64 0, .int .i64 0, .int .i64 0, .int .i64 0, .slice none 0 0, .slice none 0 0, .int .i64 0, .slice none 0 0, .slice none 0 0] (Blk.alloc hres5 _) infoAsked rfl hall.out ?_)))
  have hfin := blk_setRow (Blk.alloc hres5 (.cells #[.int .i64 0, .int .i64 0, .int .i64 0, .int .i64 0, .int .i64 0, .int .i64 0, .int .i64 0, .int .i64 0, .int .i64 0, .int .i64 0, .int .i64 0, .int .i64 0, .slice (some ⟨g1, 0, none⟩) 0 c1, .slice (some ⟨g2, 0, none⟩) 0 c2, .int .i64 0, .slice (some ⟨g3, 0, none⟩) l.length c3, .slice (some ⟨g4, 0, none⟩) 0 c4] 40)) #[.int .i64 0, .int .i64 0, .int .i64 0, .int .i64 0, .int .i64 0, .int .i64 0, .int .i64 0, .int .i64 0, .int .i64 0, .int .i64 0, .int .i64 0, .int .i64 0, .slice (some ⟨g1, 0, none⟩) 0 c1, .slice (some ⟨g2, 0, none⟩) 0 c2, .int .i64 0, .slice (some ⟨g3, 0, none⟩) l.length c3, .slice (some ⟨g4, 0, none⟩) 0 c4]
  refine ret_cell2 _ _ rfl rfl hfin rfl ?_
  clear hfin
  refine ⟨g1, c1, g2, c2, g3, c3, g4, c4, rfl, ⟨hnc1, hcm1, ?_⟩, ⟨hnc2, hcm2, ?_⟩, ⟨hnc3, hcm3, ?_⟩, ⟨hnc4, hcm4, ?_⟩, ?_⟩
  · exact far_row (by omega) (by omega) s1_5
  · exact far_row (by omega) (by omega) s2_5
  · exact fun i hi => ⟨far_row (by omega) (by omega) (r5 i hi).1, far_row (by omega) (by omega) (r5 i hi).2⟩
  · exact far_row (by omega) (by omega) s4_5
  · exact below_setRow (hbel5.alloc (by have := hbel5.size; omega) _) (by omega) _
end Go.Proofs.YtcljfgbcfebnfaaDoor.Lk
