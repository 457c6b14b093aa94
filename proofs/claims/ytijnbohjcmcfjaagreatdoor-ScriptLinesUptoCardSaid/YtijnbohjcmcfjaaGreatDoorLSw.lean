/-
  Walks: package script's reader of a line: what follows a name.
-/
import Derived.Test.YtijnbohjcmcfjaaGreatDoorLSk
namespace Go.Proofs.YtijnbohjcmcfjaaGreatDoor.Sc
open Go.RowKit Go.Proofs.YtijnbohjcmcfjaaGreatDoor.Kt Go.Proofs.YtijnbohjcmcfjaaGreatDoor.Lk Go.Proofs.YtijnbohjcmcfjaaGreatDoor.Sp Go.Proofs.YtijnbohjcmcfjaaGreatDoor.Rw Go.Proofs.YtijnbohjcmcfjaaGreatDoor.Rg
open Go.Proofs.YtijnbohjcmcfjaaGreatDoor.Nu (dgt Sizes isInt pwOf)
set_option linter.unusedSimpArgs false
set_option linter.unusedVariables false
set_option maxRecDepth 100000

/-- the library's table of the powers of ten -/
def Tab (w : World) : Prop := Lib.TabIs Tryz.prog w "internal/strconv.uint64pow10" .u64 Lib.pow10Tab
theorem gTab : Tryz.prog.globalNamed "internal/strconv.uint64pow10" = some 0 := by kernel_rfl
theorem Tab.lt {w : World} (h : Tab w) : 0 < w.heap.size := World.block_lt_of_cell? w _ (Lib.TabIs.cell h gTab 0 (by decide))
theorem Tab.below {w w' : World} (h : Tab w) (hb : Below w.heap.size w w') : Tab w' := var?_below hb gTab h.lt h
theorem EnvS.below {w w' : World} (h : EnvS w) (hb : Below w.heap.size w w') : EnvS w' := by
  obtain ⟨m, hm⟩ := h.most
  exact ⟨h.sizes.below hb, ⟨m, cell_later hb hm⟩, Tab.below h.tab hb⟩
/-- a row that is the one of before, or lies in new memory -/
def Fresh (v v' : Value) (w : World) : Prop := v'.ownBlock = none ∨ v'.ownBlock = v.ownBlock ∨ ∃ q, v'.ownBlock = some q ∧ w.heap.size ≤ q
/-- how a part of a line was read: the answer e is a fault, the reader stands behind it -/
def Told (F : CallP × Nat × Nat) (g : Nat) (s : ByteArray) (base : Nat) (v : Value) (w : World) (e : Ending) (w' : World) : Prop :=
  ∃ (err p k' : Nat) (c' : CallP) (v' : Value), e = .returned (.agg #[.int .i64 (err : Int), .int .i64 (p : Int)]) ∧ RV base g s k' c' v' w' ∧ k' ≤ s.size ∧ w.grownBy w' (some g) ∧ Fresh v v' w ∧
    (err ≠ 0 → F = (CallP.none, err, p)) ∧ (err = 0 → F = tailF s k' c')
variable {base g k : Nat} {s : ByteArray} {c : CallP} {v : Value} {w w0 : World}

/-- a store elsewhere -/
theorem RV.other1 (h : RV base g s k c v w) {f i : Nat} (hne : ¬ g = f) (hf : v.ownBlock ≠ some f) (u : Value) : RV base g s k c v (w.setCell ⟨f, i, none⟩ u) :=
  ⟨h.ge, h.blk.other ⟨f, i, none⟩ hne u, own_set h.own hf, h.ne⟩
theorem sub_field (s : ByteArray) (k : Nat) : (sub s k (fieldE s k)).size ≤ s.size := by
  show (s.extract _ _).size ≤ _
  rw [ByteArray.size_extract]; omega
theorem listGo_ok : ∀ (ps : List ByteArray) (a : Nat) (l : List Nat), (listGo ps a l).2.1 = 0 → (listGo ps a l).2.2 = 0
  | [], _, _, _ => rfl
  | c :: r, a, l, h => by
    rw [listGo] at h ⊢
    split at h
    · rename_i h1; exact absurd h h1
    · rename_i h1; rw [if_neg h1]; exact listGo_ok r _ _ h
theorem listF_ok {s : ByteArray} (h : (listF s).2.1 = 0) : (listF s).2.2 = 0 := by
  unfold listF at h ⊢
  split
  · rfl
  · rename_i h0
    rw [if_neg h0] at h
    exact listGo_ok _ _ _ h
theorem listF_at (s : ByteArray) : (listF s).2.2 ≤ s.size := by
  by_cases h : (listF s).2.1 = 0
  · rw [listF_ok h]; exact Nat.zero_le _
  · exact (listF_what s).2.1 h
theorem intF_at (s : ByteArray) (most : Nat) : (intF s most).2.2 ≤ s.size := by
  by_cases h : (intF s most).2.1 = 0
  · have : (intF s most).2.2 = 0 := by
      unfold intF at h ⊢
      split
      · rename_i h0; rw [if_pos h0] at h; simp at h
      · split
        · rfl
        · split <;> rfl
    omega
  · exact (intF_what s most).1 h
set_option maxHeartbeats 1600000 in
theorem words_any (nm : ByteArray) (hv : RV base g s k ⟨0, nm, [], 0, ⟨#[]⟩⟩ v w) (hk : skipE s k = k) (hkl : k ≤ s.size) (hm : s.size ≤ 268435456) (he : EnvS w0) (hbs : w0.heap.size = base) (hb : Below base w0 w) :
    Calls Tryz.prog 40 #[.pointer (some ⟨g, 0, none⟩)] w (Told (restF s 0 nm k) g s base v w) := by
  have hlt := hv.lt
  have HG : Hid (g < w.heap.size) := hv.blk.lt
  have HGE : Hid (base ≤ g) := hv.ge
  have HF : Hid (restF s 0 nm k = if (listF (sub s k (fieldE s k))).2.1 ≠ 0 then (CallP.none, (listF (sub s k (fieldE s k))).2.1, k + (listF (sub s k (fieldE s k))).2.2) else tailF s (fieldE s k) ⟨0, nm, (listF (sub s k (fieldE s k))).1, 0, ⟨#[]⟩⟩) := rfl
  have hfl := fieldE_le s k hkl
  have hsz : (sub s k (fieldE s k)).size ≤ s.size := sub_field s k
  have hat := listF_at (sub s k (fieldE s k))
  have HK : Hid (skipE s k = k) := hk
  clear hk
  go_enter Tryz.func40, Tryz.ntmps40
  go_wp2_with (go_at_call 35; fail)
  refine (field_any (hv.alloc _) hkl hm).mono ?_
  rw [HK.out]
  rintro e w1 ⟨rfl, hv1, hg1⟩
  have HV1 : Hid (RV base g s (fieldE s k) ⟨0, nm, [], 0, ⟨#[]⟩⟩ v w1) := hv1
  have HB1 : Hid (Below base w0 w1) := below_gr (hb.alloc hlt _) hg1 HGE.out (by simp; omega)
  have HF1 : Hid (Blk w1 w.heap.size #[.int .i64 0, .int .i64 0] 45) := blk_kept (Blk.new _ _ _) hg1 (by have := HG.out; omega)
  have HG1 : Hid (w1 = w1 ∧ w.grownBy w1 (some g)) := ⟨rfl, (World.grownBy_alloc _ _ _).trans hg1⟩
  have hs1 : w.heap.size + 1 ≤ w1.heap.size := by have := hg1.size; simpa using this
  clear hv1 hg1 hv hb HK
  generalize hS : sub s k (fieldE s k) = S at hsz hat HF
  generalize fieldE s k = q at hfl HV1 HF
  go_wp2_with (go_at_call 58; fail)
  refine (list_any S _ (by omega) (he.below (hbs ▸ HB1.out))).mono ?_
  rintro e w2 ⟨v2, rfl, ho2, hb2⟩
  generalize hR : listF S = R at hat HF ho2
  obtain ⟨l, er, at'⟩ := R
  dsimp only at hat HF ho2
  obtain ⟨A2, cp2, rfl⟩ := row_is ho2
  have HV2 : Hid (RV base g s q ⟨0, nm, [], 0, ⟨#[]⟩⟩ v w2) := HV1.out.below hb2
  have HO2 : Hid (w2.ownsRow base 30 1 (.slice A2 l.length cp2) l.length (wordsV l)) := own_mono ho2 (by omega)
  have HFR : Hid (Fresh v (.slice A2 l.length cp2) w) := by
    unfold Hid Fresh
    cases ho : (Value.slice A2 l.length cp2).ownBlock with
    | none => exact .inl rfl
    | some q => exact .inr (.inr ⟨q, rfl, by have := (ho2.lt q ho).1; omega⟩)
  have HNE : Hid ((Value.slice A2 l.length cp2).ownBlock ≠ some g) := by
    intro e
    have := (ho2.lt g e).1
    have := HG.out
    omega
  have HNF : Hid ((Value.slice A2 l.length cp2).ownBlock ≠ some w.heap.size) := by
    intro e
    have := (ho2.lt _ e).1
    omega
  have HF2 : Hid (Blk w2 w.heap.size #[.int .i64 0, .int .i64 0] 45) := HF1.out.below hb2 (by omega)
  have HG2 : Hid (w2 = w2 ∧ w.grownBy w2 (some g)) := ⟨rfl, HG1.out.2.trans (grown_below hb2 _)⟩
  have hgn : ¬ g = w.heap.size := by have := HG.out; omega
  have hgn' : ¬ w.heap.size = g := by have := HG.out; omega
  clear ho2 hb2 HB1 HF1 HG1 HV1 he
  have c4 := HV2.out.blk.cell 4 (v := v) rfl
  have f4 := HV2.out.blk.free 4
  have d0 := HF2.out.cell 0 (v := .int .i64 0) rfl
  have d1 := HF2.out.cell 1 (v := .int .i64 0) rfl
  have g0 := HF2.out.free 0
  have g1 := HF2.out.free 1
  go_wp2
  have h1 := HV2.out.words' (.slice A2 l.length cp2) l HO2.out HNE.out
  have h2 := (((HF2.out.other ⟨g, 4, none⟩ hgn' (.slice A2 l.length cp2)).set 0 (.int .i64 (er : Int))).set 1 (.int .i64 ((k : Int) + (at' : Int))))
  refine ret_cellG (cs := #[.int .i64 (er : Int), .int .i64 ((k : Int) + (at' : Int))]) (t := 45) rfl Tryz.underlying45 rfl (by kernel_rfl) rfl rfl h2 ?_
  refine ⟨er, k + at', q, ⟨0, nm, l, 0, ⟨#[]⟩⟩, (.slice A2 l.length cp2), by rw [Int.natCast_add], (h1.other1 hgn HNF.out _).other1 hgn HNF.out _, hfl, ?_, ?_, ?_, ?_⟩
  · exact grown_set_new (grown_set_new (grown_set HG2.out.2 _ _) _ (Nat.le_refl _) _) _ (Nat.le_refl _) _
  · exact HFR.out
  · intro h; rw [HF.out, if_pos h]
  · intro h; rw [HF.out, if_neg (by omega)]

set_option maxHeartbeats 1600000 in
theorem count_any (nm : ByteArray) (hv : RV base g s k ⟨1, nm, [], 0, ⟨#[]⟩⟩ v w) (hk : skipE s k = k) (hkl : k ≤ s.size) (hm : s.size ≤ 268435456) :
    Calls Tryz.prog 41 #[.pointer (some ⟨g, 0, none⟩)] w (Told (restF s 1 nm k) g s base v w) := by
  have HG : Hid (g < w.heap.size) := hv.blk.lt
  have HF : Hid (restF s 1 nm k = if (intF (sub s k (fieldE s k)) 4294967295).2.1 ≠ 0 then (CallP.none, (intF (sub s k (fieldE s k)) 4294967295).2.1, k + (intF (sub s k (fieldE s k)) 4294967295).2.2) else tailF s (fieldE s k) ⟨1, nm, [], (intF (sub s k (fieldE s k)) 4294967295).1, ⟨#[]⟩⟩) := rfl
  have hfl := fieldE_le s k hkl
  have hsz : (sub s k (fieldE s k)).size ≤ s.size := sub_field s k
  have hat := intF_at (sub s k (fieldE s k)) 4294967295
  have HK : Hid (skipE s k = k) := hk
  clear hk
  go_enter Tryz.func41, Tryz.ntmps41
  go_wp2_with (go_at_call 35; fail)
  refine (field_any (hv.alloc _) hkl hm).mono ?_
  rw [HK.out]
  rintro e w1 ⟨rfl, hv1, hg1⟩
  have HV1 : Hid (RV base g s (fieldE s k) ⟨1, nm, [], 0, ⟨#[]⟩⟩ v w1) := hv1
  have HF1 : Hid (Blk w1 w.heap.size #[.int .i64 0, .int .i64 0] 45) := blk_kept (Blk.new _ _ _) hg1 (by have := HG.out; omega)
  have HG1 : Hid (w1 = w1 ∧ w.grownBy w1 (some g)) := ⟨rfl, (World.grownBy_alloc _ _ _).trans hg1⟩
  have hs1 : w.heap.size + 1 ≤ w1.heap.size := by have := hg1.size; simpa using this
  have HNF0 : Hid (v.ownBlock ≠ some w.heap.size) := by
    intro e
    have := (hv.own.lt _ e).2
    omega
  clear hv1 hg1 hv HK
  generalize hS : sub s k (fieldE s k) = S at hsz hat HF
  generalize fieldE s k = q at hfl HV1 HF
  go_wp2_with (go_at_call 59; fail)
  refine (int_any S _ (by omega)).mono ?_
  rintro e w2 ⟨rfl, hb2⟩
  generalize hR : intF S 4294967295 = R at hat HF
  obtain ⟨n, er, at'⟩ := R
  dsimp only at hat HF
  unfold triV
  have HV2 : Hid (RV base g s q ⟨1, nm, [], 0, ⟨#[]⟩⟩ v w2) := HV1.out.below hb2
  have HF2 : Hid (Blk w2 w.heap.size #[.int .i64 0, .int .i64 0] 45) := HF1.out.below hb2 (by omega)
  have HG2 : Hid (w2 = w2 ∧ w.grownBy w2 (some g)) := ⟨rfl, HG1.out.2.trans (grown_below hb2 _)⟩
  have hgn : ¬ g = w.heap.size := by have := HG.out; omega
  have hgn' : ¬ w.heap.size = g := by have := HG.out; omega
  clear hb2 HF1 HG1 HV1
  have c5 := HV2.out.blk.cell 5 (v := .int .i64 0) rfl
  have f5 := HV2.out.blk.free 5
  have d0 := HF2.out.cell 0 (v := .int .i64 0) rfl
  have d1 := HF2.out.cell 1 (v := .int .i64 0) rfl
  have g0 := HF2.out.free 0
  have g1 := HF2.out.free 1
  go_wp2
  have h1 := HV2.out.count' (n : Int)
  have h2 := (((HF2.out.other ⟨g, 5, none⟩ hgn' (.int .i64 (n : Int))).set 0 (.int .i64 (er : Int))).set 1 (.int .i64 ((k : Int) + (at' : Int))))
  refine ret_cellG (cs := #[.int .i64 (er : Int), .int .i64 ((k : Int) + (at' : Int))]) (t := 45) rfl Tryz.underlying45 rfl (by kernel_rfl) rfl rfl h2 ?_
  refine ⟨er, k + at', q, ⟨1, nm, [], (n : Int), ⟨#[]⟩⟩, v, by rw [Int.natCast_add], (h1.other1 hgn HNF0.out _).other1 hgn HNF0.out _, hfl, ?_, ?_, ?_, ?_⟩
  · exact grown_set_new (grown_set_new (grown_set HG2.out.2 _ _) _ (Nat.le_refl _) _) _ (Nat.le_refl _) _
  · exact .inr (.inl rfl)
  · intro h; rw [HF.out, if_pos h]
  · intro h; rw [HF.out, if_neg (by omega)]

theorem sub_rest (s : ByteArray) (k : Nat) : (sub s k s.size).size ≤ s.size - k := by
  show (s.extract _ _).size ≤ _
  rw [ByteArray.size_extract]; omega
/-- what reads the line and the place -/
def CellsT (g : Nat) (s : ByteArray) (k : Nat) (w : World) : Prop := w.cell? ⟨g, 0, none⟩ = some (.string s) ∧ w.cell? ⟨g, 1, none⟩ = some (.int .i64 (k : Int))
set_option maxHeartbeats 3200000 in
theorem text_any (nm : ByteArray) (hv : RV base g s k ⟨3, nm, [], 0, ⟨#[]⟩⟩ v w) (hkl : k ≤ s.size) (hm : s.size ≤ 268435456) :
    Calls Tryz.prog 42 #[.pointer (some ⟨g, 0, none⟩)] w (Told (restF s 3 nm k) g s base v w) := by
  have HG : Hid (g < w.heap.size) := hv.blk.lt
  have HF : Hid (restF s 3 nm k = if (unqF (sub s k s.size)).2.2 ≠ 0 then (CallP.none, (unqF (sub s k s.size)).2.2, k + (unqF (sub s k s.size)).2.1)
    else tailF s (k + (unqF (sub s k s.size)).2.1) ⟨3, nm, [], 0, strOfNums (unqF (sub s k s.size)).1⟩) := rfl
  have hsz : (sub s k s.size).size ≤ s.size - k := sub_rest s k
  have hat := (unqF_what (sub s k s.size)).1
  have HV0 : Hid (RV base g s k ⟨3, nm, [], 0, ⟨#[]⟩⟩ v (w.alloc (.cells #[.int .i64 0, .int .i64 0] 45))) := hv.alloc _
  have HNF0 : Hid (v.ownBlock ≠ some w.heap.size) := by
    intro e
    have := (hv.own.lt _ e).2
    omega
  have hgn : ¬ g = w.heap.size := by have := HG.out; omega
  have hgn' : ¬ w.heap.size = g := by have := HG.out; omega
  clear hv
  go_enter Tryz.func42, Tryz.ntmps42
  go_upto_region 1 with (fail)
  refine wp_region_planS (CellsT g s k) [8] [(some 7, 0), (some 8, 1), (some 9, 2), (some 10, 3), (some 11, 4), (some 12, 5), (some 13, 6), (some 14, 7), (none, 8), (none, 9), (some 6, 10), (some 17, 11), (some 18, 12), (some 19, 13), (none, 14), (none, 15), (none, 16)] (by kernel_rfl) (by kernel_rfl) (fun _ _ d _ _ h => by cases d <;> exact h) ⟨HV0.out.blk.cell 0 rfl, HV0.out.blk.cell 1 rfl⟩ ?_
  repeat (first | (refine planS_pure (v := ?_) (a' := ?_) rfl rfl (by rfl) ?_ ?_ ?_; rotate_left; (intro w'; go_simp; with_reducible rfl); rotate_left; (simp only [Act.put, List.setIfInBounds_toArray, List.set_cons_zero, List.set_cons_succ]; rfl)) | (refine planS_load (v := ?_) (a' := ?_) rfl rfl (by rfl) (by kernel_rfl) ?_ ?_ ?_; rotate_left; (intro w' hS'; obtain ⟨c0, c1⟩ := hS'; go_simp; with_reducible rfl); rotate_left; (simp only [Act.put, List.setIfInBounds_toArray, List.set_cons_zero, List.set_cons_succ]; rfl)))
  refine planS_alone _ _ _ _ _ ?_
  simp only [picks, List.getElem?_cons_succ, List.getElem?_cons_zero]
  go_wp2
  refine ⟨fun h0 => absurd (show pend _ _ = false from by kernel_rfl) (by rw [h0]; simp), ?_⟩
  refine planS_alone _ _ _ _ _ ?_
  simp only [picks, List.getElem?_cons_succ, List.getElem?_cons_zero]
  go_wp2_with (go_at_call 60; fail)
  refine (unquote_any (sub s k s.size) _ (by omega)).mono ?_
  rintro e w1 ⟨he, hb1⟩
  generalize unqF (sub s k s.size) = R at hat HF he
  obtain ⟨out, n, er⟩ := R
  dsimp only at hat HF he
  have HV1 : Hid (RV base g s k ⟨3, nm, [], 0, ⟨#[]⟩⟩ v w1) := (HV0.out.drewN 1).below hb1
  have HF1 : Hid (Blk w1 w.heap.size #[.int .i64 0, .int .i64 0] 45) := ((Blk.new w #[.int .i64 0, .int .i64 0] 45).drewN 1).below hb1 (by simp)
  have HG1 : Hid (w1 = w1 ∧ w.grownBy w1 (some g)) := ⟨rfl, ((grown_drewN (World.grownBy_alloc w _ _) 1)).trans (grown_below hb1 _)⟩
  clear hb1 HV0
  have c1 := HV1.out.blk.cell 1 (v := .int .i64 (k : Int)) rfl
  have d0 := HF1.out.cell 0 (v := .int .i64 0) rfl
  have d1 := HF1.out.cell 1 (v := .int .i64 0) rfl
  have g0 := HF1.out.free 0
  have g1 := HF1.out.free 1
  by_cases h0 : er = 0
  · subst h0
    rw [if_pos rfl] at he
    subst he
    have HT : Hid (restF s 3 nm k = tailF s (k + n) ⟨3, nm, [], 0, strOfNums out⟩) := by unfold Hid; rw [HF.out, if_neg (by simp)]
    have c6 := HV1.out.blk.cell 6 (v := .string ⟨#[]⟩) rfl
    have f6 := HV1.out.blk.free 6
    have f1 := HV1.out.blk.free 1
    go_wp2
    refine ⟨fun h0 => absurd (show pend _ _ = false from by kernel_rfl) (by rw [h0]; simp), ?_⟩
    repeat (refine planS_pure (v := ?_) (a' := ?_) rfl rfl (by rfl) ?_ ?_ ?_; rotate_left; (intro w'; go_simp; with_reducible rfl); rotate_left; (simp only [Act.put, List.setIfInBounds_toArray, List.set_cons_zero, List.set_cons_succ]; rfl))
    refine planS_free _ _ _ _ (by kernel_rfl) rfl ?_
    refine plan_seq _ _ _ rfl ?_
    simp only [picks, List.getElem?_cons_succ, List.getElem?_cons_zero]
    go_wp2
    have h1 := (HV1.out.text' (strOfNums out)).at' (k + n)
    have h2 := ((((HF1.out.other ⟨g, 6, none⟩ hgn' (.string (strOfNums out))).other ⟨g, 1, none⟩ hgn' (.int .i64 ((k + n : Nat) : Int))).set 0 (.int .i64 0)).set 1 (.int .i64 0))
    refine ret_cellG (cs := #[.int .i64 0, .int .i64 0]) (t := 45) rfl Tryz.underlying45 rfl (by kernel_rfl) rfl rfl h2 ?_
    refine ⟨0, 0, k + n, ⟨3, nm, [], 0, strOfNums out⟩, v, rfl, (h1.other1 hgn HNF0.out _).other1 hgn HNF0.out _, by omega, ?_, .inr (.inl rfl), fun h => absurd rfl h, fun _ => HT.out⟩
    exact grown_set_new (grown_set_new (grown_set (grown_set HG1.out.2 _ _) _ _) _ (Nat.le_refl _) _) _ (Nat.le_refl _) _
  · have HT : Hid (restF s 3 nm k = (CallP.none, er, k + n)) := by unfold Hid; rw [HF.out, if_pos h0]
    rw [if_neg h0] at he
    subst he
    have e0 : (((er : Nat) : Int) != 0) = true := by rw [bne_iff_ne]; omega
    have HE : Hid (er ≠ 0) := h0
    clear h0
    go_wp2
    refine ⟨fun h0 => absurd (show pend _ _ = false from by kernel_rfl) (by rw [h0]; simp), ?_⟩
    repeat (refine planS_pure (v := ?_) (a' := ?_) rfl rfl (by rfl) ?_ ?_ ?_; rotate_left; (intro w'; go_simp; with_reducible rfl); rotate_left; (simp only [Act.put, List.setIfInBounds_toArray, List.set_cons_zero, List.set_cons_succ]; rfl))
    refine planS_free _ _ _ _ (by kernel_rfl) rfl ?_
    refine plan_seq _ _ _ rfl ?_
    simp only [picks, List.getElem?_cons_succ, List.getElem?_cons_zero]
    go_wp2
    have h2 := (HF1.out.set 0 (.int .i64 (er : Int))).set 1 (.int .i64 ((k : Int) + (n : Int)))
    refine ret_cellG (cs := #[.int .i64 (er : Int), .int .i64 ((k : Int) + (n : Int))]) (t := 45) rfl Tryz.underlying45 rfl (by kernel_rfl) rfl rfl h2 ?_
    refine ⟨er, k + n, k, ⟨3, nm, [], 0, ⟨#[]⟩⟩, v, by rw [Int.natCast_add], (HV1.out.other1 hgn HNF0.out _).other1 hgn HNF0.out _, hkl, ?_, .inr (.inl rfl), fun _ => HT.out, fun h => absurd h HE.out⟩
    exact grown_set_new (grown_set_new HG1.out.2 _ (Nat.le_refl _) _) _ (Nat.le_refl _) _
end Go.Proofs.YtijnbohjcmcfjaaGreatDoor.Sc
