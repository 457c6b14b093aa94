/-
  Walks: package script's reader of a line: a name and what follows it.
-/
import Derived.Test.YtijnbohjcmcfjaaGreatDoorLSw
namespace Go.Proofs.YtijnbohjcmcfjaaGreatDoor.Sc
open Go.RowKit Go.Proofs.YtijnbohjcmcfjaaGreatDoor.Kt Go.Proofs.YtijnbohjcmcfjaaGreatDoor.Lk Go.Proofs.YtijnbohjcmcfjaaGreatDoor.Sp Go.Proofs.YtijnbohjcmcfjaaGreatDoor.Rw Go.Proofs.YtijnbohjcmcfjaaGreatDoor.Rg
open Go.Proofs.YtijnbohjcmcfjaaGreatDoor.Nu (dgt Sizes isInt pwOf)
set_option linter.unusedSimpArgs false
set_option linter.unusedVariables false
set_option maxRecDepth 100000
variable {base g k : Nat} {s : ByteArray} {c : CallP} {v : Value} {w w0 : World}

theorem tailF_end (s : ByteArray) (c : CallP) : tailF s s.size c = (c, 0, 0) := by
  have h1 := skipE_ge s s.size
  unfold tailF
  rw [if_neg (by omega)]
/-- a fault is laid into the block for the answer -/
theorem told_fault {F : CallP × Nat × Nat} {w' : World} {er p k' : Nat} {c' : CallP} {v v' : Value} (hv : RV base g s k' c' v' w') (hk : k' ≤ s.size) (hF : Blk w' w.heap.size #[.int .i64 0, .int .i64 0] 45)
    (hg : w.grownBy w' (some g)) (hfr : Fresh v v' w) (hgl : g < w.heap.size) (hnf : v'.ownBlock ≠ some w.heap.size) (h1 : er ≠ 0 → F = (CallP.none, er, p)) (h2 : er = 0 → F = tailF s k' c') :
    Blk ((w'.setCell ⟨w.heap.size, 0, none⟩ (.int .i64 (er : Int))).setCell ⟨w.heap.size, 1, none⟩ (.int .i64 (p : Int))) w.heap.size #[.int .i64 (er : Int), .int .i64 (p : Int)] 45 ∧
    Told F g s base v w (.returned (.agg #[.int .i64 (er : Int), .int .i64 (p : Int)])) ((w'.setCell ⟨w.heap.size, 0, none⟩ (.int .i64 (er : Int))).setCell ⟨w.heap.size, 1, none⟩ (.int .i64 (p : Int))) :=
  ⟨(hF.set 0 _).set 1 _, er, p, k', c', v', rfl, (hv.other1 (by omega) hnf _).other1 (by omega) hnf _, hk, grown_set_new (grown_set_new hg _ (Nat.le_refl _) _) _ (Nat.le_refl _) _, hfr, h1, h2⟩

set_option maxHeartbeats 3200000 in
theorem named0 (hv : RV base g s k ⟨0, ⟨#[]⟩, [], 0, ⟨#[]⟩⟩ v w) (hk : k ≤ s.size) (hm : s.size ≤ 268435456) (he : EnvS w0) (hbs : w0.heap.size = base) (hb : Below base w0 w) :
    Calls Tryz.prog 36 #[.pointer (some ⟨g, 0, none⟩), .func (.func 40) #[] #[]] w (Told (namedF s 0 k) g s base v w) := by
  have HGL : Hid (g < w.heap.size) := hv.blk.lt
  have HGE : Hid (base ≤ g) := hv.ge
  have hlt := hv.lt
  have hk1 := skipE_le s k hk
  have hk2 := fieldE_ge s (skipE s k)
  have hk3 := fieldE_le s _ hk1
  have hk4 := skipE_le s _ hk3
  have HSS : Hid (skipE s (skipE s (fieldE s (skipE s k))) = skipE s (fieldE s (skipE s k))) := skipE_skip _ _
  have HF : Hid (namedF s 0 k = if fieldE s (skipE s k) = skipE s k then (CallP.none, 250, s.size)
    else if symOk (sub s (skipE s k) (fieldE s (skipE s k))) = false then (CallP.none, 250, skipE s k)
    else if skipE s (fieldE s (skipE s k)) = s.size then (⟨0, sub s (skipE s k) (fieldE s (skipE s k)), [], 0, ⟨#[]⟩⟩, 0, 0)
    else restF s 0 (sub s (skipE s k) (fieldE s (skipE s k))) (skipE s (fieldE s (skipE s k)))) := rfl
  have hsz : (sub s (skipE s k) (fieldE s (skipE s k))).size = fieldE s (skipE s k) - skipE s k := sub_size s hk3
  have HNF0 : Hid (v.ownBlock ≠ some w.heap.size) := by
    intro e
    have := (hv.own.lt _ e).2
    omega
  have hgn : ¬ g = w.heap.size := by have := HGL.out; omega
  have hgn' : ¬ w.heap.size = g := by have := HGL.out; omega
  go_enter Tryz.func36, Tryz.ntmps36
  go_wp2_with (go_at_call 35; fail)
  refine (field_any (hv.alloc _) hk hm).mono ?_
  rintro e w1 ⟨rfl, hv1, hg1⟩
  have HV1 : Hid (RV base g s (fieldE s (skipE s k)) ⟨0, ⟨#[]⟩, [], 0, ⟨#[]⟩⟩ v w1) := hv1
  have HB1 : Hid (Below base w0 w1) := below_gr (hb.alloc hlt _) hg1 HGE.out (by simp; omega)
  have HF1 : Hid (Blk w1 w.heap.size #[.int .i64 0, .int .i64 0] 45) := blk_kept (Blk.new _ _ _) hg1 (by omega)
  have HG1 : Hid (w1 = w1 ∧ w.grownBy w1 (some g)) := ⟨rfl, (World.grownBy_alloc _ _ _).trans hg1⟩
  have hs1 : w.heap.size + 1 ≤ w1.heap.size := by have := hg1.size; simpa using this
  clear hv1 hg1 hv hb
  generalize hW : sub s (skipE s k) (fieldE s (skipE s k)) = W at hsz HF
  generalize hK2 : skipE s (fieldE s (skipE s k)) = k2 at hk4 HSS HF
  generalize fieldE s (skipE s k) = b at hsz HF HV1 hk2 hk3 hK2
  generalize skipE s k = a at hsz HF HV1 hk1 hk2 hk3
  have HK2 : Hid (skipE s b = k2) := hK2
  clear hK2 hW
  by_cases h0 : b = a
  · have HN : Hid (namedF s 0 k = (CallP.none, 250, s.size)) := by unfold Hid; rw [HF.out, if_pos h0]
    obtain rfl : W = ⟨#[]⟩ := empty_of_size (by omega)
    have c0 := HV1.out.blk.cell 0 (v := .string s) rfl
    have d0 := HF1.out.cell 0 (v := .int .i64 0) rfl
    have d1 := HF1.out.cell 1 (v := .int .i64 0) rfl
    have g0 := HF1.out.free 0
    have g1 := HF1.out.free 1
    clear h0 hsz
    go_wp2
    obtain ⟨h1, h2⟩ := told_fault (er := 250) (p := s.size) HV1.out hk3 HF1.out HG1.out.2 (.inr (.inl rfl)) HGL.out HNF0.out (fun _ => HN.out) (fun h => absurd h (by decide))
    exact ret_cellG (cs := #[.int .i64 250, .int .i64 (s.size : Int)]) (t := 45) rfl Tryz.underlying45 rfl (by kernel_rfl) rfl rfl h1 h2
  · have ie := isEmpty_false (s := W) (by omega)
    have H0 : Hid (¬ b = a) := h0
    clear h0
    cases hsym : symOk W with
    | false =>
      have HSY : Hid (symOk W = false) := hsym
      have HN : Hid (namedF s 0 k = (CallP.none, 250, a)) := by unfold Hid; rw [HF.out, if_neg H0.out, if_pos hsym]
      clear hsym
      have d0 := HF1.out.cell 0 (v := .int .i64 0) rfl
      have d1 := HF1.out.cell 1 (v := .int .i64 0) rfl
      have g0 := HF1.out.free 0
      have g1 := HF1.out.free 1
      go_wp2_with (go_at_call 17; refine (tsymbol_big W _ (by omega)).mono ?_; rintro e w' ⟨he, rfl⟩; rw [HSY.out] at he; subst he)
      obtain ⟨h1, h2⟩ := told_fault (er := 250) (p := a) HV1.out hk3 HF1.out HG1.out.2 (.inr (.inl rfl)) HGL.out HNF0.out (fun _ => HN.out) (fun h => absurd h (by decide))
      exact ret_cellG (cs := #[.int .i64 250, .int .i64 (a : Int)]) (t := 45) rfl Tryz.underlying45 rfl (by kernel_rfl) rfl rfl h1 h2
    | true =>
      have HSY : Hid (symOk W = true) := hsym
      have HN : Hid (namedF s 0 k = if k2 = s.size then (⟨0, W, [], 0, ⟨#[]⟩⟩, 0, 0) else restF s 0 W k2) := by unfold Hid; rw [HF.out, if_neg H0.out, if_neg (by rw [hsym]; simp)]
      clear hsym
      have c3 := HV1.out.blk.cell 3 (v := .string ⟨#[]⟩) rfl
      have f3 := HV1.out.blk.free 3
      go_wp2_with (go_at_call 17; fail)
      refine (tsymbol_big W _ (by omega)).mono ?_
      rintro e w' ⟨he, rfl⟩
      rw [HSY.out] at he
      subst he
      go_wp2_with (go_at_call 37; fail)
      refine (skip_any (HV1.out.name' W) hk3 hm).mono ?_
      rw [HK2.out]
      rintro e w2 ⟨rfl, hv2, hg2⟩
      have HV2 : Hid (RV base g s k2 ⟨0, W, [], 0, ⟨#[]⟩⟩ v w2) := hv2
      have HF2 : Hid (Blk w2 w.heap.size #[.int .i64 0, .int .i64 0] 45) := blk_kept (HF1.out.other ⟨g, 3, none⟩ hgn' _) hg2 (by omega)
      have HG2 : Hid (w2 = w2 ∧ w.grownBy w2 (some g)) := ⟨rfl, (grown_set HG1.out.2 _ _).trans hg2⟩
      have HB2 : Hid (Below base w0 w2) := below_gr (below_set HB1.out HGE.out) hg2 HGE.out (by simp; omega)
      have hg2s : w.heap.size + 1 ≤ w2.heap.size := by have := hg2.size; simp at this; omega
      clear hv2 hg2 c3 f3 HV1 HF1 HG1 HB1
      have c0 := HV2.out.blk.cell 0 (v := .string s) rfl
      have c1 := HV2.out.blk.cell 1 (v := .int .i64 (k2 : Int)) rfl
      by_cases h9 : k2 = s.size
      · have HM : Hid (namedF s 0 k = (⟨0, W, [], 0, ⟨#[]⟩⟩, 0, 0)) := by unfold Hid; rw [HN.out, if_pos h9]
        subst h9
        have d0 := HF2.out.cell 0 (v := .int .i64 0) rfl
        have d1 := HF2.out.cell 1 (v := .int .i64 0) rfl
        have g0 := HF2.out.free 0
        have g1 := HF2.out.free 1
        go_wp2
        go_big_quiet (fail)
        go_wp2
        obtain ⟨h1, h2⟩ := told_fault (er := 0) (p := 0) (F := namedF s 0 k) (HV2.out.drewN nq) (Nat.le_refl _) (HF2.out.drewN nq) (grown_drewN HG2.out.2 nq) (.inr (.inl rfl)) HGL.out HNF0.out (fun h => absurd rfl h) (fun _ => by rw [HM.out, tailF_end])
        exact ret_cellG (cs := #[.int .i64 0, .int .i64 0]) (t := 45) rfl Tryz.underlying45 rfl (by kernel_rfl) rfl rfl h1 h2
      · have HM : Hid (namedF s 0 k = restF s 0 W k2) := by unfold Hid; rw [HN.out, if_neg h9]
        have e9 : (((k2 : Nat) : Int) == (s.size : Int)) = false := by rw [beq_eq_false_iff_ne]; omega
        clear h9
        go_wp2
        go_big_quiet (fail)
        have HV3 : Hid (RV base g s k2 ⟨0, W, [], 0, ⟨#[]⟩⟩ v (w2.drewN nq)) := HV2.out.drewN nq
        have HF3 : Hid (Blk (w2.drewN nq) w.heap.size #[.int .i64 0, .int .i64 0] 45) := HF2.out.drewN nq
        have HG3 : Hid (w2 = w2 ∧ w.grownBy (w2.drewN nq) (some g)) := ⟨rfl, grown_drewN HG2.out.2 nq⟩
        have HB3 : Hid (Below base w0 (w2.drewN nq)) := below_drewN HB2.out nq
        have hsz2 : w.heap.size + 1 ≤ (w2.drewN nq).heap.size := by have := hg2s; simpa using this
        clear c0 c1
        go_wp2_with (go_at_call 40; fail)
        refine (words_any _ HV3.out HSS.out hk4 hm he hbs HB3.out).mono ?_
        rintro e w4 ⟨er, p, k', c', v', rfl, hv4, hk', hg4, hfr, h1, h2⟩
        have HV4 : Hid (RV base g s k' c' v' w4) := hv4
        have HF4 : Hid (Blk w4 w.heap.size #[.int .i64 0, .int .i64 0] 45) := blk_kept HF3.out hg4 (by omega)
        have HG4 : Hid (w4 = w4 ∧ w.grownBy w4 (some g)) := ⟨rfl, HG3.out.2.trans hg4⟩
        have H1 : Hid (er ≠ 0 → namedF s 0 k = (CallP.none, er, p)) := fun h => by rw [HM.out]; exact h1 h
        have H2 : Hid (er = 0 → namedF s 0 k = tailF s k' c') := fun h => by rw [HM.out]; exact h2 h
        have HNF : Hid (v'.ownBlock ≠ some w.heap.size) := by
          intro e
          rcases hfr with h | h | ⟨q, hq, hql⟩
          · rw [h] at e; cases e
          · exact HNF0.out (h ▸ e)
          · rw [hq] at e; injection e with e; have := hsz2; omega
        have HFR : Hid (Fresh v v' w) := by
          rcases hfr with h | h | ⟨q, hq, hql⟩
          · exact .inl h
          · exact .inr (.inl h)
          · exact .inr (.inr ⟨q, hq, by have := hsz2; omega⟩)
        clear hfr hv4 hg4 h1 h2 HV3 HF3 HG3 HB3
        have d0 := HF4.out.cell 0 (v := .int .i64 0) rfl
        have d1 := HF4.out.cell 1 (v := .int .i64 0) rfl
        have g0 := HF4.out.free 0
        have g1 := HF4.out.free 1
        go_wp2
        obtain ⟨h3, h4⟩ := told_fault (er := er) (p := p) HV4.out hk' HF4.out HG4.out.2 HFR.out HGL.out HNF.out H1.out H2.out
        exact ret_cellG (cs := #[.int .i64 (er : Int), .int .i64 (p : Int)]) (t := 45) rfl Tryz.underlying45 rfl (by kernel_rfl) rfl rfl h3 h4

set_option maxHeartbeats 3200000 in
theorem named1 (hv : RV base g s k ⟨1, ⟨#[]⟩, [], 0, ⟨#[]⟩⟩ v w) (hk : k ≤ s.size) (hm : s.size ≤ 268435456) (he : EnvS w0) (hbs : w0.heap.size = base) (hb : Below base w0 w) :
    Calls Tryz.prog 36 #[.pointer (some ⟨g, 0, none⟩), .func (.func 41) #[] #[]] w (Told (namedF s 1 k) g s base v w) := by
  have HGL : Hid (g < w.heap.size) := hv.blk.lt
  have HGE : Hid (base ≤ g) := hv.ge
  have hlt := hv.lt
  have hk1 := skipE_le s k hk
  have hk2 := fieldE_ge s (skipE s k)
  have hk3 := fieldE_le s _ hk1
  have hk4 := skipE_le s _ hk3
  have HSS : Hid (skipE s (skipE s (fieldE s (skipE s k))) = skipE s (fieldE s (skipE s k))) := skipE_skip _ _
  have HF : Hid (namedF s 1 k = if fieldE s (skipE s k) = skipE s k then (CallP.none, 250, s.size)
    else if symOk (sub s (skipE s k) (fieldE s (skipE s k))) = false then (CallP.none, 250, skipE s k)
    else if skipE s (fieldE s (skipE s k)) = s.size then (⟨1, sub s (skipE s k) (fieldE s (skipE s k)), [], 0, ⟨#[]⟩⟩, 0, 0)
    else restF s 1 (sub s (skipE s k) (fieldE s (skipE s k))) (skipE s (fieldE s (skipE s k)))) := rfl
  have hsz : (sub s (skipE s k) (fieldE s (skipE s k))).size = fieldE s (skipE s k) - skipE s k := sub_size s hk3
  have HNF0 : Hid (v.ownBlock ≠ some w.heap.size) := by
    intro e
    have := (hv.own.lt _ e).2
    omega
  have hgn : ¬ g = w.heap.size := by have := HGL.out; omega
  have hgn' : ¬ w.heap.size = g := by have := HGL.out; omega
  go_enter Tryz.func36, Tryz.ntmps36
  go_wp2_with (go_at_call 35; fail)
  refine (field_any (hv.alloc _) hk hm).mono ?_
  rintro e w1 ⟨rfl, hv1, hg1⟩
  have HV1 : Hid (RV base g s (fieldE s (skipE s k)) ⟨1, ⟨#[]⟩, [], 0, ⟨#[]⟩⟩ v w1) := hv1
  have HB1 : Hid (Below base w0 w1) := below_gr (hb.alloc hlt _) hg1 HGE.out (by simp; omega)
  have HF1 : Hid (Blk w1 w.heap.size #[.int .i64 0, .int .i64 0] 45) := blk_kept (Blk.new _ _ _) hg1 (by omega)
  have HG1 : Hid (w1 = w1 ∧ w.grownBy w1 (some g)) := ⟨rfl, (World.grownBy_alloc _ _ _).trans hg1⟩
  have hs1 : w.heap.size + 1 ≤ w1.heap.size := by have := hg1.size; simpa using this
  clear hv1 hg1 hv hb
  generalize hW : sub s (skipE s k) (fieldE s (skipE s k)) = W at hsz HF
  generalize hK2 : skipE s (fieldE s (skipE s k)) = k2 at hk4 HSS HF
  generalize fieldE s (skipE s k) = b at hsz HF HV1 hk2 hk3 hK2
  generalize skipE s k = a at hsz HF HV1 hk1 hk2 hk3
  have HK2 : Hid (skipE s b = k2) := hK2
  clear hK2 hW
  by_cases h0 : b = a
  · have HN : Hid (namedF s 1 k = (CallP.none, 250, s.size)) := by unfold Hid; rw [HF.out, if_pos h0]
    obtain rfl : W = ⟨#[]⟩ := empty_of_size (by omega)
    have c0 := HV1.out.blk.cell 0 (v := .string s) rfl
    have d0 := HF1.out.cell 0 (v := .int .i64 0) rfl
    have d1 := HF1.out.cell 1 (v := .int .i64 0) rfl
    have g0 := HF1.out.free 0
    have g1 := HF1.out.free 1
    clear h0 hsz
    go_wp2
    obtain ⟨h1, h2⟩ := told_fault (er := 250) (p := s.size) HV1.out hk3 HF1.out HG1.out.2 (.inr (.inl rfl)) HGL.out HNF0.out (fun _ => HN.out) (fun h => absurd h (by decide))
    exact ret_cellG (cs := #[.int .i64 250, .int .i64 (s.size : Int)]) (t := 45) rfl Tryz.underlying45 rfl (by kernel_rfl) rfl rfl h1 h2
  · have ie := isEmpty_false (s := W) (by omega)
    have H0 : Hid (¬ b = a) := h0
    clear h0
    cases hsym : symOk W with
    | false =>
      have HSY : Hid (symOk W = false) := hsym
      have HN : Hid (namedF s 1 k = (CallP.none, 250, a)) := by unfold Hid; rw [HF.out, if_neg H0.out, if_pos hsym]
      clear hsym
      have d0 := HF1.out.cell 0 (v := .int .i64 0) rfl
      have d1 := HF1.out.cell 1 (v := .int .i64 0) rfl
      have g0 := HF1.out.free 0
      have g1 := HF1.out.free 1
      go_wp2_with (go_at_call 17; refine (tsymbol_big W _ (by omega)).mono ?_; rintro e w' ⟨he, rfl⟩; rw [HSY.out] at he; subst he)
      obtain ⟨h1, h2⟩ := told_fault (er := 250) (p := a) HV1.out hk3 HF1.out HG1.out.2 (.inr (.inl rfl)) HGL.out HNF0.out (fun _ => HN.out) (fun h => absurd h (by decide))
      exact ret_cellG (cs := #[.int .i64 250, .int .i64 (a : Int)]) (t := 45) rfl Tryz.underlying45 rfl (by kernel_rfl) rfl rfl h1 h2
    | true =>
      have HSY : Hid (symOk W = true) := hsym
      have HN : Hid (namedF s 1 k = if k2 = s.size then (⟨1, W, [], 0, ⟨#[]⟩⟩, 0, 0) else restF s 1 W k2) := by unfold Hid; rw [HF.out, if_neg H0.out, if_neg (by rw [hsym]; simp)]
      clear hsym
      have c3 := HV1.out.blk.cell 3 (v := .string ⟨#[]⟩) rfl
      have f3 := HV1.out.blk.free 3
      go_wp2_with (go_at_call 17; fail)
      refine (tsymbol_big W _ (by omega)).mono ?_
      rintro e w' ⟨he, rfl⟩
      rw [HSY.out] at he
      subst he
      go_wp2_with (go_at_call 37; fail)
      refine (skip_any (HV1.out.name' W) hk3 hm).mono ?_
      rw [HK2.out]
      rintro e w2 ⟨rfl, hv2, hg2⟩
      have HV2 : Hid (RV base g s k2 ⟨1, W, [], 0, ⟨#[]⟩⟩ v w2) := hv2
      have HF2 : Hid (Blk w2 w.heap.size #[.int .i64 0, .int .i64 0] 45) := blk_kept (HF1.out.other ⟨g, 3, none⟩ hgn' _) hg2 (by omega)
      have HG2 : Hid (w2 = w2 ∧ w.grownBy w2 (some g)) := ⟨rfl, (grown_set HG1.out.2 _ _).trans hg2⟩
      have HB2 : Hid (Below base w0 w2) := below_gr (below_set HB1.out HGE.out) hg2 HGE.out (by simp; omega)
      have hg2s : w.heap.size + 1 ≤ w2.heap.size := by have := hg2.size; simp at this; omega
      clear hv2 hg2 c3 f3 HV1 HF1 HG1 HB1
      have c0 := HV2.out.blk.cell 0 (v := .string s) rfl
      have c1 := HV2.out.blk.cell 1 (v := .int .i64 (k2 : Int)) rfl
      by_cases h9 : k2 = s.size
      · have HM : Hid (namedF s 1 k = (⟨1, W, [], 0, ⟨#[]⟩⟩, 0, 0)) := by unfold Hid; rw [HN.out, if_pos h9]
        subst h9
        have d0 := HF2.out.cell 0 (v := .int .i64 0) rfl
        have d1 := HF2.out.cell 1 (v := .int .i64 0) rfl
        have g0 := HF2.out.free 0
        have g1 := HF2.out.free 1
        go_wp2
        go_big_quiet (fail)
        go_wp2
        obtain ⟨h1, h2⟩ := told_fault (er := 0) (p := 0) (F := namedF s 1 k) (HV2.out.drewN nq) (Nat.le_refl _) (HF2.out.drewN nq) (grown_drewN HG2.out.2 nq) (.inr (.inl rfl)) HGL.out HNF0.out (fun h => absurd rfl h) (fun _ => by rw [HM.out, tailF_end])
        exact ret_cellG (cs := #[.int .i64 0, .int .i64 0]) (t := 45) rfl Tryz.underlying45 rfl (by kernel_rfl) rfl rfl h1 h2
      · have HM : Hid (namedF s 1 k = restF s 1 W k2) := by unfold Hid; rw [HN.out, if_neg h9]
        have e9 : (((k2 : Nat) : Int) == (s.size : Int)) = false := by rw [beq_eq_false_iff_ne]; omega
        clear h9
        go_wp2
        go_big_quiet (fail)
        have HV3 : Hid (RV base g s k2 ⟨1, W, [], 0, ⟨#[]⟩⟩ v (w2.drewN nq)) := HV2.out.drewN nq
        have HF3 : Hid (Blk (w2.drewN nq) w.heap.size #[.int .i64 0, .int .i64 0] 45) := HF2.out.drewN nq
        have HG3 : Hid (w2 = w2 ∧ w.grownBy (w2.drewN nq) (some g)) := ⟨rfl, grown_drewN HG2.out.2 nq⟩
        have HB3 : Hid (Below base w0 (w2.drewN nq)) := below_drewN HB2.out nq
        have hsz2 : w.heap.size + 1 ≤ (w2.drewN nq).heap.size := by have := hg2s; simpa using this
        clear c0 c1
        go_wp2_with (go_at_call 41; fail)
        refine (count_any _ HV3.out HSS.out hk4 hm).mono ?_
        rintro e w4 ⟨er, p, k', c', v', rfl, hv4, hk', hg4, hfr, h1, h2⟩
        have HV4 : Hid (RV base g s k' c' v' w4) := hv4
        have HF4 : Hid (Blk w4 w.heap.size #[.int .i64 0, .int .i64 0] 45) := blk_kept HF3.out hg4 (by omega)
        have HG4 : Hid (w4 = w4 ∧ w.grownBy w4 (some g)) := ⟨rfl, HG3.out.2.trans hg4⟩
        have H1 : Hid (er ≠ 0 → namedF s 1 k = (CallP.none, er, p)) := fun h => by rw [HM.out]; exact h1 h
        have H2 : Hid (er = 0 → namedF s 1 k = tailF s k' c') := fun h => by rw [HM.out]; exact h2 h
        have HNF : Hid (v'.ownBlock ≠ some w.heap.size) := by
          intro e
          rcases hfr with h | h | ⟨q, hq, hql⟩
          · rw [h] at e; cases e
          · exact HNF0.out (h ▸ e)
          · rw [hq] at e; injection e with e; have := hsz2; omega
        have HFR : Hid (Fresh v v' w) := by
          rcases hfr with h | h | ⟨q, hq, hql⟩
          · exact .inl h
          · exact .inr (.inl h)
          · exact .inr (.inr ⟨q, hq, by have := hsz2; omega⟩)
        clear hfr hv4 hg4 h1 h2 HV3 HF3 HG3 HB3
        have d0 := HF4.out.cell 0 (v := .int .i64 0) rfl
        have d1 := HF4.out.cell 1 (v := .int .i64 0) rfl
        have g0 := HF4.out.free 0
        have g1 := HF4.out.free 1
        go_wp2
        obtain ⟨h3, h4⟩ := told_fault (er := er) (p := p) HV4.out hk' HF4.out HG4.out.2 HFR.out HGL.out HNF.out H1.out H2.out
        exact ret_cellG (cs := #[.int .i64 (er : Int), .int .i64 (p : Int)]) (t := 45) rfl Tryz.underlying45 rfl (by kernel_rfl) rfl rfl h3 h4

set_option maxHeartbeats 3200000 in
theorem named3 (hv : RV base g s k ⟨3, ⟨#[]⟩, [], 0, ⟨#[]⟩⟩ v w) (hk : k ≤ s.size) (hm : s.size ≤ 268435456) (he : EnvS w0) (hbs : w0.heap.size = base) (hb : Below base w0 w) :
    Calls Tryz.prog 36 #[.pointer (some ⟨g, 0, none⟩), .func (.func 42) #[] #[]] w (Told (namedF s 3 k) g s base v w) := by
  have HGL : Hid (g < w.heap.size) := hv.blk.lt
  have HGE : Hid (base ≤ g) := hv.ge
  have hlt := hv.lt
  have hk1 := skipE_le s k hk
  have hk2 := fieldE_ge s (skipE s k)
  have hk3 := fieldE_le s _ hk1
  have hk4 := skipE_le s _ hk3
  have HSS : Hid (skipE s (skipE s (fieldE s (skipE s k))) = skipE s (fieldE s (skipE s k))) := skipE_skip _ _
  have HF : Hid (namedF s 3 k = if fieldE s (skipE s k) = skipE s k then (CallP.none, 250, s.size)
    else if symOk (sub s (skipE s k) (fieldE s (skipE s k))) = false then (CallP.none, 250, skipE s k)
    else if skipE s (fieldE s (skipE s k)) = s.size then (⟨3, sub s (skipE s k) (fieldE s (skipE s k)), [], 0, ⟨#[]⟩⟩, 0, 0)
    else restF s 3 (sub s (skipE s k) (fieldE s (skipE s k))) (skipE s (fieldE s (skipE s k)))) := rfl
  have hsz : (sub s (skipE s k) (fieldE s (skipE s k))).size = fieldE s (skipE s k) - skipE s k := sub_size s hk3
  have HNF0 : Hid (v.ownBlock ≠ some w.heap.size) := by
    intro e
    have := (hv.own.lt _ e).2
    omega
  have hgn : ¬ g = w.heap.size := by have := HGL.out; omega
  have hgn' : ¬ w.heap.size = g := by have := HGL.out; omega
  go_enter Tryz.func36, Tryz.ntmps36
  go_wp2_with (go_at_call 35; fail)
  refine (field_any (hv.alloc _) hk hm).mono ?_
  rintro e w1 ⟨rfl, hv1, hg1⟩
  have HV1 : Hid (RV base g s (fieldE s (skipE s k)) ⟨3, ⟨#[]⟩, [], 0, ⟨#[]⟩⟩ v w1) := hv1
  have HB1 : Hid (Below base w0 w1) := below_gr (hb.alloc hlt _) hg1 HGE.out (by simp; omega)
  have HF1 : Hid (Blk w1 w.heap.size #[.int .i64 0, .int .i64 0] 45) := blk_kept (Blk.new _ _ _) hg1 (by omega)
  have HG1 : Hid (w1 = w1 ∧ w.grownBy w1 (some g)) := ⟨rfl, (World.grownBy_alloc _ _ _).trans hg1⟩
  have hs1 : w.heap.size + 1 ≤ w1.heap.size := by have := hg1.size; simpa using this
  clear hv1 hg1 hv hb
  generalize hW : sub s (skipE s k) (fieldE s (skipE s k)) = W at hsz HF
  generalize hK2 : skipE s (fieldE s (skipE s k)) = k2 at hk4 HSS HF
  generalize fieldE s (skipE s k) = b at hsz HF HV1 hk2 hk3 hK2
  generalize skipE s k = a at hsz HF HV1 hk1 hk2 hk3
  have HK2 : Hid (skipE s b = k2) := hK2
  clear hK2 hW
  by_cases h0 : b = a
  · have HN : Hid (namedF s 3 k = (CallP.none, 250, s.size)) := by unfold Hid; rw [HF.out, if_pos h0]
    obtain rfl : W = ⟨#[]⟩ := empty_of_size (by omega)
    have c0 := HV1.out.blk.cell 0 (v := .string s) rfl
    have d0 := HF1.out.cell 0 (v := .int .i64 0) rfl
    have d1 := HF1.out.cell 1 (v := .int .i64 0) rfl
    have g0 := HF1.out.free 0
    have g1 := HF1.out.free 1
    clear h0 hsz
    go_wp2
    obtain ⟨h1, h2⟩ := told_fault (er := 250) (p := s.size) HV1.out hk3 HF1.out HG1.out.2 (.inr (.inl rfl)) HGL.out HNF0.out (fun _ => HN.out) (fun h => absurd h (by decide))
    exact ret_cellG (cs := #[.int .i64 250, .int .i64 (s.size : Int)]) (t := 45) rfl Tryz.underlying45 rfl (by kernel_rfl) rfl rfl h1 h2
  · have ie := isEmpty_false (s := W) (by omega)
    have H0 : Hid (¬ b = a) := h0
    clear h0
    cases hsym : symOk W with
    | false =>
      have HSY : Hid (symOk W = false) := hsym
      have HN : Hid (namedF s 3 k = (CallP.none, 250, a)) := by unfold Hid; rw [HF.out, if_neg H0.out, if_pos hsym]
      clear hsym
      have d0 := HF1.out.cell 0 (v := .int .i64 0) rfl
      have d1 := HF1.out.cell 1 (v := .int .i64 0) rfl
      have g0 := HF1.out.free 0
      have g1 := HF1.out.free 1
      go_wp2_with (go_at_call 17; refine (tsymbol_big W _ (by omega)).mono ?_; rintro e w' ⟨he, rfl⟩; rw [HSY.out] at he; subst he)
      obtain ⟨h1, h2⟩ := told_fault (er := 250) (p := a) HV1.out hk3 HF1.out HG1.out.2 (.inr (.inl rfl)) HGL.out HNF0.out (fun _ => HN.out) (fun h => absurd h (by decide))
      exact ret_cellG (cs := #[.int .i64 250, .int .i64 (a : Int)]) (t := 45) rfl Tryz.underlying45 rfl (by kernel_rfl) rfl rfl h1 h2
    | true =>
      have HSY : Hid (symOk W = true) := hsym
      have HN : Hid (namedF s 3 k = if k2 = s.size then (⟨3, W, [], 0, ⟨#[]⟩⟩, 0, 0) else restF s 3 W k2) := by unfold Hid; rw [HF.out, if_neg H0.out, if_neg (by rw [hsym]; simp)]
      clear hsym
      have c3 := HV1.out.blk.cell 3 (v := .string ⟨#[]⟩) rfl
      have f3 := HV1.out.blk.free 3
      go_wp2_with (go_at_call 17; fail)
      refine (tsymbol_big W _ (by omega)).mono ?_
      rintro e w' ⟨he, rfl⟩
      rw [HSY.out] at he
      subst he
      go_wp2_with (go_at_call 37; fail)
      refine (skip_any (HV1.out.name' W) hk3 hm).mono ?_
      rw [HK2.out]
      rintro e w2 ⟨rfl, hv2, hg2⟩
      have HV2 : Hid (RV base g s k2 ⟨3, W, [], 0, ⟨#[]⟩⟩ v w2) := hv2
      have HF2 : Hid (Blk w2 w.heap.size #[.int .i64 0, .int .i64 0] 45) := blk_kept (HF1.out.other ⟨g, 3, none⟩ hgn' _) hg2 (by omega)
      have HG2 : Hid (w2 = w2 ∧ w.grownBy w2 (some g)) := ⟨rfl, (grown_set HG1.out.2 _ _).trans hg2⟩
      have HB2 : Hid (Below base w0 w2) := below_gr (below_set HB1.out HGE.out) hg2 HGE.out (by simp; omega)
      have hg2s : w.heap.size + 1 ≤ w2.heap.size := by have := hg2.size; simp at this; omega
      clear hv2 hg2 c3 f3 HV1 HF1 HG1 HB1
      have c0 := HV2.out.blk.cell 0 (v := .string s) rfl
      have c1 := HV2.out.blk.cell 1 (v := .int .i64 (k2 : Int)) rfl
      by_cases h9 : k2 = s.size
      · have HM : Hid (namedF s 3 k = (⟨3, W, [], 0, ⟨#[]⟩⟩, 0, 0)) := by unfold Hid; rw [HN.out, if_pos h9]
        subst h9
        have d0 := HF2.out.cell 0 (v := .int .i64 0) rfl
        have d1 := HF2.out.cell 1 (v := .int .i64 0) rfl
        have g0 := HF2.out.free 0
        have g1 := HF2.out.free 1
        go_wp2
        go_big_quiet (fail)
        go_wp2
        obtain ⟨h1, h2⟩ := told_fault (er := 0) (p := 0) (F := namedF s 3 k) (HV2.out.drewN nq) (Nat.le_refl _) (HF2.out.drewN nq) (grown_drewN HG2.out.2 nq) (.inr (.inl rfl)) HGL.out HNF0.out (fun h => absurd rfl h) (fun _ => by rw [HM.out, tailF_end])
        exact ret_cellG (cs := #[.int .i64 0, .int .i64 0]) (t := 45) rfl Tryz.underlying45 rfl (by kernel_rfl) rfl rfl h1 h2
      · have HM : Hid (namedF s 3 k = restF s 3 W k2) := by unfold Hid; rw [HN.out, if_neg h9]
        have e9 : (((k2 : Nat) : Int) == (s.size : Int)) = false := by rw [beq_eq_false_iff_ne]; omega
        clear h9
        go_wp2
        go_big_quiet (fail)
        have HV3 : Hid (RV base g s k2 ⟨3, W, [], 0, ⟨#[]⟩⟩ v (w2.drewN nq)) := HV2.out.drewN nq
        have HF3 : Hid (Blk (w2.drewN nq) w.heap.size #[.int .i64 0, .int .i64 0] 45) := HF2.out.drewN nq
        have HG3 : Hid (w2 = w2 ∧ w.grownBy (w2.drewN nq) (some g)) := ⟨rfl, grown_drewN HG2.out.2 nq⟩
        have HB3 : Hid (Below base w0 (w2.drewN nq)) := below_drewN HB2.out nq
        have hsz2 : w.heap.size + 1 ≤ (w2.drewN nq).heap.size := by have := hg2s; simpa using this
        clear c0 c1
        go_wp2_with (go_at_call 42; fail)
        refine (text_any _ HV3.out hk4 hm).mono ?_
        rintro e w4 ⟨er, p, k', c', v', rfl, hv4, hk', hg4, hfr, h1, h2⟩
        have HV4 : Hid (RV base g s k' c' v' w4) := hv4
        have HF4 : Hid (Blk w4 w.heap.size #[.int .i64 0, .int .i64 0] 45) := blk_kept HF3.out hg4 (by omega)
        have HG4 : Hid (w4 = w4 ∧ w.grownBy w4 (some g)) := ⟨rfl, HG3.out.2.trans hg4⟩
        have H1 : Hid (er ≠ 0 → namedF s 3 k = (CallP.none, er, p)) := fun h => by rw [HM.out]; exact h1 h
        have H2 : Hid (er = 0 → namedF s 3 k = tailF s k' c') := fun h => by rw [HM.out]; exact h2 h
        have HNF : Hid (v'.ownBlock ≠ some w.heap.size) := by
          intro e
          rcases hfr with h | h | ⟨q, hq, hql⟩
          · rw [h] at e; cases e
          · exact HNF0.out (h ▸ e)
          · rw [hq] at e; injection e with e; have := hsz2; omega
        have HFR : Hid (Fresh v v' w) := by
          rcases hfr with h | h | ⟨q, hq, hql⟩
          · exact .inl h
          · exact .inr (.inl h)
          · exact .inr (.inr ⟨q, hq, by have := hsz2; omega⟩)
        clear hfr hv4 hg4 h1 h2 HV3 HF3 HG3 HB3
        have d0 := HF4.out.cell 0 (v := .int .i64 0) rfl
        have d1 := HF4.out.cell 1 (v := .int .i64 0) rfl
        have g0 := HF4.out.free 0
        have g1 := HF4.out.free 1
        go_wp2
        obtain ⟨h3, h4⟩ := told_fault (er := er) (p := p) HV4.out hk' HF4.out HG4.out.2 HFR.out HGL.out HNF.out H1.out H2.out
        exact ret_cellG (cs := #[.int .i64 (er : Int), .int .i64 (p : Int)]) (t := 45) rfl Tryz.underlying45 rfl (by kernel_rfl) rfl rfl h3 h4
end Go.Proofs.YtijnbohjcmcfjaaGreatDoor.Sc
