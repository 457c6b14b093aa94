/-
  Walks: package script's reader of a line: the whole line.
-/
import Derived.Test.YtijnbohjcmcfjaaGreatDoorLSn
import Derived.Laws.EntriesVeiled
namespace Go.Proofs.YtijnbohjcmcfjaaGreatDoor.Sc
open Go.RowKit Go.Proofs.YtijnbohjcmcfjaaGreatDoor.Kt Go.Proofs.YtijnbohjcmcfjaaGreatDoor.Lk Go.Proofs.YtijnbohjcmcfjaaGreatDoor.Sp Go.Proofs.YtijnbohjcmcfjaaGreatDoor.Rw Go.Proofs.YtijnbohjcmcfjaaGreatDoor.Rg
open Go.Proofs.YtijnbohjcmcfjaaGreatDoor.Nu (dgt Sizes isInt pwOf)
set_option linter.unusedSimpArgs false
set_option linter.unusedVariables false
set_option maxRecDepth 100000
variable {base g k : Nat} {s : ByteArray} {c : CallP} {v : Value} {w w0 : World}

/-- the forms' table -/
def formsV : Array Value := #[.string wField, .int .i64 0, .func (.func 40) #[] #[], .string wGroup, .int .i64 1, .func (.func 41) #[] #[], .string wNext, .int .i64 2, .nilFunc, .string wData, .int .i64 3, .func (.func 42) #[] #[]]
theorem forms_any (w : World) : Calls Tryz.prog 18 #[] w fun e w' => e = .returned (.agg formsV) ∧ Below w.heap.size w w' := by
  go_enter Tryz.func18, Tryz.ntmps18
  go_wp2
  refine ret_cellG (cs := formsV) (t := 52) rfl Tryz.underlying52 rfl (by kernel_rfl) rfl rfl (Blk.new _ _ _) ⟨rfl, (Below.refl _ _).alloc (Nat.le_refl _) _⟩
theorem fnil1 (f : FuncId) (w : World) : (binOp .neq 49 (.func (.func f) #[] #[]) .nilFunc).run Tryz.prog w = .ok (.bool true) w := by kernel_rfl
theorem fnil0 (w : World) : (binOp .neq 49 .nilFunc .nilFunc).run Tryz.prog w = .ok (.bool false) w := by kernel_rfl
theorem form0 (w : World) : (Instr.index 52 (.agg formsV) (.int .i64 0)).run Tryz.prog w = .ok (.agg #[.string wField, .int .i64 0, .func (.func 40) #[] #[]]) w := by kernel_rfl
theorem form1 (w : World) : (Instr.index 52 (.agg formsV) (.int .i64 1)).run Tryz.prog w = .ok (.agg #[.string wGroup, .int .i64 1, .func (.func 41) #[] #[]]) w := by kernel_rfl
theorem form2 (w : World) : (Instr.index 52 (.agg formsV) (.int .i64 2)).run Tryz.prog w = .ok (.agg #[.string wNext, .int .i64 2, .nilFunc]) w := by kernel_rfl
theorem form3 (w : World) : (Instr.index 52 (.agg formsV) (.int .i64 3)).run Tryz.prog w = .ok (.agg #[.string wData, .int .i64 3, .func (.func 42) #[] #[]]) w := by kernel_rfl

/-- how a line was read -/
def ReadIt (g : Nat) (s : ByteArray) (base : Nat) (w : World) (e : Ending) (w' : World) : Prop :=
  ∃ (er p k' : Nat) (c' : CallP) (v' : Value), e = .returned (.agg #[.int .i64 (er : Int), .int .i64 (p : Int)]) ∧ RV base g s k' c' v' w' ∧ w.grownBy w' (some g) ∧ Fresh (.slice none 0 0) v' w ∧
    (er ≠ 0 → parseF s = (CallP.none, er, p)) ∧ (er = 0 → parseF s = (c', 0, 0))
theorem read_fault {w' : World} {er p k' : Nat} {c' : CallP} {v' : Value} (hv : RV base g s k' c' v' w') (hF : Blk w' w.heap.size #[.int .i64 0, .int .i64 0] 45)
    (hg : w.grownBy w' (some g)) (hfr : Fresh (.slice none 0 0) v' w) (hgl : g < w.heap.size) (hnf : v'.ownBlock ≠ some w.heap.size) (h1 : er ≠ 0 → parseF s = (CallP.none, er, p)) (h2 : er = 0 → parseF s = (c', 0, 0)) :
    Blk ((w'.setCell ⟨w.heap.size, 0, none⟩ (.int .i64 (er : Int))).setCell ⟨w.heap.size, 1, none⟩ (.int .i64 (p : Int))) w.heap.size #[.int .i64 (er : Int), .int .i64 (p : Int)] 45 ∧
    ReadIt g s base w (.returned (.agg #[.int .i64 (er : Int), .int .i64 (p : Int)])) ((w'.setCell ⟨w.heap.size, 0, none⟩ (.int .i64 (er : Int))).setCell ⟨w.heap.size, 1, none⟩ (.int .i64 (p : Int))) :=
  ⟨(hF.set 0 _).set 1 _, er, p, k', c', v', rfl, (hv.other1 (by omega) hnf _).other1 (by omega) hnf _, grown_set_new (grown_set_new hg _ (Nat.le_refl _) _) _ (Nat.le_refl _) _, hfr, h1, h2⟩
theorem str_neS {a b : ByteArray} (h : a ≠ b) : (a.toList == b.toList) = false := by
  rw [beq_eq_false_iff_ne]
  intro e
  rw [Lib.toList_data, Lib.toList_data] at e
  exact h (ByteArray.ext (Array.toList_inj.1 e))
/-- the word of a form -/
def formW : Nat → ByteArray
  | 0 => wField
  | 1 => wGroup
  | 2 => wNext
  | _ => wData
set_option maxHeartbeats 6400000 in
theorem read_any (hv : RV base g s 0 CallP.none (.slice none 0 0) w) (hm : s.size ≤ 268435456) (he : EnvS w0) (hbs : w0.heap.size = base) (hb : Below base w0 w) :
    Calls Tryz.prog 15 #[.pointer (some ⟨g, 0, none⟩)] w (ReadIt g s base w) := by
  have HGL : Hid (g < w.heap.size) := hv.blk.lt
  have HGE : Hid (base ≤ g) := hv.ge
  have hlt := hv.lt
  have hk1 := skipE_le s 0 (Nat.zero_le _)
  have hk2 := fieldE_ge s (skipE s 0)
  have hk3 := fieldE_le s _ hk1
  have HF : Hid (parseF s = if fieldE s (skipE s 0) = skipE s 0 then (CallP.none, 250, s.size)
    else if sub s (skipE s 0) (fieldE s (skipE s 0)) = wField then namedF s 0 (fieldE s (skipE s 0))
    else if sub s (skipE s 0) (fieldE s (skipE s 0)) = wGroup then namedF s 1 (fieldE s (skipE s 0))
    else if sub s (skipE s 0) (fieldE s (skipE s 0)) = wNext then tailF s (fieldE s (skipE s 0)) ⟨2, ⟨#[]⟩, [], 0, ⟨#[]⟩⟩
    else if sub s (skipE s 0) (fieldE s (skipE s 0)) = wData then namedF s 3 (fieldE s (skipE s 0))
    else (CallP.none, 250, skipE s 0)) := rfl
  have hsz : (sub s (skipE s 0) (fieldE s (skipE s 0))).size = fieldE s (skipE s 0) - skipE s 0 := sub_size s hk3
  have hgn : ¬ g = w.heap.size := by have := HGL.out; omega
  have hgn' : ¬ w.heap.size = g := by have := HGL.out; omega
  go_enter Tryz.func15, Tryz.ntmps15
  go_wp2_with (go_at_call 35; fail)
  refine (field_any (hv.alloc _) (Nat.zero_le _) hm).mono ?_
  rintro e w1 ⟨rfl, hv1, hg1⟩
  have HV1 : Hid (RV base g s (fieldE s (skipE s 0)) CallP.none (.slice none 0 0) w1) := hv1
  have HB1 : Hid (Below base w0 w1) := below_gr (hb.alloc hlt _) hg1 HGE.out (by simp; omega)
  have HF1 : Hid (Blk w1 w.heap.size #[.int .i64 0, .int .i64 0] 45) := blk_kept (Blk.new _ _ _) hg1 (by omega)
  have HG1 : Hid (w1 = w1 ∧ w.grownBy w1 (some g)) := ⟨rfl, (World.grownBy_alloc _ _ _).trans hg1⟩
  have hs1 : w.heap.size + 1 ≤ w1.heap.size := by have := hg1.size; simpa using this
  clear hv1 hg1 hv hb
  generalize hW : sub s (skipE s 0) (fieldE s (skipE s 0)) = W at hsz HF
  generalize fieldE s (skipE s 0) = b at hsz HF HV1 hk2 hk3
  generalize skipE s 0 = a at hsz HF hk1 hk2 hk3
  clear hW
  by_cases h0 : b = a
  · have HN : Hid (parseF s = (CallP.none, 250, s.size)) := by unfold Hid; rw [HF.out, if_pos h0]
    obtain rfl : W = ⟨#[]⟩ := empty_of_size (by omega)
    have c0 := HV1.out.blk.cell 0 (v := .string s) rfl
    have d0 := HF1.out.cell 0 (v := .int .i64 0) rfl
    have d1 := HF1.out.cell 1 (v := .int .i64 0) rfl
    have g0 := HF1.out.free 0
    have g1 := HF1.out.free 1
    clear h0 hsz
    go_wp2
    obtain ⟨h1, h2⟩ := read_fault (er := 250) (p := s.size) HV1.out HF1.out HG1.out.2 (.inl rfl) HGL.out (by simp [Value.ownBlock]) (fun _ => HN.out) (fun h => absurd h (by decide))
    exact ret_cellG (cs := #[.int .i64 250, .int .i64 (s.size : Int)]) (t := 45) rfl Tryz.underlying45 rfl (by kernel_rfl) rfl rfl h1 h2
  · have ie := isEmpty_false (s := W) (by omega)
    have HN : Hid (parseF s = if W = wField then namedF s 0 b else if W = wGroup then namedF s 1 b else if W = wNext then tailF s b ⟨2, ⟨#[]⟩, [], 0, ⟨#[]⟩⟩ else if W = wData then namedF s 3 b else (CallP.none, 250, a)) := by unfold Hid; rw [HF.out, if_neg h0]
    clear h0 HF
    go_wp2_with (go_at_call 18; fail)
    refine (forms_any _).mono ?_
    rintro e w2 ⟨rfl, hb2⟩
    have HV2 : Hid (RV base g s b CallP.none (.slice none 0 0) w2) := HV1.out.below hb2
    have HB2 : Hid (Below base w0 w2) := HB1.out.trans (hb2.mono HV1.out.lt)
    have HF2 : Hid (Blk w2 w.heap.size #[.int .i64 0, .int .i64 0] 45) := HF1.out.below hb2 (by omega)
    have HG2 : Hid (w2 = w2 ∧ w.grownBy w2 (some g)) := ⟨rfl, HG1.out.2.trans (grown_below hb2 _)⟩
    have hs2 : w.heap.size + 1 ≤ w2.heap.size := by have := hb2.size; omega
    clear hb2 HV1 HB1 HF1 HG1 hs1 ie
    generalize hFV : (Value.agg formsV) = FV
    have i0 : ∀ w, (Instr.index 52 FV (.int .i64 0)).run Tryz.prog w = .ok (.agg #[.string wField, .int .i64 0, .func (.func 40) #[] #[]]) w := by rw [← hFV]; exact form0
    have i1 : ∀ w, (Instr.index 52 FV (.int .i64 1)).run Tryz.prog w = .ok (.agg #[.string wGroup, .int .i64 1, .func (.func 41) #[] #[]]) w := by rw [← hFV]; exact form1
    have i2 : ∀ w, (Instr.index 52 FV (.int .i64 2)).run Tryz.prog w = .ok (.agg #[.string wNext, .int .i64 2, .nilFunc]) w := by rw [← hFV]; exact form2
    have i3 : ∀ w, (Instr.index 52 FV (.int .i64 3)).run Tryz.prog w = .ok (.agg #[.string wData, .int .i64 3, .func (.func 42) #[] #[]]) w := by rw [← hFV]; exact form3
    have n1 := fnil1 40
    have n2 := fnil1 41
    have n3 := fnil1 42
    have n0 := fnil0
    clear hFV
    go_wp2
    go_loopg [6, 7, 22] 4 (fun mm _ _ i wr => ∃ j : Nat, mm = 4 - j ∧ j ≤ 4 ∧ i = .int .i64 j ∧ (∀ q, q < j → W ≠ formW q) ∧ RV base g s b CallP.none (.slice none 0 0) wr ∧ Below base w0 wr ∧ Blk wr w.heap.size #[.int .i64 0, .int .i64 0] 45 ∧ w.grownBy wr (some g) ∧ w.heap.size + 1 ≤ wr.heap.size)
    case atStart => exact ⟨0, rfl, by omega, rfl, fun _ h => absurd h (by omega), HV2.out, HB2.out, HF2.out, HG2.out.2, hs2⟩
    case round =>
      obtain ⟨j, hmm, hj, rfl, hne, hv, hb, hF, hg, hs⟩ := hrel
      have HM : Hid (gk = 4 - j) := hmm
      have HNE : Hid (∀ q, q < j → W ≠ formW q) := hne
      have HV : Hid (RV base g s b CallP.none (.slice none 0 0) wr) := hv
      have HB : Hid (Below base w0 wr) := hb
      have HFB : Hid (Blk wr w.heap.size #[.int .i64 0, .int .i64 0] 45) := hF
      have HG : Hid (wr = wr ∧ w.grownBy wr (some g)) := ⟨rfl, hg⟩
      clear hmm hne hv hb hF hg HV2 HB2 HF2 HG2
      have hcase : j = 0 ∨ j = 1 ∨ j = 2 ∨ j = 3 ∨ j = 4 := by omega
      rcases hcase with rfl | rfl | rfl | rfl | rfl
      · as_aux_lemma =>
          by_cases hw : W = wField
          · have HP : Hid (parseF s = namedF s 0 b) := by unfold Hid; rw [HN.out, if_pos hw]
            subst hw
            have e0 : ((wField).toList == (wField).toList) = true := beq_self_eq_true _
            have e1 : ((wField).toList != (wField).toList) = false := by rw [bne, e0]; rfl
            have c2 := (HV.out.alloc (.cells #[.string wField, .int .i64 0, .func (.func 40) #[] #[]] 51)).blk.cell 2 (v := .int .i64 0) rfl
            have f2 := (HV.out.alloc (.cells #[.string wField, .int .i64 0, .func (.func 40) #[] #[]] 51)).blk.free 2
            have HVK : Hid (RV base g s b ⟨0, ⟨#[]⟩, [], 0, ⟨#[]⟩⟩ (.slice none 0 0) ((wr.alloc (.cells #[.string wField, .int .i64 0, .func (.func 40) #[] #[]] 51)).setCell ⟨g, 2, none⟩ (.int .i64 0))) := (HV.out.alloc _).kind' 0
            have HBK : Hid (Below base w0 ((wr.alloc (.cells #[.string wField, .int .i64 0, .func (.func 40) #[] #[]] 51)).setCell ⟨g, 2, none⟩ (.int .i64 0))) := below_set (HB.out.alloc (by omega) _) HGE.out
            have HFK : Hid (Blk ((wr.alloc (.cells #[.string wField, .int .i64 0, .func (.func 40) #[] #[]] 51)).setCell ⟨g, 2, none⟩ (.int .i64 0)) w.heap.size #[.int .i64 0, .int .i64 0] 45) := (HFB.out.alloc _).other ⟨g, 2, none⟩ hgn' _
            have HGK : Hid (wr = wr ∧ w.grownBy ((wr.alloc (.cells #[.string wField, .int .i64 0, .func (.func 40) #[] #[]] 51)).setCell ⟨g, 2, none⟩ (.int .i64 0)) (some g)) := ⟨rfl, grown_set (grown_alloc HG.out.2 _) _ _⟩
            have hgw : ¬ g = wr.heap.size := by have := HGL.out; omega
            have hgw' : ¬ wr.heap.size = g := by have := HGL.out; omega
            go_wp2_with (go_at_call 36; fail)
            refine (named0 HVK.out hk3 hm he hbs HBK.out).mono ?_
            rintro e w4 ⟨er, p, k', c', v', rfl, hv4, hk', hg4, hfr, h1, h2⟩
            have HV4 : Hid (RV base g s k' c' v' w4) := hv4
            have HF4 : Hid (Blk w4 w.heap.size #[.int .i64 0, .int .i64 0] 45) := blk_kept HFK.out hg4 (by omega)
            have HG4 : Hid (w4 = w4 ∧ w.grownBy w4 (some g)) := ⟨rfl, HGK.out.2.trans hg4⟩
            have hs4 : w.heap.size + 1 ≤ w4.heap.size := by have := hg4.size; simp at this; omega
            have HNF : Hid (v'.ownBlock ≠ some w.heap.size) := by
              intro e
              rcases hfr with h | h | ⟨q, hq, hql⟩
              · rw [h] at e; cases e
              · rw [h] at e; cases e
              · rw [hq] at e; injection e with e; simp at hql; omega
            have HFR : Hid (Fresh (.slice none 0 0) v' w) := by
              rcases hfr with h | h | ⟨q, hq, hql⟩
              · exact .inl h
              · exact .inl h
              · exact .inr (.inr ⟨q, hq, by simp at hql; omega⟩)
            have hgw4 : ¬ g = w4.heap.size := by have := HGL.out; omega
            have hgw4' : ¬ w4.heap.size = g := by have := HGL.out; omega
            have hfw4 : ¬ w.heap.size = w4.heap.size := by omega
            have hfw4' : ¬ w4.heap.size = w.heap.size := by omega
            by_cases h0 : er = 0
            · subst h0
              have HT : Hid (parseF s = tailF s k' c') := by unfold Hid; rw [HP.out]; exact h2 rfl
              clear hfr hv4 hg4 h1 h2 HVK HBK HFK HGK c2 f2
              have HV5 : Hid (RV base g s k' c' v' (w4.alloc (.cells #[.int .i64 0, .int .i64 (p : Int)] 45))) := HV4.out.alloc _
              have HF5 : Hid (Blk (w4.alloc (.cells #[.int .i64 0, .int .i64 (p : Int)] 45)) w.heap.size #[.int .i64 0, .int .i64 0] 45) := HF4.out.alloc _
              have HG5 : Hid (w4 = w4 ∧ w.grownBy (w4.alloc (.cells #[.int .i64 0, .int .i64 (p : Int)] 45)) (some g)) := ⟨rfl, grown_alloc HG4.out.2 _⟩
              go_wp2_with (go_at_call 37; fail)
              refine (skip_any HV5.out hk' hm).mono ?_
              have hz1 := skipE_le s k' hk'
              have HTF : Hid (tailF s k' c' = if skipE s k' < s.size then (CallP.none, 250, skipE s k') else (c', 0, 0)) := rfl
              generalize hz : skipE s k' = z at hz1 HTF
              rintro e w6 ⟨rfl, hv6, hg6⟩
              have HV6 : Hid (RV base g s z c' v' w6) := hv6
              have HF6 : Hid (Blk w6 w.heap.size #[.int .i64 0, .int .i64 0] 45) := blk_kept HF5.out hg6 (by omega)
              have HG6 : Hid (w6 = w6 ∧ w.grownBy w6 (some g)) := ⟨rfl, HG5.out.2.trans hg6⟩
              clear hv6 hg6 hz HV5 HF5 HG5
              have c0 := HV6.out.blk.cell 0 (v := .string s) rfl
              have c1 := HV6.out.blk.cell 1 (v := .int .i64 (z : Int)) rfl
              have d0 := HF6.out.cell 0 (v := .int .i64 0) rfl
              have d1 := HF6.out.cell 1 (v := .int .i64 0) rfl
              have g0 := HF6.out.free 0
              have g1 := HF6.out.free 1
              by_cases hzl : z < s.size
              · have HQ : Hid (parseF s = (CallP.none, 250, z)) := by unfold Hid; rw [HT.out, HTF.out, if_pos hzl]
                go_wp2
                go_big_quiet (fail)
                go_wp2
                obtain ⟨h1, h2⟩ := read_fault (er := 250) (p := z) (HV6.out.drewN nq) (HF6.out.drewN nq) (grown_drewN HG6.out.2 nq) HFR.out HGL.out HNF.out (fun _ => HQ.out) (fun h => absurd h (by decide))
                exact ret_cellG (cs := #[.int .i64 250, .int .i64 (z : Int)]) (t := 45) rfl Tryz.underlying45 rfl (by kernel_rfl) rfl rfl h1 h2
              · have HQ : Hid (parseF s = (c', 0, 0)) := by unfold Hid; rw [HT.out, HTF.out, if_neg hzl]
                obtain rfl : z = s.size := by omega
                go_wp2
                go_big_quiet (fail)
                go_wp2
                obtain ⟨h1, h2⟩ := read_fault (er := 0) (p := 0) (HV6.out.drewN nq) (HF6.out.drewN nq) (grown_drewN HG6.out.2 nq) HFR.out HGL.out HNF.out (fun h => absurd rfl h) (fun _ => HQ.out)
                exact ret_cellG (cs := #[.int .i64 0, .int .i64 0]) (t := 45) rfl Tryz.underlying45 rfl (by kernel_rfl) rfl rfl h1 h2
            · have HQ : Hid (parseF s = (CallP.none, er, p)) := by unfold Hid; rw [HP.out]; exact h1 h0
              have e3 : (((er : Nat) : Int) != 0) = true := by rw [bne_iff_ne]; omega
              have HE : Hid (er ≠ 0) := h0
              clear hfr hv4 hg4 h1 h2 h0 HVK HBK HFK HGK c2 f2
              have HF5 : Hid (Blk (w4.alloc (.cells #[.int .i64 (er : Int), .int .i64 (p : Int)] 45)) w.heap.size #[.int .i64 0, .int .i64 0] 45) := HF4.out.alloc _
              have d0 := HF5.out.cell 0 (v := .int .i64 0) rfl
              have d1 := HF5.out.cell 1 (v := .int .i64 0) rfl
              have g0 := HF5.out.free 0
              have g1 := HF5.out.free 1
              go_wp2
              obtain ⟨h1, h2⟩ := read_fault (er := er) (p := p) (HV4.out.alloc (.cells #[.int .i64 (er : Int), .int .i64 (p : Int)] 45)) HF5.out (grown_alloc HG4.out.2 _) HFR.out HGL.out HNF.out (fun _ => HQ.out) (fun h => absurd h HE.out)
              exact ret_cellG (cs := #[.int .i64 (er : Int), .int .i64 (p : Int)]) (t := 45) rfl Tryz.underlying45 rfl (by kernel_rfl) rfl rfl h1 h2
          · have e0 : ((wField).toList == W.toList) = false := str_neS (fun h => hw h.symm)
            have e1 : ((wField).toList != W.toList) = true := by rw [bne, e0]; rfl
            have HNE' : Hid (∀ q, q < 1 → W ≠ formW q) := fun q hq => by
              by_cases h : q < 0
              · exact HNE.out q h
              · obtain rfl : q = 0 := by omega
                exact hw
            clear hw
            go_wp2
            go_roundg (4 - 1)
            case measure => rw [HM.out]; omega
            case rel => exact ⟨1, rfl, by omega, by go_num, HNE'.out, HV.out.alloc _, HB.out.alloc (by omega) _, HFB.out.alloc _, grown_alloc HG.out.2 _, by simp; omega⟩
      · as_aux_lemma =>
          by_cases hw : W = wGroup
          · have HP : Hid (parseF s = namedF s 1 b) := by unfold Hid; rw [HN.out, if_neg (show W ≠ wField from HNE.out 0 (by omega)), if_pos hw]
            subst hw
            have e0 : ((wGroup).toList == (wGroup).toList) = true := beq_self_eq_true _
            have e1 : ((wGroup).toList != (wGroup).toList) = false := by rw [bne, e0]; rfl
            have c2 := (HV.out.alloc (.cells #[.string wGroup, .int .i64 1, .func (.func 41) #[] #[]] 51)).blk.cell 2 (v := .int .i64 0) rfl
            have f2 := (HV.out.alloc (.cells #[.string wGroup, .int .i64 1, .func (.func 41) #[] #[]] 51)).blk.free 2
            have HVK : Hid (RV base g s b ⟨1, ⟨#[]⟩, [], 0, ⟨#[]⟩⟩ (.slice none 0 0) ((wr.alloc (.cells #[.string wGroup, .int .i64 1, .func (.func 41) #[] #[]] 51)).setCell ⟨g, 2, none⟩ (.int .i64 1))) := (HV.out.alloc _).kind' 1
            have HBK : Hid (Below base w0 ((wr.alloc (.cells #[.string wGroup, .int .i64 1, .func (.func 41) #[] #[]] 51)).setCell ⟨g, 2, none⟩ (.int .i64 1))) := below_set (HB.out.alloc (by omega) _) HGE.out
            have HFK : Hid (Blk ((wr.alloc (.cells #[.string wGroup, .int .i64 1, .func (.func 41) #[] #[]] 51)).setCell ⟨g, 2, none⟩ (.int .i64 1)) w.heap.size #[.int .i64 0, .int .i64 0] 45) := (HFB.out.alloc _).other ⟨g, 2, none⟩ hgn' _
            have HGK : Hid (wr = wr ∧ w.grownBy ((wr.alloc (.cells #[.string wGroup, .int .i64 1, .func (.func 41) #[] #[]] 51)).setCell ⟨g, 2, none⟩ (.int .i64 1)) (some g)) := ⟨rfl, grown_set (grown_alloc HG.out.2 _) _ _⟩
            have hgw : ¬ g = wr.heap.size := by have := HGL.out; omega
            have hgw' : ¬ wr.heap.size = g := by have := HGL.out; omega
            go_wp2_with (go_at_call 36; fail)
            refine (named1 HVK.out hk3 hm he hbs HBK.out).mono ?_
            rintro e w4 ⟨er, p, k', c', v', rfl, hv4, hk', hg4, hfr, h1, h2⟩
            have HV4 : Hid (RV base g s k' c' v' w4) := hv4
            have HF4 : Hid (Blk w4 w.heap.size #[.int .i64 0, .int .i64 0] 45) := blk_kept HFK.out hg4 (by omega)
            have HG4 : Hid (w4 = w4 ∧ w.grownBy w4 (some g)) := ⟨rfl, HGK.out.2.trans hg4⟩
            have hs4 : w.heap.size + 1 ≤ w4.heap.size := by have := hg4.size; simp at this; omega
            have HNF : Hid (v'.ownBlock ≠ some w.heap.size) := by
              intro e
              rcases hfr with h | h | ⟨q, hq, hql⟩
              · rw [h] at e; cases e
              · rw [h] at e; cases e
              · rw [hq] at e; injection e with e; simp at hql; omega
            have HFR : Hid (Fresh (.slice none 0 0) v' w) := by
              rcases hfr with h | h | ⟨q, hq, hql⟩
              · exact .inl h
              · exact .inl h
              · exact .inr (.inr ⟨q, hq, by simp at hql; omega⟩)
            have hgw4 : ¬ g = w4.heap.size := by have := HGL.out; omega
            have hgw4' : ¬ w4.heap.size = g := by have := HGL.out; omega
            have hfw4 : ¬ w.heap.size = w4.heap.size := by omega
            have hfw4' : ¬ w4.heap.size = w.heap.size := by omega
            by_cases h0 : er = 0
            · subst h0
              have HT : Hid (parseF s = tailF s k' c') := by unfold Hid; rw [HP.out]; exact h2 rfl
              clear hfr hv4 hg4 h1 h2 HVK HBK HFK HGK c2 f2
              have HV5 : Hid (RV base g s k' c' v' (w4.alloc (.cells #[.int .i64 0, .int .i64 (p : Int)] 45))) := HV4.out.alloc _
              have HF5 : Hid (Blk (w4.alloc (.cells #[.int .i64 0, .int .i64 (p : Int)] 45)) w.heap.size #[.int .i64 0, .int .i64 0] 45) := HF4.out.alloc _
              have HG5 : Hid (w4 = w4 ∧ w.grownBy (w4.alloc (.cells #[.int .i64 0, .int .i64 (p : Int)] 45)) (some g)) := ⟨rfl, grown_alloc HG4.out.2 _⟩
              go_wp2_with (go_at_call 37; fail)
              refine (skip_any HV5.out hk' hm).mono ?_
              have hz1 := skipE_le s k' hk'
              have HTF : Hid (tailF s k' c' = if skipE s k' < s.size then (CallP.none, 250, skipE s k') else (c', 0, 0)) := rfl
              generalize hz : skipE s k' = z at hz1 HTF
              rintro e w6 ⟨rfl, hv6, hg6⟩
              have HV6 : Hid (RV base g s z c' v' w6) := hv6
              have HF6 : Hid (Blk w6 w.heap.size #[.int .i64 0, .int .i64 0] 45) := blk_kept HF5.out hg6 (by omega)
              have HG6 : Hid (w6 = w6 ∧ w.grownBy w6 (some g)) := ⟨rfl, HG5.out.2.trans hg6⟩
              clear hv6 hg6 hz HV5 HF5 HG5
              have c0 := HV6.out.blk.cell 0 (v := .string s) rfl
              have c1 := HV6.out.blk.cell 1 (v := .int .i64 (z : Int)) rfl
              have d0 := HF6.out.cell 0 (v := .int .i64 0) rfl
              have d1 := HF6.out.cell 1 (v := .int .i64 0) rfl
              have g0 := HF6.out.free 0
              have g1 := HF6.out.free 1
              by_cases hzl : z < s.size
              · have HQ : Hid (parseF s = (CallP.none, 250, z)) := by unfold Hid; rw [HT.out, HTF.out, if_pos hzl]
                go_wp2
                go_big_quiet (fail)
                go_wp2
                obtain ⟨h1, h2⟩ := read_fault (er := 250) (p := z) (HV6.out.drewN nq) (HF6.out.drewN nq) (grown_drewN HG6.out.2 nq) HFR.out HGL.out HNF.out (fun _ => HQ.out) (fun h => absurd h (by decide))
                exact ret_cellG (cs := #[.int .i64 250, .int .i64 (z : Int)]) (t := 45) rfl Tryz.underlying45 rfl (by kernel_rfl) rfl rfl h1 h2
              · have HQ : Hid (parseF s = (c', 0, 0)) := by unfold Hid; rw [HT.out, HTF.out, if_neg hzl]
                obtain rfl : z = s.size := by omega
                go_wp2
                go_big_quiet (fail)
                go_wp2
                obtain ⟨h1, h2⟩ := read_fault (er := 0) (p := 0) (HV6.out.drewN nq) (HF6.out.drewN nq) (grown_drewN HG6.out.2 nq) HFR.out HGL.out HNF.out (fun h => absurd rfl h) (fun _ => HQ.out)
                exact ret_cellG (cs := #[.int .i64 0, .int .i64 0]) (t := 45) rfl Tryz.underlying45 rfl (by kernel_rfl) rfl rfl h1 h2
            · have HQ : Hid (parseF s = (CallP.none, er, p)) := by unfold Hid; rw [HP.out]; exact h1 h0
              have e3 : (((er : Nat) : Int) != 0) = true := by rw [bne_iff_ne]; omega
              have HE : Hid (er ≠ 0) := h0
              clear hfr hv4 hg4 h1 h2 h0 HVK HBK HFK HGK c2 f2
              have HF5 : Hid (Blk (w4.alloc (.cells #[.int .i64 (er : Int), .int .i64 (p : Int)] 45)) w.heap.size #[.int .i64 0, .int .i64 0] 45) := HF4.out.alloc _
              have d0 := HF5.out.cell 0 (v := .int .i64 0) rfl
              have d1 := HF5.out.cell 1 (v := .int .i64 0) rfl
              have g0 := HF5.out.free 0
              have g1 := HF5.out.free 1
              go_wp2
              obtain ⟨h1, h2⟩ := read_fault (er := er) (p := p) (HV4.out.alloc (.cells #[.int .i64 (er : Int), .int .i64 (p : Int)] 45)) HF5.out (grown_alloc HG4.out.2 _) HFR.out HGL.out HNF.out (fun _ => HQ.out) (fun h => absurd h HE.out)
              exact ret_cellG (cs := #[.int .i64 (er : Int), .int .i64 (p : Int)]) (t := 45) rfl Tryz.underlying45 rfl (by kernel_rfl) rfl rfl h1 h2
          · have e0 : ((wGroup).toList == W.toList) = false := str_neS (fun h => hw h.symm)
            have e1 : ((wGroup).toList != W.toList) = true := by rw [bne, e0]; rfl
            have HNE' : Hid (∀ q, q < 2 → W ≠ formW q) := fun q hq => by
              by_cases h : q < 1
              · exact HNE.out q h
              · obtain rfl : q = 1 := by omega
                exact hw
            clear hw
            go_wp2
            go_roundg (4 - 2)
            case measure => rw [HM.out]; omega
            case rel => exact ⟨2, rfl, by omega, by go_num, HNE'.out, HV.out.alloc _, HB.out.alloc (by omega) _, HFB.out.alloc _, grown_alloc HG.out.2 _, by simp; omega⟩
      · as_aux_lemma =>
          by_cases hw : W = wNext
          · have HP : Hid (parseF s = tailF s b ⟨2, ⟨#[]⟩, [], 0, ⟨#[]⟩⟩) := by unfold Hid; rw [HN.out, if_neg (show W ≠ wField from HNE.out 0 (by omega)), if_neg (show W ≠ wGroup from HNE.out 1 (by omega)), if_pos hw]
            subst hw
            have e0 : ((wNext).toList == (wNext).toList) = true := beq_self_eq_true _
            have e1 : ((wNext).toList != (wNext).toList) = false := by rw [bne, e0]; rfl
            have c2 := (HV.out.alloc (.cells #[.string wNext, .int .i64 2, .nilFunc] 51)).blk.cell 2 (v := .int .i64 0) rfl
            have f2 := (HV.out.alloc (.cells #[.string wNext, .int .i64 2, .nilFunc] 51)).blk.free 2
            have HVK : Hid (RV base g s b ⟨2, ⟨#[]⟩, [], 0, ⟨#[]⟩⟩ (.slice none 0 0) ((wr.alloc (.cells #[.string wNext, .int .i64 2, .nilFunc] 51)).setCell ⟨g, 2, none⟩ (.int .i64 2))) := (HV.out.alloc _).kind' 2
            have HBK : Hid (Below base w0 ((wr.alloc (.cells #[.string wNext, .int .i64 2, .nilFunc] 51)).setCell ⟨g, 2, none⟩ (.int .i64 2))) := below_set (HB.out.alloc (by omega) _) HGE.out
            have HFK : Hid (Blk ((wr.alloc (.cells #[.string wNext, .int .i64 2, .nilFunc] 51)).setCell ⟨g, 2, none⟩ (.int .i64 2)) w.heap.size #[.int .i64 0, .int .i64 0] 45) := (HFB.out.alloc _).other ⟨g, 2, none⟩ hgn' _
            have HGK : Hid (wr = wr ∧ w.grownBy ((wr.alloc (.cells #[.string wNext, .int .i64 2, .nilFunc] 51)).setCell ⟨g, 2, none⟩ (.int .i64 2)) (some g)) := ⟨rfl, grown_set (grown_alloc HG.out.2 _) _ _⟩
            have hgw : ¬ g = wr.heap.size := by have := HGL.out; omega
            have hgw' : ¬ wr.heap.size = g := by have := HGL.out; omega
            have HT : Hid (parseF s = tailF s b ⟨2, ⟨#[]⟩, [], 0, ⟨#[]⟩⟩) := HP.out
            have hk' := hk3
            have HNF : Hid ((Value.slice none 0 0).ownBlock ≠ some w.heap.size) := by unfold Hid; simp [Value.ownBlock]
            have HFR : Hid (Fresh (.slice none 0 0) (.slice none 0 0) w) := .inl rfl
            have HV5 : Hid (RV base g s b ⟨2, ⟨#[]⟩, [], 0, ⟨#[]⟩⟩ (.slice none 0 0) _) := HVK.out
            have HF5 : Hid (Blk _ w.heap.size #[.int .i64 0, .int .i64 0] 45) := HFK.out
            have HG5 : Hid (wr = wr ∧ w.grownBy _ (some g)) := HGK.out
            clear HVK HFK HGK HBK
            go_wp2_with (go_at_call 37; fail)
            refine (skip_any HV5.out hk' hm).mono ?_
            have hz1 := skipE_le s b hk'
            have HTF : Hid (tailF s b ⟨2, ⟨#[]⟩, [], 0, ⟨#[]⟩⟩ = if skipE s b < s.size then (CallP.none, 250, skipE s b) else ((⟨2, ⟨#[]⟩, [], 0, ⟨#[]⟩⟩ : CallP), 0, 0)) := rfl
            generalize hz : skipE s b = z at hz1 HTF
            rintro e w6 ⟨rfl, hv6, hg6⟩
            have HV6 : Hid (RV base g s z ⟨2, ⟨#[]⟩, [], 0, ⟨#[]⟩⟩ (.slice none 0 0) w6) := hv6
            have HF6 : Hid (Blk w6 w.heap.size #[.int .i64 0, .int .i64 0] 45) := blk_kept HF5.out hg6 (by omega)
            have HG6 : Hid (w6 = w6 ∧ w.grownBy w6 (some g)) := ⟨rfl, HG5.out.2.trans hg6⟩
            clear hv6 hg6 hz HV5 HF5 HG5
            have c0 := HV6.out.blk.cell 0 (v := .string s) rfl
            have c1 := HV6.out.blk.cell 1 (v := .int .i64 (z : Int)) rfl
            have d0 := HF6.out.cell 0 (v := .int .i64 0) rfl
            have d1 := HF6.out.cell 1 (v := .int .i64 0) rfl
            have g0 := HF6.out.free 0
            have g1 := HF6.out.free 1
            by_cases hzl : z < s.size
            · have HQ : Hid (parseF s = (CallP.none, 250, z)) := by unfold Hid; rw [HT.out, HTF.out, if_pos hzl]
              go_wp2
              go_big_quiet (fail)
              go_wp2
              obtain ⟨h1, h2⟩ := read_fault (er := 250) (p := z) (HV6.out.drewN nq) (HF6.out.drewN nq) (grown_drewN HG6.out.2 nq) HFR.out HGL.out HNF.out (fun _ => HQ.out) (fun h => absurd h (by decide))
              exact ret_cellG (cs := #[.int .i64 250, .int .i64 (z : Int)]) (t := 45) rfl Tryz.underlying45 rfl (by kernel_rfl) rfl rfl h1 h2
            · have HQ : Hid (parseF s = ((⟨2, ⟨#[]⟩, [], 0, ⟨#[]⟩⟩ : CallP), 0, 0)) := by unfold Hid; rw [HT.out, HTF.out, if_neg hzl]
              obtain rfl : z = s.size := by omega
              go_wp2
              go_big_quiet (fail)
              go_wp2
              obtain ⟨h1, h2⟩ := read_fault (er := 0) (p := 0) (HV6.out.drewN nq) (HF6.out.drewN nq) (grown_drewN HG6.out.2 nq) HFR.out HGL.out HNF.out (fun h => absurd rfl h) (fun _ => HQ.out)
              exact ret_cellG (cs := #[.int .i64 0, .int .i64 0]) (t := 45) rfl Tryz.underlying45 rfl (by kernel_rfl) rfl rfl h1 h2
          · have e0 : ((wNext).toList == W.toList) = false := str_neS (fun h => hw h.symm)
            have e1 : ((wNext).toList != W.toList) = true := by rw [bne, e0]; rfl
            have HNE' : Hid (∀ q, q < 3 → W ≠ formW q) := fun q hq => by
              by_cases h : q < 2
              · exact HNE.out q h
              · obtain rfl : q = 2 := by omega
                exact hw
            clear hw
            go_wp2
            go_roundg (4 - 3)
            case measure => rw [HM.out]; omega
            case rel => exact ⟨3, rfl, by omega, by go_num, HNE'.out, HV.out.alloc _, HB.out.alloc (by omega) _, HFB.out.alloc _, grown_alloc HG.out.2 _, by simp; omega⟩
      · as_aux_lemma =>
          by_cases hw : W = wData
          · have HP : Hid (parseF s = namedF s 3 b) := by unfold Hid; rw [HN.out, if_neg (show W ≠ wField from HNE.out 0 (by omega)), if_neg (show W ≠ wGroup from HNE.out 1 (by omega)), if_neg (show W ≠ wNext from HNE.out 2 (by omega)), if_pos hw]
            subst hw
            have e0 : ((wData).toList == (wData).toList) = true := beq_self_eq_true _
            have e1 : ((wData).toList != (wData).toList) = false := by rw [bne, e0]; rfl
            have c2 := (HV.out.alloc (.cells #[.string wData, .int .i64 3, .func (.func 42) #[] #[]] 51)).blk.cell 2 (v := .int .i64 0) rfl
            have f2 := (HV.out.alloc (.cells #[.string wData, .int .i64 3, .func (.func 42) #[] #[]] 51)).blk.free 2
            have HVK : Hid (RV base g s b ⟨3, ⟨#[]⟩, [], 0, ⟨#[]⟩⟩ (.slice none 0 0) ((wr.alloc (.cells #[.string wData, .int .i64 3, .func (.func 42) #[] #[]] 51)).setCell ⟨g, 2, none⟩ (.int .i64 3))) := (HV.out.alloc _).kind' 3
            have HBK : Hid (Below base w0 ((wr.alloc (.cells #[.string wData, .int .i64 3, .func (.func 42) #[] #[]] 51)).setCell ⟨g, 2, none⟩ (.int .i64 3))) := below_set (HB.out.alloc (by omega) _) HGE.out
            have HFK : Hid (Blk ((wr.alloc (.cells #[.string wData, .int .i64 3, .func (.func 42) #[] #[]] 51)).setCell ⟨g, 2, none⟩ (.int .i64 3)) w.heap.size #[.int .i64 0, .int .i64 0] 45) := (HFB.out.alloc _).other ⟨g, 2, none⟩ hgn' _
            have HGK : Hid (wr = wr ∧ w.grownBy ((wr.alloc (.cells #[.string wData, .int .i64 3, .func (.func 42) #[] #[]] 51)).setCell ⟨g, 2, none⟩ (.int .i64 3)) (some g)) := ⟨rfl, grown_set (grown_alloc HG.out.2 _) _ _⟩
            have hgw : ¬ g = wr.heap.size := by have := HGL.out; omega
            have hgw' : ¬ wr.heap.size = g := by have := HGL.out; omega
            go_wp2_with (go_at_call 36; fail)
            refine (named3 HVK.out hk3 hm he hbs HBK.out).mono ?_
            rintro e w4 ⟨er, p, k', c', v', rfl, hv4, hk', hg4, hfr, h1, h2⟩
            have HV4 : Hid (RV base g s k' c' v' w4) := hv4
            have HF4 : Hid (Blk w4 w.heap.size #[.int .i64 0, .int .i64 0] 45) := blk_kept HFK.out hg4 (by omega)
            have HG4 : Hid (w4 = w4 ∧ w.grownBy w4 (some g)) := ⟨rfl, HGK.out.2.trans hg4⟩
            have hs4 : w.heap.size + 1 ≤ w4.heap.size := by have := hg4.size; simp at this; omega
            have HNF : Hid (v'.ownBlock ≠ some w.heap.size) := by
              intro e
              rcases hfr with h | h | ⟨q, hq, hql⟩
              · rw [h] at e; cases e
              · rw [h] at e; cases e
              · rw [hq] at e; injection e with e; simp at hql; omega
            have HFR : Hid (Fresh (.slice none 0 0) v' w) := by
              rcases hfr with h | h | ⟨q, hq, hql⟩
              · exact .inl h
              · exact .inl h
              · exact .inr (.inr ⟨q, hq, by simp at hql; omega⟩)
            have hgw4 : ¬ g = w4.heap.size := by have := HGL.out; omega
            have hgw4' : ¬ w4.heap.size = g := by have := HGL.out; omega
            have hfw4 : ¬ w.heap.size = w4.heap.size := by omega
            have hfw4' : ¬ w4.heap.size = w.heap.size := by omega
            by_cases h0 : er = 0
            · subst h0
              have HT : Hid (parseF s = tailF s k' c') := by unfold Hid; rw [HP.out]; exact h2 rfl
              clear hfr hv4 hg4 h1 h2 HVK HBK HFK HGK c2 f2
              have HV5 : Hid (RV base g s k' c' v' (w4.alloc (.cells #[.int .i64 0, .int .i64 (p : Int)] 45))) := HV4.out.alloc _
              have HF5 : Hid (Blk (w4.alloc (.cells #[.int .i64 0, .int .i64 (p : Int)] 45)) w.heap.size #[.int .i64 0, .int .i64 0] 45) := HF4.out.alloc _
              have HG5 : Hid (w4 = w4 ∧ w.grownBy (w4.alloc (.cells #[.int .i64 0, .int .i64 (p : Int)] 45)) (some g)) := ⟨rfl, grown_alloc HG4.out.2 _⟩
              go_wp2_with (go_at_call 37; fail)
              refine (skip_any HV5.out hk' hm).mono ?_
              have hz1 := skipE_le s k' hk'
              have HTF : Hid (tailF s k' c' = if skipE s k' < s.size then (CallP.none, 250, skipE s k') else (c', 0, 0)) := rfl
              generalize hz : skipE s k' = z at hz1 HTF
              rintro e w6 ⟨rfl, hv6, hg6⟩
              have HV6 : Hid (RV base g s z c' v' w6) := hv6
              have HF6 : Hid (Blk w6 w.heap.size #[.int .i64 0, .int .i64 0] 45) := blk_kept HF5.out hg6 (by omega)
              have HG6 : Hid (w6 = w6 ∧ w.grownBy w6 (some g)) := ⟨rfl, HG5.out.2.trans hg6⟩
              clear hv6 hg6 hz HV5 HF5 HG5
              have c0 := HV6.out.blk.cell 0 (v := .string s) rfl
              have c1 := HV6.out.blk.cell 1 (v := .int .i64 (z : Int)) rfl
              have d0 := HF6.out.cell 0 (v := .int .i64 0) rfl
              have d1 := HF6.out.cell 1 (v := .int .i64 0) rfl
              have g0 := HF6.out.free 0
              have g1 := HF6.out.free 1
              by_cases hzl : z < s.size
              · have HQ : Hid (parseF s = (CallP.none, 250, z)) := by unfold Hid; rw [HT.out, HTF.out, if_pos hzl]
                go_wp2
                go_big_quiet (fail)
                go_wp2
                obtain ⟨h1, h2⟩ := read_fault (er := 250) (p := z) (HV6.out.drewN nq) (HF6.out.drewN nq) (grown_drewN HG6.out.2 nq) HFR.out HGL.out HNF.out (fun _ => HQ.out) (fun h => absurd h (by decide))
                exact ret_cellG (cs := #[.int .i64 250, .int .i64 (z : Int)]) (t := 45) rfl Tryz.underlying45 rfl (by kernel_rfl) rfl rfl h1 h2
              · have HQ : Hid (parseF s = (c', 0, 0)) := by unfold Hid; rw [HT.out, HTF.out, if_neg hzl]
                obtain rfl : z = s.size := by omega
                go_wp2
                go_big_quiet (fail)
                go_wp2
                obtain ⟨h1, h2⟩ := read_fault (er := 0) (p := 0) (HV6.out.drewN nq) (HF6.out.drewN nq) (grown_drewN HG6.out.2 nq) HFR.out HGL.out HNF.out (fun h => absurd rfl h) (fun _ => HQ.out)
                exact ret_cellG (cs := #[.int .i64 0, .int .i64 0]) (t := 45) rfl Tryz.underlying45 rfl (by kernel_rfl) rfl rfl h1 h2
            · have HQ : Hid (parseF s = (CallP.none, er, p)) := by unfold Hid; rw [HP.out]; exact h1 h0
              have e3 : (((er : Nat) : Int) != 0) = true := by rw [bne_iff_ne]; omega
              have HE : Hid (er ≠ 0) := h0
              clear hfr hv4 hg4 h1 h2 h0 HVK HBK HFK HGK c2 f2
              have HF5 : Hid (Blk (w4.alloc (.cells #[.int .i64 (er : Int), .int .i64 (p : Int)] 45)) w.heap.size #[.int .i64 0, .int .i64 0] 45) := HF4.out.alloc _
              have d0 := HF5.out.cell 0 (v := .int .i64 0) rfl
              have d1 := HF5.out.cell 1 (v := .int .i64 0) rfl
              have g0 := HF5.out.free 0
              have g1 := HF5.out.free 1
              go_wp2
              obtain ⟨h1, h2⟩ := read_fault (er := er) (p := p) (HV4.out.alloc (.cells #[.int .i64 (er : Int), .int .i64 (p : Int)] 45)) HF5.out (grown_alloc HG4.out.2 _) HFR.out HGL.out HNF.out (fun _ => HQ.out) (fun h => absurd h HE.out)
              exact ret_cellG (cs := #[.int .i64 (er : Int), .int .i64 (p : Int)]) (t := 45) rfl Tryz.underlying45 rfl (by kernel_rfl) rfl rfl h1 h2
          · have e0 : ((wData).toList == W.toList) = false := str_neS (fun h => hw h.symm)
            have e1 : ((wData).toList != W.toList) = true := by rw [bne, e0]; rfl
            have HNE' : Hid (∀ q, q < 4 → W ≠ formW q) := fun q hq => by
              by_cases h : q < 3
              · exact HNE.out q h
              · obtain rfl : q = 3 := by omega
                exact hw
            clear hw
            go_wp2
            go_roundg (4 - 4)
            case measure => rw [HM.out]; omega
            case rel => exact ⟨4, rfl, by omega, by go_num, HNE'.out, HV.out.alloc _, HB.out.alloc (by omega) _, HFB.out.alloc _, grown_alloc HG.out.2 _, by simp; omega⟩
      · as_aux_lemma =>
          have HQ : Hid (parseF s = (CallP.none, 250, a)) := by unfold Hid; rw [HN.out, if_neg (show W ≠ wField from HNE.out 0 (by omega)), if_neg (show W ≠ wGroup from HNE.out 1 (by omega)), if_neg (show W ≠ wNext from HNE.out 2 (by omega)), if_neg (show W ≠ wData from HNE.out 3 (by omega))]
          have d0 := HFB.out.cell 0 (v := .int .i64 0) rfl
          have d1 := HFB.out.cell 1 (v := .int .i64 0) rfl
          have g0 := HFB.out.free 0
          have g1 := HFB.out.free 1
          go_wp2
          obtain ⟨h1, h2⟩ := read_fault (er := 250) (p := a) HV.out HFB.out HG.out.2 (.inl rfl) HGL.out (by simp [Value.ownBlock]) (fun _ => HQ.out) (fun h => absurd h (by decide))
          exact ret_cellG (cs := #[.int .i64 250, .int .i64 (a : Int)]) (t := 45) rfl Tryz.underlying45 rfl (by kernel_rfl) rfl rfl h1 h2
end Go.Proofs.YtijnbohjcmcfjaaGreatDoor.Sc
