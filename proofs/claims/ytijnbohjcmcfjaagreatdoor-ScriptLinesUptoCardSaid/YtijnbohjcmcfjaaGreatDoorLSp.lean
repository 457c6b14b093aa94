/-
  Walks: package script's Parse.
-/
import Derived.Test.YtijnbohjcmcfjaaGreatDoorLSr
import Derived.Test.YtijnbohjcmcfjaaGreatDoorLReg
namespace Go.Proofs.YtijnbohjcmcfjaaGreatDoor.Sc
open Go.RowKit Go.Proofs.YtijnbohjcmcfjaaGreatDoor.Kt Go.Proofs.YtijnbohjcmcfjaaGreatDoor.Lk Go.Proofs.YtijnbohjcmcfjaaGreatDoor.Sp Go.Proofs.YtijnbohjcmcfjaaGreatDoor.Rw Go.Proofs.YtijnbohjcmcfjaaGreatDoor.Rg
open Go.Proofs.YtijnbohjcmcfjaaGreatDoor.Nu (dgt Sizes isInt pwOf)
set_option linter.unusedSimpArgs false
set_option linter.unusedVariables false
set_option maxRecDepth 100000
variable {base g k : Nat} {s : ByteArray} {c : CallP} {v : Value} {w w0 : World}

/-- a function whose first result of three lies in a block of its own -/
theorem ret_cell3G {P : Program} {fn : Func} {R : Ending → World → Prop} {p x y : Tmp} {ty t : TypeId} {d : TypeDesc} (hres : fn.results = #[.cell p ty, .tmp x, .tmp y]) (hu : P.underlying ty = some d) (hd : (match d with | .struct _ | .array _ _ => true | _ => false) = true)
    {cs : Array Value} (hi : (P.info? ty).map (·.size) = some cs.size) {a : Act} {W : World} {g : Nat} {X Y : Value} (hdef : a.defers = []) (h2 : a.tmps.getD p undef = .pointer (some ⟨g, 0, none⟩)) (hx : a.tmps.getD x undef = X) (hy : a.tmps.getD y undef = Y) (hb : Blk W g cs t)
    (hR : R (.returned (.tuple #[.agg cs, X, Y])) W) : bodyPost P fn R .ret a W := by
  have hp' : a.tmps[p]?.getD undef = .pointer (some ⟨g, 0, none⟩) := by simpa using h2
  have hx' : a.tmps[x]?.getD undef = X := by simpa using hx
  have hy' : a.tmps[y]?.getD undef = Y := by simpa using hy
  exact bodyPost_ret (v := .tuple #[.agg cs, X, Y]) (by simp [results, hres, hp', hx', hy', asAddr, run_loadVar_row W g t ty cs (0, 0) d hb hu hd hi]) hdef hR
/-- a call as a value, its words' row v -/
def callV (c : CallP) (v : Value) : Array Value := #[.int .i64 c.kind, .string c.name, v, .int .i64 c.count, .string c.text]
def ParsePost (s : ByteArray) (w : World) (e : Ending) (w' : World) : Prop :=
  ∃ v, e = .returned (.tuple #[.agg (callV (parseF s).1 v), .int .i64 ((parseF s).2.1 : Int), .int .i64 ((parseF s).2.2 : Int)]) ∧ w'.ownsRow w.heap.size 30 1 v (parseF s).1.words.length (wordsV (parseF s).1.words) ∧ Below w.heap.size w w'
theorem parsePost_mk {w' : World} {er p : Nat} (h : parseF s = (c, er, p)) (ho : w'.ownsRow w.heap.size 30 1 v c.words.length (wordsV c.words)) (hb : Below w.heap.size w w') : ParsePost s w (.returned (.tuple #[.agg (callV c v), .int .i64 (er : Int), .int .i64 (p : Int)])) w' := by
  unfold ParsePost; rw [h]; exact ⟨v, rfl, ho, hb⟩
def CellsF (f : Nat) (er p : Nat) (w : World) : Prop := w.cell? ⟨f, 0, none⟩ = some (.int .i64 (er : Int)) ∧ w.cell? ⟨f, 1, none⟩ = some (.int .i64 (p : Int))
set_option maxHeartbeats 1600000 in
theorem parse_any (s : ByteArray) (w : World) (hm : s.size ≤ 268435456) (he : EnvS w) : Calls Tryz.prog 5 #[.string s] w (ParsePost s w) := by
  have HV0 : Hid (RV w.heap.size (w.heap.size + 1) s 0 CallP.none (.slice none 0 0) ((w.alloc (.cells #[.int .i64 0, .string ⟨#[]⟩, .slice none 0 0, .int .i64 0, .string ⟨#[]⟩] 25)).alloc (.cells #[.string s, .int .i64 0, .int .i64 0, .string ⟨#[]⟩, .slice none 0 0, .int .i64 0, .string ⟨#[]⟩] 43))) := by
    refine ⟨by omega, ?_, World.ownsRow_nil _ _ _ _, by simp [Value.ownBlock]⟩
    have := Blk.new (w.alloc (.cells #[.int .i64 0, .string ⟨#[]⟩, .slice none 0 0, .int .i64 0, .string ⟨#[]⟩] 25)) #[.string s, .int .i64 0, .int .i64 0, .string ⟨#[]⟩, .slice none 0 0, .int .i64 0, .string ⟨#[]⟩] 43
    simpa [CallP.none] using this
  have HB0 : Hid (Below w.heap.size w ((w.alloc (.cells #[.int .i64 0, .string ⟨#[]⟩, .slice none 0 0, .int .i64 0, .string ⟨#[]⟩] 25)).alloc (.cells #[.string s, .int .i64 0, .int .i64 0, .string ⟨#[]⟩, .slice none 0 0, .int .i64 0, .string ⟨#[]⟩] 43))) := ((Below.refl _ _).alloc (Nat.le_refl _) _).alloc (by simp) _
  have HR0 : Hid (Blk ((w.alloc (.cells #[.int .i64 0, .string ⟨#[]⟩, .slice none 0 0, .int .i64 0, .string ⟨#[]⟩] 25)).alloc (.cells #[.string s, .int .i64 0, .int .i64 0, .string ⟨#[]⟩, .slice none 0 0, .int .i64 0, .string ⟨#[]⟩] 43)) w.heap.size #[.int .i64 0, .string ⟨#[]⟩, .slice none 0 0, .int .i64 0, .string ⟨#[]⟩] 25) := (Blk.new _ _ _).alloc _
  go_enter Tryz.func5, Tryz.ntmps5
  go_wp2_with (go_at_call 15; fail)
  refine (read_any HV0.out hm he rfl HB0.out).mono ?_
  rintro e w1 ⟨er, p, k', c', v', rfl, hv1, hg1, hfr, h1, h2⟩
  have HV1 : Hid (RV w.heap.size (w.heap.size + 1) s k' c' v' w1) := hv1
  have HB1 : Hid (Below w.heap.size w w1) := below_gr HB0.out hg1 (by omega) (by simp; omega)
  have HR1 : Hid (Blk w1 w.heap.size #[.int .i64 0, .string ⟨#[]⟩, .slice none 0 0, .int .i64 0, .string ⟨#[]⟩] 25) := blk_kept HR0.out hg1 (by omega)
  have hs1 : w.heap.size + 2 ≤ w1.heap.size := by have := hg1.size; simpa using this
  have HNE : Hid (v'.ownBlock ≠ some w.heap.size) := by
    intro e
    rcases hfr with h | h | ⟨q, hq, hql⟩
    · rw [h] at e; cases e
    · rw [h] at e; cases e
    · rw [hq] at e; injection e with e; simp at hql; omega
  clear hfr hv1 hg1 HV0 HB0 HR0
  by_cases h0 : er = 0
  · have HP : Hid (parseF s = (c', 0, 0)) := h2 h0
    subst h0
    obtain ⟨kd, nm, ws, ct, tx⟩ := c'
    have HV2 : Hid (RV w.heap.size (w.heap.size + 1) s k' ⟨kd, nm, ws, ct, tx⟩ v' (w1.alloc (.cells #[.int .i64 0, .int .i64 (p : Int)] 45))) := HV1.out.alloc _
    have HR2 : Hid (Blk (w1.alloc (.cells #[.int .i64 0, .int .i64 (p : Int)] 45)) w.heap.size #[.int .i64 0, .string ⟨#[]⟩, .slice none 0 0, .int .i64 0, .string ⟨#[]⟩] 25) := HR1.out.alloc _
    obtain ⟨A, cp, rfl⟩ := row_is HV1.out.own
    have c2 := HV2.out.blk.cell 2 (v := .int .i64 kd) rfl
    have c3 := HV2.out.blk.cell 3 (v := .string nm) rfl
    have c4 := HV2.out.blk.cell 4 (v := .slice A ws.length cp) rfl
    have c5 := HV2.out.blk.cell 5 (v := .int .i64 ct) rfl
    have c6 := HV2.out.blk.cell 6 (v := .string tx) rfl
    have r0 := HR2.out.cell 0 (v := .int .i64 0) rfl
    have r1 := HR2.out.cell 1 (v := .string ⟨#[]⟩) rfl
    have r2 := HR2.out.cell 2 (v := .slice none 0 0) rfl
    have r3 := HR2.out.cell 3 (v := .int .i64 0) rfl
    have r4 := HR2.out.cell 4 (v := .string ⟨#[]⟩) rfl
    have q0 := HR2.out.free 0
    have q1 := HR2.out.free 1
    have q2 := HR2.out.free 2
    have q3 := HR2.out.free 3
    have q4 := HR2.out.free 4
    clear h1 h2 HV1
    go_wp2
    have h2 := ((((HR2.out.set 0 (.int .i64 kd)).set 1 (.string nm)).set 2 (.slice A ws.length cp)).set 3 (.int .i64 ct)).set 4 (.string tx)
    refine ret_cell3G (cs := #[.int .i64 kd, .string nm, .slice A ws.length cp, .int .i64 ct, .string tx]) (t := 25) rfl Tryz.underlying25 rfl (by kernel_rfl) rfl rfl rfl rfl h2 ?_
    refine parsePost_mk (c := ⟨kd, nm, ws, ct, tx⟩) HP.out ?_ ?_
    · exact own_set (own_set (own_set (own_set (own_set HV2.out.own HNE.out) HNE.out) HNE.out) HNE.out) HNE.out
    · exact below_set (below_set (below_set (below_set (below_set (HB1.out.alloc (by omega) _) (Nat.le_refl _)) (Nat.le_refl _)) (Nat.le_refl _)) (Nat.le_refl _)) (Nat.le_refl _)
  · have HP : Hid (parseF s = (CallP.none, er, p)) := h1 h0
    have HR2 : Hid (Blk (w1.alloc (.cells #[.int .i64 (er : Int), .int .i64 (p : Int)] 45)) w.heap.size #[.int .i64 0, .string ⟨#[]⟩, .slice none 0 0, .int .i64 0, .string ⟨#[]⟩] 25) := HR1.out.alloc _
    have HF2 : Hid (Blk (w1.alloc (.cells #[.int .i64 (er : Int), .int .i64 (p : Int)] 45)) w1.heap.size #[.int .i64 (er : Int), .int .i64 (p : Int)] 45) := Blk.new _ _ _
    have HB2 : Hid (Below w.heap.size w (w1.alloc (.cells #[.int .i64 (er : Int), .int .i64 (p : Int)] 45))) := HB1.out.alloc (by omega) _
    have r0 := HR2.out.cell 0 (v := .int .i64 0) rfl
    have r1 := HR2.out.cell 1 (v := .string ⟨#[]⟩) rfl
    have r2 := HR2.out.cell 2 (v := .slice none 0 0) rfl
    have r3 := HR2.out.cell 3 (v := .int .i64 0) rfl
    have r4 := HR2.out.cell 4 (v := .string ⟨#[]⟩) rfl
    have q0 := HR2.out.free 0
    have q1 := HR2.out.free 1
    have q2 := HR2.out.free 2
    have q3 := HR2.out.free 3
    have q4 := HR2.out.free 4
    have e3 : (((er : Nat) : Int) != 0) = true := by rw [bne_iff_ne]; omega
    clear h0 h1 h2 HV1
    have hne1 : ¬ w1.heap.size = w.heap.size := by omega
    have hne2 : ¬ w.heap.size = w1.heap.size := by omega
    have HS : Hid (∀ W', W' = (((((((w1.alloc (.cells #[.int .i64 (er : Int), .int .i64 (p : Int)] 45)).setCell ⟨w.heap.size, 0, none⟩ (.int .i64 0)).setCell ⟨w.heap.size, 1, none⟩ (.string ⟨#[]⟩)).setCell ⟨w.heap.size, 2, none⟩ (.slice none 0 0)).setCell ⟨w.heap.size, 3, none⟩ (.int .i64 0)).setCell ⟨w.heap.size, 4, none⟩ (.string ⟨#[]⟩)).drew) → CellsF w1.heap.size er p W') := by
      intro W' e
      have h := ((((HF2.out.other ⟨w.heap.size, 0, none⟩ hne1 (.int .i64 0)).other ⟨w.heap.size, 1, none⟩ hne1 (.string ⟨#[]⟩)).other ⟨w.heap.size, 2, none⟩ hne1 (.slice none 0 0)).other ⟨w.heap.size, 3, none⟩ hne1 (.int .i64 0)).other ⟨w.heap.size, 4, none⟩ hne1 (.string ⟨#[]⟩)
      rw [e]
      exact ⟨h.drew.cell 0 rfl, h.drew.cell 1 rfl⟩
    have HBY : Hid (∀ W', W' = (((((((w1.alloc (.cells #[.int .i64 (er : Int), .int .i64 (p : Int)] 45)).setCell ⟨w.heap.size, 0, none⟩ (.int .i64 0)).setCell ⟨w.heap.size, 1, none⟩ (.string ⟨#[]⟩)).setCell ⟨w.heap.size, 2, none⟩ (.slice none 0 0)).setCell ⟨w.heap.size, 3, none⟩ (.int .i64 0)).setCell ⟨w.heap.size, 4, none⟩ (.string ⟨#[]⟩)).drew) → Blk W' w.heap.size #[.int .i64 0, .string ⟨#[]⟩, .slice none 0 0, .int .i64 0, .string ⟨#[]⟩] 25) := by
      intro W' e
      rw [e]
      exact (((((HR2.out.set 0 (.int .i64 0)).set 1 (.string ⟨#[]⟩)).set 2 (.slice none 0 0)).set 3 (.int .i64 0)).set 4 (.string ⟨#[]⟩)).drew
    have HBX : Hid (∀ W', W' = (((((((w1.alloc (.cells #[.int .i64 (er : Int), .int .i64 (p : Int)] 45)).setCell ⟨w.heap.size, 0, none⟩ (.int .i64 0)).setCell ⟨w.heap.size, 1, none⟩ (.string ⟨#[]⟩)).setCell ⟨w.heap.size, 2, none⟩ (.slice none 0 0)).setCell ⟨w.heap.size, 3, none⟩ (.int .i64 0)).setCell ⟨w.heap.size, 4, none⟩ (.string ⟨#[]⟩)).drew) → Below w.heap.size w W') := by
      intro W' e
      rw [e]
      exact (below_set (below_set (below_set (below_set (below_set HB2.out (Nat.le_refl _)) (Nat.le_refl _)) (Nat.le_refl _)) (Nat.le_refl _)) (Nat.le_refl _)).drew
    go_upto_region 4 with (fail)
    refine wp_region_planH (CellsF w1.heap.size er p) [(some 15, 0), (some 16, 1), (some 17, 2), (some 18, 3), (some 19, 4), (none, 5), (none, 6), (none, 7)] (by kernel_rfl) (by kernel_rfl) (fun _ _ d _ _ h => by cases d <;> exact h) ⟨HF2.out.cell 0 rfl, HF2.out.cell 1 rfl⟩ ?_
    repeat (refine planH_yes (v := ?_) (a' := ?_) rfl rfl (by rfl) ?_ ?_ ?_; rotate_left; (intro w' hS'; obtain ⟨c0, c1⟩ := hS'; go_simp; with_reducible rfl); rotate_left; (simp only [Act.put, List.setIfInBounds_toArray, List.set_cons_zero, List.set_cons_succ]; rfl))
    refine planH_alone _ _ _ _ ?_
    simp only [picks, List.getElem?_cons_succ, List.getElem?_cons_zero]
    go_wp2
    refine ⟨HS.out _ rfl, ?_⟩
    refine planH_alone _ _ _ _ ?_
    simp only [picks, List.getElem?_cons_succ, List.getElem?_cons_zero]
    go_wp2
    refine ⟨HS.out _ rfl, ?_⟩
    refine planH_alone _ _ _ _ ?_
    simp only [picks, List.getElem?_cons_succ, List.getElem?_cons_zero]
    go_wp2
    refine ⟨HS.out _ rfl, ?_⟩
    refine planH_done ?_
    go_wp2
    refine ret_cell3G (cs := #[.int .i64 0, .string ⟨#[]⟩, .slice none 0 0, .int .i64 0, .string ⟨#[]⟩]) (t := 25) rfl Tryz.underlying25 rfl (by kernel_rfl) rfl rfl rfl rfl (HBY.out _ rfl) ?_
    refine parsePost_mk (c := CallP.none) (v := .slice none 0 0) HP.out (World.ownsRow_nil _ _ _ _) ?_
    exact HBX.out _ rfl
end Go.Proofs.YtijnbohjcmcfjaaGreatDoor.Sc
