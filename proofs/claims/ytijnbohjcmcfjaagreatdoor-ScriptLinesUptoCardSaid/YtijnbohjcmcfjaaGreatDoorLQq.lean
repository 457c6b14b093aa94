/-
  The law on single lines: its walk.
-/
import Derived.Test.YtijnbohjcmcfjaaGreatDoorLSl0
import Derived.Test.YtijnbohjcmcfjaaGreatDoorLQo
import Derived.Deep.DeepCutAuto
import Derived.Deep.CutBlock
namespace Go.Proofs.YtijnbohjcmcfjaaGreatDoor.Sc
open Go.RowKit Go.Proofs.YtijnbohjcmcfjaaGreatDoor.Kt Go.Proofs.YtijnbohjcmcfjaaGreatDoor.Lk Go.Proofs.YtijnbohjcmcfjaaGreatDoor.Sp Go.Proofs.YtijnbohjcmcfjaaGreatDoor.Rw Go.Proofs.YtijnbohjcmcfjaaGreatDoor.Rg
open Go.Proofs.YtijnbohjcmcfjaaGreatDoor.Nu (dgt Sizes isInt pwOf)
set_option linter.unusedSimpArgs false
set_option linter.unusedVariables false
set_option maxRecDepth 100000

/-- what stands of the arguments: the two blocks into which they were laid -/
structure AB (w : World) (rc rd : Array Value) (W : World) : Prop where
  below : Below w.heap.size w W
  C : Blk W w.heap.size rc 25
  D : Blk W (w.heap.size + 1) rd 36
theorem AB.step {w W W' : World} {rc rd : Array Value} (h : AB w rc rd W) (hb : Below W.heap.size W W') : AB w rc rd W' :=
  ⟨h.below.trans (hb.mono h.below.size), h.C.below hb h.C.lt, h.D.below hb h.D.lt⟩
theorem AB.alloc {w W : World} {rc rd : Array Value} (h : AB w rc rd W) (o : Obj) : AB w rc rd (W.alloc o) := h.step ((Below.refl _ _).alloc (Nat.le_refl _) _)
theorem AB.set {w W : World} {rc rd : Array Value} (h : AB w rc rd W) {g i : Nat} (hg : w.heap.size + 2 ≤ g) (u : Value) : AB w rc rd (W.setCell ⟨g, i, none⟩ u) :=
  ⟨below_set h.below (by omega), h.C.other ⟨g, i, none⟩ (by show ¬ _ = g; omega) u, h.D.other ⟨g, i, none⟩ (by show ¬ _ = g; omega) u⟩
theorem cell_other1 {W : World} {f i g j : Nat} (hne : ¬ g = f) (u : Value) : (W.setCell ⟨f, i, none⟩ u).cell? ⟨g, j, none⟩ = W.cell? ⟨g, j, none⟩ := by
  have e : (W.setCell ⟨f, i, none⟩ u).heap[g]? = W.heap[g]? := Below.heap_setCell _ _ _ _ hne
  unfold World.cell?
  dsimp only
  rw [e]
theorem MK.set {W : World} {g cap f i : Nat} {l : List Nat} (h : MK W g cap l) (hne : ¬ g = f) (u : Value) : MK (W.setCell ⟨f, i, none⟩ u) g cap l := by
  refine ⟨h.room, h.most, fun j hj => ?_, ?_⟩
  · rw [cell_other1 hne]; exact h.words j hj
  · rw [cell_other1 hne]; exact h.mark
/-- the four blocks that the last test reads -/
structure LC (bi bt bc : Nat) (ri rt rc rd : Array Value) (W : World) : Prop where
  I : Blk W bi ri 25
  J : Blk W bt rt 36
  C : Blk W bc rc 25
  D : Blk W (bc + 1) rd 36
theorem LC.step {bi bt bc : Nat} {ri rt rc rd : Array Value} {W W' : World} (h : LC bi bt bc ri rt rc rd W) (hb : Below W.heap.size W W') : LC bi bt bc ri rt rc rd W' :=
  ⟨h.I.below hb h.I.lt, h.J.below hb h.J.lt, h.C.below hb h.C.lt, h.D.below hb h.D.lt⟩
theorem LC.drew {bi bt bc : Nat} {ri rt rc rd : Array Value} {W : World} (h : LC bi bt bc ri rt rc rd W) : LC bi bt bc ri rt rc rd W.drew := ⟨h.I.drew, h.J.drew, h.C.drew, h.D.drew⟩
theorem MK.drew {W : World} {g cap : Nat} {l : List Nat} (h : MK W g cap l) : MK W.drew g cap l := ⟨h.room, h.most, h.words, h.mark⟩
theorem rparse_is (s : ByteArray) (w : World) (hm : s.size ≤ 1048576) {kd ct : Int} {nm tx : ByteArray} {ws : List Nat} {er p : Nat} (h : parseF s = (⟨kd, nm, ws, ct, tx⟩, er, p)) :
    Calls Tryz.prog 9 #[.string s] w fun e w' => ∃ A cap, e = .returned (.tuple #[.agg #[.int .i64 kd, .string nm, .slice A ws.length cap, .int .i64 ct, .string tx], .int .i64 (er : Int), .int .i64 (p : Int)]) ∧ w'.ownsRow w.heap.size 30 1 (.slice A ws.length cap) ws.length (wordsV ws) ∧ Below w.heap.size w w' :=
  (rparse_any s w hm).mono fun e w' ⟨v, h1, h2, h3⟩ => by
    rw [h] at h1 h2
    obtain ⟨A, cap, rfl⟩ := row_is h2
    exact ⟨A, cap, h1, h2, h3⟩
set_option maxHeartbeats 6400000 in
theorem lines_any (s : ByteArray) (kd ct : Int) (nm tx : ByteArray) (ws : List Nat) (V : Value) (tct : Int) (ttx : ByteArray) (tw : List Nat) (TV : Value) (er : Int) (w : World)
    (hs : s.size ≤ 1048576) (hW : WA w V ws) (hws : ∀ n ∈ ws, n < 2 ^ 64) (hl : ws.length ≤ 1048576) (hn : nm.size ≤ 1048576) (ht : tx.size ≤ 1048576)
    (hTW : WA w TV tw) (htws : ∀ n ∈ tw, n < 2 ^ 64) (htl : tw.length ≤ 1048576) (htt : ttx.size ≤ 1048576)
    (he0 : -9223372036854775808 ≤ er) (he1 : er ≤ 9223372036854775807) (hc0 : -9223372036854775808 ≤ tct) (hc1 : tct ≤ 9223372036854775807) (he : EnvS w) :
    Calls Tryz.prog 4 #[.string s, .agg (callV ⟨kd, nm, ws, ct, tx⟩ V), .agg (toldV TV tct ttx), .int .i64 er] w fun e w' => e = .returned (.bool true) ∧ Below w.heap.size w w' := by
  have HW : Hid (WA w V ws) := hW
  have HWS : Hid (∀ n ∈ ws, n < 2 ^ 64) := hws
  have HTW : Hid (WA w TV tw) := hTW
  have HTS : Hid (∀ n ∈ tw, n < 2 ^ 64) := htws
  have HE : Hid (EnvS w) := he
  have HER : Hid (-9223372036854775808 ≤ er ∧ er ≤ 9223372036854775807 ∧ -9223372036854775808 ≤ tct ∧ tct ≤ 9223372036854775807) := ⟨he0, he1, hc0, hc1⟩
  obtain ⟨A, cap, rfl⟩ := hW.len
  obtain ⟨B, bcap, rfl⟩ := hTW.len
  clear hW hws hTW htws he he0 he1 hc0 hc1
  unfold callV toldV
  dsimp only
  have HAB0 : Hid (AB w #[.int .i64 kd, .string nm, .slice A ws.length cap, .int .i64 ct, .string tx] #[.slice B tw.length bcap, .int .i64 tct, .string ttx] ((w.alloc (.cells #[.int .i64 kd, .string nm, .slice A ws.length cap, .int .i64 ct, .string tx] 25)).alloc (.cells #[.slice B tw.length bcap, .int .i64 tct, .string ttx] 36))) := by
    refine ⟨((Below.refl _ _).alloc (Nat.le_refl _) _).alloc (by simp) _, (Blk.new _ _ _).alloc _, ?_⟩
    have := Blk.new (w.alloc (.cells #[.int .i64 kd, .string nm, .slice A ws.length cap, .int .i64 ct, .string tx] 25)) #[.slice B tw.length bcap, .int .i64 tct, .string ttx] 36
    have e : (w.alloc (.cells #[.int .i64 kd, .string nm, .slice A ws.length cap, .int .i64 ct, .string tx] 25)).heap.size = w.heap.size + 1 := by simp
    rw [e] at this
    exact this
  have hwhat := parse_what s
  generalize hPF : parseF s = PF at hwhat
  obtain ⟨⟨kd', nm', l, ct', tx'⟩, er', p⟩ := PF
  have HP : Hid (parseF s = (⟨kd', nm', l, ct', tx'⟩, er', p)) := hPF
  have hll : l.length ≤ 2097152 := by
    by_cases h0 : er' = 0
    · have := (hwhat.2 h0).2.2.1
      dsimp only at this
      omega
    · have := (hwhat.1 h0).1
      unfold CallP.none at this
      injection this with _ _ h3
      rw [h3]
      simp
  clear hPF hwhat
  go_enter Tryz.func4, Tryz.ntmps4
  go_wp2_with (go_at_call 5; fail)
  refine (parse_is s _ (by omega) (HE.out.below HAB0.out.below) HP.out).mono ?_
  rintro e w1 ⟨A1, cp1, rfl, ho1, hb1⟩
  have HAB1 : Hid (AB w #[.int .i64 kd, .string nm, .slice A ws.length cap, .int .i64 ct, .string tx] #[.slice B tw.length bcap, .int .i64 tct, .string ttx] w1) := HAB0.out.step hb1
  have HX1 : Hid (WA w1 (.slice A1 l.length cp1) l) := WA_of_own ho1
  clear ho1 hb1 HAB0
  have hb1a : Below w1.heap.size w1 (w1.alloc (.cells #[.int .i64 kd', .string nm', .slice A1 l.length cp1, .int .i64 ct', .string tx'] 25)) := (Below.refl _ _).alloc (Nat.le_refl _) _
  have HX1b : Hid (Blk (w1.alloc (.cells #[.int .i64 kd', .string nm', .slice A1 l.length cp1, .int .i64 ct', .string tx'] 25)) w1.heap.size #[.int .i64 kd', .string nm', .slice A1 l.length cp1, .int .i64 ct', .string tx'] 25) := Blk.new _ _ _
  go_wp2_with (go_at_call 9; fail)
  refine (rparse_is s _ hs HP.out).mono ?_
  rintro e w2 ⟨A2, cp2, rfl, ho2, hb2⟩
  have hb2' : Below w1.heap.size w1 w2 := hb1a.trans (hb2.mono (by simp))
  have HAB2 : Hid (AB w #[.int .i64 kd, .string nm, .slice A ws.length cap, .int .i64 ct, .string tx] #[.slice B tw.length bcap, .int .i64 tct, .string ttx] w2) := HAB1.out.step hb2'
  have HX2 : Hid (WA w2 (.slice A1 l.length cp1) l) := HX1.out.below hb2'
  have HY2 : Hid (WA w2 (.slice A2 l.length cp2) l) := WA_of_own ho2
  have HB2 : Hid (Blk w2 w1.heap.size #[.int .i64 kd', .string nm', .slice A1 l.length cp1, .int .i64 ct', .string tx'] 25) := HX1b.out.below hb2 HX1b.out.lt
  have hs12 : w1.heap.size + 1 ≤ w2.heap.size := by have := hb2.size; simpa using this
  have hlt12 : w1.heap.size < w2.heap.size := by omega
  have hs1 : w.heap.size + 2 ≤ w1.heap.size := by have := HAB1.out.D.lt; omega
  clear ho2 hb2 hb2' hb1a HX1 HX1b HAB1
  have b0 := HB2.out.cell 0 (v := .int .i64 kd') rfl
  have b1 := HB2.out.cell 1 (v := .string nm') rfl
  have b2 := HB2.out.cell 2 (v := .slice A1 l.length cp1) rfl
  have b3 := HB2.out.cell 3 (v := .int .i64 ct') rfl
  have b4 := HB2.out.cell 4 (v := .string tx') rfl
  have e1 : (((er' : Nat) : Int) != ((er' : Nat) : Int)) = false := by simp
  have e2 : (((p : Nat) : Int) != ((p : Nat) : Int)) = false := by simp
  go_wp2_with (go_at_call 6; fail)
  have hbw : Below w2.heap.size w2 (w2.alloc (.cells #[.int .i64 kd', .string nm', .slice A2 l.length cp2, .int .i64 ct', .string tx'] 25)) := (Below.refl _ _).alloc (Nat.le_refl _) _
  have hsc : Calls Tryz.prog 6 #[.agg #[.int .i64 kd', .string nm', .slice A1 l.length cp1, .int .i64 ct', .string tx'], .agg #[.int .i64 kd', .string nm', .slice A2 l.length cp2, .int .i64 ct', .string tx']] (w2.alloc (.cells #[.int .i64 kd', .string nm', .slice A2 l.length cp2, .int .i64 ct', .string tx'] 25)) fun e w' => e = .returned (.bool true) ∧ Below (w2.alloc (.cells #[.int .i64 kd', .string nm', .slice A2 l.length cp2, .int .i64 ct', .string tx'] 25)).heap.size (w2.alloc (.cells #[.int .i64 kd', .string nm', .slice A2 l.length cp2, .int .i64 ct', .string tx'] 25)) w' :=
    sc_any ⟨kd', nm', l, ct', tx'⟩ (.slice A1 l.length cp1) (.slice A2 l.length cp2) _ hll (HX2.out.below hbw) (HY2.out.below hbw)
  refine hsc.mono ?_
  clear hsc
  rintro e w3 ⟨rfl, hb3⟩
  have HAB3 : Hid (AB w #[.int .i64 kd, .string nm, .slice A ws.length cap, .int .i64 ct, .string tx] #[.slice B tw.length bcap, .int .i64 tct, .string ttx] w3) := HAB2.out.step (hbw.trans (hb3.mono (by simp)))
  have hs3 : w.heap.size + 2 ≤ w3.heap.size := by have := HAB3.out.D.lt; omega
  clear hbw hb3 HAB2 HX2 HY2 HB2 e1 e2 hs12 hlt12 hs1
  clear b0 b1 b2 b3 b4
  have c0 := HAB3.out.C.cell 0 (v := .int .i64 kd) rfl
  have c1 := HAB3.out.C.cell 1 (v := .string nm) rfl
  have c2 := HAB3.out.C.cell 2 (v := .slice A ws.length cap) rfl
  have c3 := HAB3.out.C.cell 3 (v := .int .i64 ct) rfl
  have c4 := HAB3.out.C.cell 4 (v := .string tx) rfl
  have hcl : w.heap.size < w3.heap.size := by omega
  go_wp2_with (go_at_call 10; fail)
  have hbw : Below w3.heap.size w3 (w3.alloc (.cells #[.int .i64 kd, .string nm, .slice A ws.length cap, .int .i64 ct, .string tx] 25)) := (Below.refl _ _).alloc (Nat.le_refl _) _
  refine (words_any25 (.slice A ws.length cap) ws _ hl ((HW.out.below HAB3.out.below).below hbw)).mono ?_
  rintro e w4 ⟨gm, cpm, rfl, hm4, hgm, hb4⟩
  have hgm' : w3.heap.size + 1 ≤ gm := by simpa using hgm
  have hne1 : ¬ gm = w3.heap.size := by omega
  have HAB4 : Hid (AB w #[.int .i64 kd, .string nm, .slice A ws.length cap, .int .i64 ct, .string tx] #[.slice B tw.length bcap, .int .i64 tct, .string ttx] w4) := HAB3.out.step (hbw.trans (hb4.mono (by simp)))
  have HI4 : Hid (Blk w4 w3.heap.size #[.int .i64 kd, .string nm, .slice A ws.length cap, .int .i64 ct, .string tx] 25) := (Blk.new w3 #[.int .i64 kd, .string nm, .slice A ws.length cap, .int .i64 ct, .string tx] 25).below hb4 (by simp)
  have HM4 : Hid (MK w4 gm cpm ws) := hm4
  have hs4 : w3.heap.size + 1 ≤ w4.heap.size := by have := hb4.size; simpa using this
  clear hm4 hgm hb4 hbw HAB3
  clear c0 c1 c2 c3 c4
  have HAB5 : Hid (AB w #[.int .i64 kd, .string nm, .slice A ws.length cap, .int .i64 ct, .string tx] #[.slice B tw.length bcap, .int .i64 tct, .string ttx] (w4.setCell ⟨w3.heap.size, 2, none⟩ (.slice (some ⟨gm, 0, none⟩) ws.length cpm))) := HAB4.out.set hs3 _
  have HI5 : Hid (Blk (w4.setCell ⟨w3.heap.size, 2, none⟩ (.slice (some ⟨gm, 0, none⟩) ws.length cpm)) w3.heap.size #[.int .i64 kd, .string nm, .slice (some ⟨gm, 0, none⟩) ws.length cpm, .int .i64 ct, .string tx] 25) := HI4.out.set 2 _
  have HM5 : Hid (MK (w4.setCell ⟨w3.heap.size, 2, none⟩ (.slice (some ⟨gm, 0, none⟩) ws.length cpm)) gm cpm ws) := HM4.out.set hne1 _
  have d0 := HI4.out.cell 0 (v := .int .i64 kd) rfl
  have d1 := HI4.out.cell 1 (v := .string nm) rfl
  have d2 := HI4.out.cell 2 (v := .slice A ws.length cap) rfl
  have d3 := HI4.out.cell 3 (v := .int .i64 ct) rfl
  have d4 := HI4.out.cell 4 (v := .string tx) rfl
  have df := HI4.out.free 2
  go_wp2_with (go_at_call 7; fail)
  clear d0 d1 d2 d3 d4
  clear df HAB4 HI4 HM4
  generalize w4.setCell ⟨w3.heap.size, 2, none⟩ (.slice (some ⟨gm, 0, none⟩) ws.length cpm) = w5 at HAB5 HI5 HM5 ⊢
  generalize w3.heap.size = bi at HI5 hs3 hgm' hne1 hs4 hcl ⊢
  refine (print_callany ⟨kd, nm, ws, ct, tx⟩ (.slice (some ⟨gm, 0, none⟩) ws.length cpm) w5 HM5.out.wa HWS.out (by dsimp only; omega) (by dsimp only; omega) (by dsimp only; omega) (HE.out.below HAB5.out.below)).mono ?_
  rintro e w6 ⟨rfl, hb6⟩
  have HAB6 : Hid (AB w #[.int .i64 kd, .string nm, .slice A ws.length cap, .int .i64 ct, .string tx] #[.slice B tw.length bcap, .int .i64 tct, .string ttx] w6) := HAB5.out.step hb6
  have HI6 : Hid (Blk w6 bi #[.int .i64 kd, .string nm, .slice (some ⟨gm, 0, none⟩) ws.length cpm, .int .i64 ct, .string tx] 25) := HI5.out.below hb6 HI5.out.lt
  have HM6 : Hid (MK w6 gm cpm ws) := HM5.out.below hb6
  clear hb6 HAB5 HI5 HM5
  have c0 := HAB6.out.C.cell 0 (v := .int .i64 kd) rfl
  have c1 := HAB6.out.C.cell 1 (v := .string nm) rfl
  have c2 := HAB6.out.C.cell 2 (v := .slice A ws.length cap) rfl
  have c3 := HAB6.out.C.cell 3 (v := .int .i64 ct) rfl
  have c4 := HAB6.out.C.cell 4 (v := .string tx) rfl
  generalize hPR : printF ⟨kd, nm, ws, ct, tx⟩ = PR
  obtain ⟨X, xe⟩ := PR
  have HPR : Hid (printF ⟨kd, nm, ws, ct, tx⟩ = (X, xe)) := hPR
  clear hPR
  dsimp only
  go_wp2_with (go_at_call 11; fail)
  refine (rprint_any ⟨kd, nm, ws, ct, tx⟩ (.slice A ws.length cap) w6 (HW.out.below HAB6.out.below) HWS.out (by dsimp only; omega) (by dsimp only; omega) (by dsimp only; omega) (HE.out.below HAB6.out.below)).mono ?_
  rintro e w7 ⟨he7, hb7⟩
  rw [HPR.out] at he7
  dsimp only at he7
  subst he7
  have HAB7 : Hid (AB w #[.int .i64 kd, .string nm, .slice A ws.length cap, .int .i64 ct, .string tx] #[.slice B tw.length bcap, .int .i64 tct, .string ttx] w7) := HAB6.out.step hb7
  have HI7 : Hid (Blk w7 bi #[.int .i64 kd, .string nm, .slice (some ⟨gm, 0, none⟩) ws.length cpm, .int .i64 ct, .string tx] 25) := HI6.out.below hb7 HI6.out.lt
  have HM7 : Hid (MK w7 gm cpm ws) := HM6.out.below hb7
  clear hb7 HAB6 HI6 HM6 HPR
  clear c0 c1 c2 c3 c4
  have c0 := HAB7.out.C.cell 0 (v := .int .i64 kd) rfl
  have c1 := HAB7.out.C.cell 1 (v := .string nm) rfl
  have c2 := HAB7.out.C.cell 2 (v := .slice A ws.length cap) rfl
  have c3 := HAB7.out.C.cell 3 (v := .int .i64 ct) rfl
  have c4 := HAB7.out.C.cell 4 (v := .string tx) rfl
  have d0 := HI7.out.cell 0 (v := .int .i64 kd) rfl
  have d1 := HI7.out.cell 1 (v := .string nm) rfl
  have d2 := HI7.out.cell 2 (v := .slice (some ⟨gm, 0, none⟩) ws.length cpm) rfl
  have d3 := HI7.out.cell 3 (v := .int .i64 ct) rfl
  have d4 := HI7.out.cell 4 (v := .string tx) rfl
  have e3 : (X.toList != X.toList) = false := by simp
  have e4 : (((xe : Nat) : Int) != ((xe : Nat) : Int)) = false := by simp
  go_wp2_with (go_at_call 6; fail)
  have hsc : Calls Tryz.prog 6 #[.agg #[.int .i64 kd, .string nm, .slice (some ⟨gm, 0, none⟩) ws.length cpm, .int .i64 ct, .string tx], .agg #[.int .i64 kd, .string nm, .slice A ws.length cap, .int .i64 ct, .string tx]] (w7) fun e w' => e = .returned (.bool true) ∧ Below w7.heap.size w7 w' :=
    sc_any ⟨kd, nm, ws, ct, tx⟩ (.slice (some ⟨gm, 0, none⟩) ws.length cpm) (.slice A ws.length cap) w7 (by dsimp only; omega) HM7.out.wa (HW.out.below HAB7.out.below)
  refine hsc.mono ?_
  clear hsc
  rintro e w8 ⟨rfl, hb8⟩
  have HAB8 : Hid (AB w #[.int .i64 kd, .string nm, .slice A ws.length cap, .int .i64 ct, .string tx] #[.slice B tw.length bcap, .int .i64 tct, .string ttx] w8) := HAB7.out.step hb8
  have HI8 : Hid (Blk w8 bi #[.int .i64 kd, .string nm, .slice (some ⟨gm, 0, none⟩) ws.length cpm, .int .i64 ct, .string tx] 25) := HI7.out.below hb8 HI7.out.lt
  have HM8 : Hid (MK w8 gm cpm ws) := HM7.out.below hb8
  clear hb8 HAB7 HI7 HM7 e3 e4
  clear c0 c1 c2 c3 c4 d0 d1 d2 d3 d4
  have d0 := HI8.out.cell 0 (v := .int .i64 kd) rfl
  have d1 := HI8.out.cell 1 (v := .string nm) rfl
  have d2 := HI8.out.cell 2 (v := .slice (some ⟨gm, 0, none⟩) ws.length cpm) rfl
  have d3 := HI8.out.cell 3 (v := .int .i64 ct) rfl
  have d4 := HI8.out.cell 4 (v := .string tx) rfl
  go_wp2_with (go_at_call 12; fail)
  refine (marked_any gm cpm ws w8 hl HM8.out).mono ?_
  rintro e w' ⟨rfl, rfl⟩
  clear d0 d1 d2 d3 d4
  have t0 := HAB8.out.D.cell 0 (v := .slice B tw.length bcap) rfl
  have t1 := HAB8.out.D.cell 1 (v := .int .i64 tct) rfl
  have t2 := HAB8.out.D.cell 2 (v := .string ttx) rfl
  have hs8 : bi < w8.heap.size := HI8.out.lt
  have hs8b : w.heap.size + 1 < w8.heap.size := HAB8.out.D.lt
  go_wp2_with (go_at_call 10; fail)
  have hbw : Below w8.heap.size w8 (w8.alloc (.cells #[.slice B tw.length bcap, .int .i64 tct, .string ttx] 36)) := (Below.refl _ _).alloc (Nat.le_refl _) _
  refine (words_any25 (.slice B tw.length bcap) tw _ htl ((HTW.out.below HAB8.out.below).below hbw)).mono ?_
  rintro e w9 ⟨gt, cpt, rfl, hm9, hgt, hb9⟩
  have hgt' : w8.heap.size + 1 ≤ gt := by simpa using hgt
  have hbw9 : Below w8.heap.size w8 w9 := hbw.trans (hb9.mono (by simp))
  have hne2 : ¬ gt = w8.heap.size := by omega
  have HAB9 : Hid (AB w #[.int .i64 kd, .string nm, .slice A ws.length cap, .int .i64 ct, .string tx] #[.slice B tw.length bcap, .int .i64 tct, .string ttx] (w9.setCell ⟨w8.heap.size, 0, none⟩ (.slice (some ⟨gt, 0, none⟩) tw.length cpt))) := (HAB8.out.step hbw9).set (by omega) _
  have HI9 : Hid (Blk (w9.setCell ⟨w8.heap.size, 0, none⟩ (.slice (some ⟨gt, 0, none⟩) tw.length cpt)) bi #[.int .i64 kd, .string nm, .slice (some ⟨gm, 0, none⟩) ws.length cpm, .int .i64 ct, .string tx] 25) := (HI8.out.below hbw9 HI8.out.lt).other ⟨w8.heap.size, 0, none⟩ (by show ¬ bi = w8.heap.size; omega) _
  have HJ9 : Hid (Blk w9 w8.heap.size #[.slice B tw.length bcap, .int .i64 tct, .string ttx] 36) := (Blk.new w8 #[.slice B tw.length bcap, .int .i64 tct, .string ttx] 36).below hb9 (by simp)
  have HJ9b : Hid (Blk (w9.setCell ⟨w8.heap.size, 0, none⟩ (.slice (some ⟨gt, 0, none⟩) tw.length cpt)) w8.heap.size #[.slice (some ⟨gt, 0, none⟩) tw.length cpt, .int .i64 tct, .string ttx] 36) := HJ9.out.set 0 _
  have hgmlt : gm < w8.heap.size := by
    have := HM8.out.mark
    exact World.block_lt_of_cell? w8 _ this
  have HM9 : Hid (MK (w9.setCell ⟨w8.heap.size, 0, none⟩ (.slice (some ⟨gt, 0, none⟩) tw.length cpt)) gm cpm ws) := (HM8.out.below hbw9).set (by omega) _
  have HN9 : Hid (MK (w9.setCell ⟨w8.heap.size, 0, none⟩ (.slice (some ⟨gt, 0, none⟩) tw.length cpt)) gt cpt tw) := hm9.set hne2 _
  have hs9 : w8.heap.size < w9.heap.size := HJ9.out.lt
  clear hm9 hgt hb9 hbw hbw9
  clear t0 t1 t2
  have t0 := HJ9.out.cell 0 (v := .slice B tw.length bcap) rfl
  have t1 := HJ9.out.cell 1 (v := .int .i64 tct) rfl
  have t2 := HJ9.out.cell 2 (v := .string ttx) rfl
  have tf := HJ9.out.free 0
  go_upto_region 13 with (fail)
  clear t0 t1 t2
  clear tf HJ9 HAB8 HI8 HM8
  generalize w9.setCell ⟨w8.heap.size, 0, none⟩ (.slice (some ⟨gt, 0, none⟩) tw.length cpt) = u0 at HAB9 HI9 HJ9b HM9 HN9 ⊢
  generalize w8.heap.size = bt at HJ9b ⊢
  have HL0 : Hid (LC bi bt w.heap.size #[.int .i64 kd, .string nm, .slice (some ⟨gm, 0, none⟩) ws.length cpm, .int .i64 ct, .string tx] #[.slice (some ⟨gt, 0, none⟩) tw.length cpt, .int .i64 tct, .string ttx] #[.int .i64 kd, .string nm, .slice A ws.length cap, .int .i64 ct, .string tx] #[.slice B tw.length bcap, .int .i64 tct, .string ttx] u0) := ⟨HI9.out, HJ9b.out, HAB9.out.C, HAB9.out.D⟩
  have HAB : Hid (AB w #[.int .i64 kd, .string nm, .slice A ws.length cap, .int .i64 ct, .string tx] #[.slice B tw.length bcap, .int .i64 tct, .string ttx] u0) := HAB9.out
  have HXT : Hid (∀ W, Below w.heap.size w W → MK W gt cpt tw → Calls Tryz.prog 13 #[.agg #[.int .i64 kd, .string nm, .slice (some ⟨gm, 0, none⟩) ws.length cpm, .int .i64 ct, .string tx], .agg #[.slice (some ⟨gt, 0, none⟩) tw.length cpt, .int .i64 tct, .string ttx], .int .i64 er] W (ToldPost (toldF kd tw tct ttx er) W)) := fun W h1 h2 =>
    told_any kd ct nm tx (some ⟨gm, 0, none⟩) ws.length cpm (.slice (some ⟨gt, 0, none⟩) tw.length cpt) tw tct ttx er W (by omega) HTS.out h2.wa (by omega) HER.out.1 HER.out.2.1 HER.out.2.2.1 HER.out.2.2.2 (HE.out.below h1)
  have HYT : Hid (∀ W, Below w.heap.size w W → Calls Tryz.prog 14 #[.agg #[.int .i64 kd, .string nm, .slice A ws.length cap, .int .i64 ct, .string tx], .agg #[.slice B tw.length bcap, .int .i64 tct, .string ttx], .int .i64 er] W (ToldPost (toldF kd tw tct ttx er) W)) := fun W h1 =>
    rtold_any kd ct nm tx A ws.length cap (.slice B tw.length bcap) tw tct ttx er W (by omega) HTS.out (HTW.out.below h1) (by omega) HER.out.1 HER.out.2.1 HER.out.2.2.1 HER.out.2.2.2 (HE.out.below h1)
  generalize toldF kd tw tct ttx er = X2 at HXT HYT
  have e5 : (X2.toList == X2.toList) = true := by simp
  clear HI9 HJ9b HAB9 HE HW HWS HER HP
  refine wp_region_planH (LC bi bt w.heap.size #[.int .i64 kd, .string nm, .slice (some ⟨gm, 0, none⟩) ws.length cpm, .int .i64 ct, .string tx] #[.slice (some ⟨gt, 0, none⟩) tw.length cpt, .int .i64 tct, .string ttx] #[.int .i64 kd, .string nm, .slice A ws.length cap, .int .i64 ct, .string tx] #[.slice B tw.length bcap, .int .i64 tct, .string ttx]) [(some 85, 0), (some 86, 1), (some 87, 2), (some 89, 4), (some 90, 5), (some 91, 6), (none, 3), (none, 7), (some 93, 8), (some 94, 9), (some 95, 10), (some 96, 11), (some 97, 12), (some 98, 13), (none, 14), (some 100, 15), (some 101, 16), (some 102, 17), (some 103, 18), (none, 19), (some 105, 20), (none, 21)] (by kernel_rfl) (by kernel_rfl) (fun _ _ d _ _ h => by cases d <;> exact h) HL0.out.drew ?_
  iterate 6
    (refine planH_yes (v := ?_) (a' := ?_) rfl rfl (by rfl) ?_ ?_ ?_; rotate_left; (intro w' hS'; have i0 := hS'.I.cell 0 (v := .int .i64 kd) rfl; have i1 := hS'.I.cell 1 (v := .string nm) rfl; have i2 := hS'.I.cell 2 (v := .slice (some ⟨gm, 0, none⟩) ws.length cpm) rfl; have i3 := hS'.I.cell 3 (v := .int .i64 ct) rfl; have i4 := hS'.I.cell 4 (v := .string tx) rfl; have j0 := hS'.J.cell 0 (v := .slice (some ⟨gt, 0, none⟩) tw.length cpt) rfl; have j1 := hS'.J.cell 1 (v := .int .i64 tct) rfl; have j2 := hS'.J.cell 2 (v := .string ttx) rfl; have c0 := hS'.C.cell 0 (v := .int .i64 kd) rfl; have c1 := hS'.C.cell 1 (v := .string nm) rfl; have c2 := hS'.C.cell 2 (v := .slice A ws.length cap) rfl; have c3 := hS'.C.cell 3 (v := .int .i64 ct) rfl; have c4 := hS'.C.cell 4 (v := .string tx) rfl; have d0 := hS'.D.cell 0 (v := .slice B tw.length bcap) rfl; have d1 := hS'.D.cell 1 (v := .int .i64 tct) rfl; have d2 := hS'.D.cell 2 (v := .string ttx) rfl; clear hS'; go_simp; first | with_reducible rfl | (rw [e5]; with_reducible rfl)); rotate_left; (simp only [Act.put, List.setIfInBounds_toArray, List.set_cons_zero, List.set_cons_succ]; rfl))
  refine planH_alone _ _ _ _ ?_
  simp only [picks, List.getElem?_cons_succ, List.getElem?_cons_zero]
  go_wp2_with (go_at_call 13; fail)
  refine (HXT.out _ HAB.out.below.drew HN9.out.drew).mono ?_
  rintro e u1 ⟨rfl, hb1⟩
  have HL1 : Hid (LC bi bt w.heap.size #[.int .i64 kd, .string nm, .slice (some ⟨gm, 0, none⟩) ws.length cpm, .int .i64 ct, .string tx] #[.slice (some ⟨gt, 0, none⟩) tw.length cpt, .int .i64 tct, .string ttx] #[.int .i64 kd, .string nm, .slice A ws.length cap, .int .i64 ct, .string tx] #[.slice B tw.length bcap, .int .i64 tct, .string ttx] u1) := LC.step HL0.out.drew hb1
  have HA1 : Hid (Below w.heap.size w u1) := HAB.out.below.drew.trans (hb1.mono HAB.out.below.size)
  have HMa : Hid (MK u1 gm cpm ws) := HM9.out.drew.below hb1
  have HNa : Hid (MK u1 gt cpt tw) := HN9.out.drew.below hb1
  clear hb1 HL0 HAB HM9 HN9
  go_wp2
  refine ⟨HL1.out, ?_⟩
  refine planH_alone _ _ _ _ ?_
  simp only [picks, List.getElem?_cons_succ, List.getElem?_cons_zero]
  go_wp2_with (go_at_call 14; fail)
  refine (HYT.out _ HA1.out).mono ?_
  rintro e u2 ⟨rfl, hb2⟩
  have HL2 : Hid (LC bi bt w.heap.size #[.int .i64 kd, .string nm, .slice (some ⟨gm, 0, none⟩) ws.length cpm, .int .i64 ct, .string tx] #[.slice (some ⟨gt, 0, none⟩) tw.length cpt, .int .i64 tct, .string ttx] #[.int .i64 kd, .string nm, .slice A ws.length cap, .int .i64 ct, .string tx] #[.slice B tw.length bcap, .int .i64 tct, .string ttx] u2) := HL1.out.step hb2
  have HA2 : Hid (Below w.heap.size w u2) := HA1.out.trans (hb2.mono HA1.out.size)
  have HMb : Hid (MK u2 gm cpm ws) := HMa.out.below hb2
  have HNb : Hid (MK u2 gt cpt tw) := HNa.out.below hb2
  clear hb2 HL1 HA1 HMa HNa
  go_wp2
  refine ⟨HL2.out, ?_⟩
  iterate 6
    (refine planH_yes (v := ?_) (a' := ?_) rfl rfl (by rfl) ?_ ?_ ?_; rotate_left; (intro w' hS'; have i0 := hS'.I.cell 0 (v := .int .i64 kd) rfl; have i1 := hS'.I.cell 1 (v := .string nm) rfl; have i2 := hS'.I.cell 2 (v := .slice (some ⟨gm, 0, none⟩) ws.length cpm) rfl; have i3 := hS'.I.cell 3 (v := .int .i64 ct) rfl; have i4 := hS'.I.cell 4 (v := .string tx) rfl; have j0 := hS'.J.cell 0 (v := .slice (some ⟨gt, 0, none⟩) tw.length cpt) rfl; have j1 := hS'.J.cell 1 (v := .int .i64 tct) rfl; have j2 := hS'.J.cell 2 (v := .string ttx) rfl; have c0 := hS'.C.cell 0 (v := .int .i64 kd) rfl; have c1 := hS'.C.cell 1 (v := .string nm) rfl; have c2 := hS'.C.cell 2 (v := .slice A ws.length cap) rfl; have c3 := hS'.C.cell 3 (v := .int .i64 ct) rfl; have c4 := hS'.C.cell 4 (v := .string tx) rfl; have d0 := hS'.D.cell 0 (v := .slice B tw.length bcap) rfl; have d1 := hS'.D.cell 1 (v := .int .i64 tct) rfl; have d2 := hS'.D.cell 2 (v := .string ttx) rfl; clear hS'; go_simp; first | with_reducible rfl | (rw [e5]; with_reducible rfl)); rotate_left; (simp only [Act.put, List.setIfInBounds_toArray, List.set_cons_zero, List.set_cons_succ]; rfl))
  refine planH_alone _ _ _ _ ?_
  simp only [picks, List.getElem?_cons_succ, List.getElem?_cons_zero]
  go_wp2_with (go_at_call 8; fail)
  refine (sw_any (.slice (some ⟨gt, 0, none⟩) tw.length cpt) (.slice B tw.length bcap) tw u2 (by omega) HNb.out.wa (HTW.out.below HA2.out)).mono ?_
  rintro e u3 ⟨rfl, hb3⟩
  have HL3 : Hid (LC bi bt w.heap.size #[.int .i64 kd, .string nm, .slice (some ⟨gm, 0, none⟩) ws.length cpm, .int .i64 ct, .string tx] #[.slice (some ⟨gt, 0, none⟩) tw.length cpt, .int .i64 tct, .string ttx] #[.int .i64 kd, .string nm, .slice A ws.length cap, .int .i64 ct, .string tx] #[.slice B tw.length bcap, .int .i64 tct, .string ttx] u3) := HL2.out.step hb3
  have HA3 : Hid (Below w.heap.size w u3) := HA2.out.trans (hb3.mono HA2.out.size)
  have HNc : Hid (MK u3 gt cpt tw) := HNb.out.below hb3
  clear hb3 HL2 HA2 HMb HNb
  go_wp2
  refine ⟨HL3.out, ?_⟩
  iterate 4
    (refine planH_yes (v := ?_) (a' := ?_) rfl rfl (by rfl) ?_ ?_ ?_; rotate_left; (intro w' hS'; have i0 := hS'.I.cell 0 (v := .int .i64 kd) rfl; have i1 := hS'.I.cell 1 (v := .string nm) rfl; have i2 := hS'.I.cell 2 (v := .slice (some ⟨gm, 0, none⟩) ws.length cpm) rfl; have i3 := hS'.I.cell 3 (v := .int .i64 ct) rfl; have i4 := hS'.I.cell 4 (v := .string tx) rfl; have j0 := hS'.J.cell 0 (v := .slice (some ⟨gt, 0, none⟩) tw.length cpt) rfl; have j1 := hS'.J.cell 1 (v := .int .i64 tct) rfl; have j2 := hS'.J.cell 2 (v := .string ttx) rfl; have c0 := hS'.C.cell 0 (v := .int .i64 kd) rfl; have c1 := hS'.C.cell 1 (v := .string nm) rfl; have c2 := hS'.C.cell 2 (v := .slice A ws.length cap) rfl; have c3 := hS'.C.cell 3 (v := .int .i64 ct) rfl; have c4 := hS'.C.cell 4 (v := .string tx) rfl; have d0 := hS'.D.cell 0 (v := .slice B tw.length bcap) rfl; have d1 := hS'.D.cell 1 (v := .int .i64 tct) rfl; have d2 := hS'.D.cell 2 (v := .string ttx) rfl; clear hS'; go_simp; first | with_reducible rfl | (rw [e5]; with_reducible rfl)); rotate_left; (simp only [Act.put, List.setIfInBounds_toArray, List.set_cons_zero, List.set_cons_succ]; rfl))
  refine planH_alone _ _ _ _ ?_
  simp only [picks, List.getElem?_cons_succ, List.getElem?_cons_zero]
  go_wp2_with (go_at_call 12; fail)
  refine (marked_any gt cpt tw u3 htl HNc.out).mono ?_
  rintro e w' ⟨rfl, rfl⟩
  go_wp2
  refine ⟨HL3.out, ?_⟩
  (refine planH_yes (v := ?_) (a' := ?_) rfl rfl (by rfl) ?_ ?_ ?_; rotate_left; (intro w' hS'; have i0 := hS'.I.cell 0 (v := .int .i64 kd) rfl; have i1 := hS'.I.cell 1 (v := .string nm) rfl; have i2 := hS'.I.cell 2 (v := .slice (some ⟨gm, 0, none⟩) ws.length cpm) rfl; have i3 := hS'.I.cell 3 (v := .int .i64 ct) rfl; have i4 := hS'.I.cell 4 (v := .string tx) rfl; have j0 := hS'.J.cell 0 (v := .slice (some ⟨gt, 0, none⟩) tw.length cpt) rfl; have j1 := hS'.J.cell 1 (v := .int .i64 tct) rfl; have j2 := hS'.J.cell 2 (v := .string ttx) rfl; have c0 := hS'.C.cell 0 (v := .int .i64 kd) rfl; have c1 := hS'.C.cell 1 (v := .string nm) rfl; have c2 := hS'.C.cell 2 (v := .slice A ws.length cap) rfl; have c3 := hS'.C.cell 3 (v := .int .i64 ct) rfl; have c4 := hS'.C.cell 4 (v := .string tx) rfl; have d0 := hS'.D.cell 0 (v := .slice B tw.length bcap) rfl; have d1 := hS'.D.cell 1 (v := .int .i64 tct) rfl; have d2 := hS'.D.cell 2 (v := .string ttx) rfl; clear hS'; go_simp; first | with_reducible rfl | (rw [e5]; with_reducible rfl)); rotate_left; (simp only [Act.put, List.setIfInBounds_toArray, List.set_cons_zero, List.set_cons_succ]; rfl))
  refine planH_alone _ _ _ _ ?_
  simp only [picks, List.getElem?_cons_succ, List.getElem?_cons_zero]
  go_wp2
  refine ⟨HL3.out, ?_⟩
  refine planH_done ?_
  go_wp2
  go_ret
  exact ⟨rfl, HA3.out⟩
end Go.Proofs.YtijnbohjcmcfjaaGreatDoor.Sc
