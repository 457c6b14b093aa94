/-
  The law on scripts read and printed: its walk.
-/
import Derived.Test.YtijnbohjcmcfjaaGreatDoorSl2
import Derived.Deep.DeepCutAuto
import Derived.Deep.CutBlock
namespace Go.Proofs.YtijnbohjcmcfjaaGreatDoor.Sc
open Go.RowKit Go.Proofs.YtijnbohjcmcfjaaGreatDoor.Kt Go.Proofs.YtijnbohjcmcfjaaGreatDoor.Lk Go.Proofs.YtijnbohjcmcfjaaGreatDoor.Sp Go.Proofs.YtijnbohjcmcfjaaGreatDoor.Rw Go.Proofs.YtijnbohjcmcfjaaGreatDoor.Rg
open Go.Proofs.YtijnbohjcmcfjaaGreatDoor.Nu (dgt Sizes isInt pwOf)
set_option linter.unusedSimpArgs false
set_option linter.unusedVariables false
set_option maxRecDepth 100000

theorem WA_lit (w : World) (g : Nat) (hg : g = w.heap.size) (a b : Nat) : WA (w.alloc (.cells #[.int .u64 (a : Int), .int .u64 (b : Int)] 30)) (.slice (some ⟨g, 0, none⟩) 2 2) [a, b] := by
  refine .inr (.inr ⟨g, 0, 2, rfl, fun i hi => ?_⟩)
  subst hg
  have hb : Blk (w.alloc (.cells #[.int .u64 (a : Int), .int .u64 (b : Int)] 30)) w.heap.size #[.int .u64 (a : Int), .int .u64 (b : Int)] 30 := Blk.new _ _ _
  rw [Nat.zero_add]
  have hi' : i < 2 := hi
  have : i = 0 ∨ i = 1 := by omega
  rcases this with rfl | rfl
  · exact hb.cell 0 rfl
  · exact hb.cell 1 rfl
/-- what stands behind two readings of one line: the calls' blocks, their words' rows, the row that is kept -/
structure SB (w0 : World) (bx bz : Nat) (kd ct : Int) (nm tx : ByteArray) (l : List Nat) (vx vy vk : Value) (xs : List Nat) (w : World) : Prop where
  base : Below w0.heap.size w0 w
  X : Blk w bx #[.int .i64 kd, .string nm, vx, .int .i64 ct, .string tx] 25
  Y : Blk w bz #[.int .i64 kd, .string nm, vy, .int .i64 ct, .string tx] 25
  xl : xs.length = l.length
  x : w.ownsRow w0.heap.size 30 1 vx xs.length (wordsV xs)
  y : w.ownsRow w0.heap.size 30 1 vy l.length (wordsV l)
  k : w.ownsRow w0.heap.size 30 1 vk l.length (wordsV l)
  xX : vx.ownBlock ≠ some bx
  xY : vx.ownBlock ≠ some bz
  xy : vy.ownBlock = none ∨ vy.ownBlock ≠ vx.ownBlock
  xk : vk.ownBlock = none ∨ vk.ownBlock ≠ vx.ownBlock
variable {w0 w : World} {bx bz k : Nat} {kd ct : Int} {nm tx : ByteArray} {l xs : List Nat} {vx vy vk : Value}
theorem SB.step {w' : World} {xs' : List Nat} (h : SB w0 bx bz kd ct nm tx l vx vy vk xs w) (hg : w.grownBy w' vx.ownBlock) (hx : w'.ownsRow w0.heap.size 30 1 vx xs'.length (wordsV xs')) (hl : xs'.length = xs.length) : SB w0 bx bz kd ct nm tx l vx vy vk xs' w' :=
  ⟨h.base.grown hg h.base.size (fun j hj => (h.x.lt j hj).1), h.X.grown hg (fun e => h.xX e.symm), h.Y.grown hg (fun e => h.xY e.symm), hl.trans h.xl, hx, h.y.kept hg h.xy, h.k.kept hg h.xk, h.xX, h.xY, h.xy, h.xk⟩
theorem SB.below {w' : World} (h : SB w0 bx bz kd ct nm tx l vx vy vk xs w) (hb : Below w.heap.size w w') : SB w0 bx bz kd ct nm tx l vx vy vk xs w' :=
  ⟨h.base.trans (hb.mono h.base.size), h.X.below hb h.X.lt, h.Y.below hb h.Y.lt, h.xl, row_kept h.x hb, row_kept h.y hb, row_kept h.k hb, h.xX, h.xY, h.xy, h.xk⟩
theorem fine_words {c : CallP} (h : Fine c) : ∀ n ∈ c.words, n < 2 ^ 64 := by
  rcases h with rfl | ⟨nm, hn, ⟨ws, rfl, hw⟩ | ⟨m, hm, rfl⟩ | ⟨t, rfl⟩⟩
  · intro n hn; cases hn
  · exact hw
  · intro n hn; cases hn
  · intro n hn; cases hn
theorem fine_name {c : CallP} (h : Fine c) : c.name.size ≤ 64 := by
  have key : ∀ nm : ByteArray, symOk nm = true → nm.size ≤ 64 := by
    intro nm hn
    unfold symOk at hn
    simp at hn
    exact hn.1.2
  rcases h with rfl | ⟨nm, hn, ⟨ws, rfl, hw⟩ | ⟨m, hm, rfl⟩ | ⟨t, rfl⟩⟩
  · exact Nat.zero_le _
  · exact key nm hn
  · exact key nm hn
  · exact key nm hn
theorem set_rep {l : List Nat} {k : Nat} (h : k < l.length) : (List.replicate k 7 ++ l.drop k).set k 7 = List.replicate (k + 1) 7 ++ l.drop (k + 1) := by
  rw [List.set_append_right _ _ (by simp), List.length_replicate, Nat.sub_self, List.drop_eq_getElem_cons h, List.set_cons_zero, List.replicate_succ', List.append_assoc]
  rfl
theorem SB.store (h : SB w0 bx bz kd ct nm tx l vx vy vk (List.replicate k 7 ++ l.drop k) w) {gx cpx : Nat} (hv : vx = .slice (some ⟨gx, 0, none⟩) l.length cpx) (hk : k < l.length) :
    (∃ x : Int, w.cell? ⟨gx, k, none⟩ = some (.int .u64 x)) ∧ w.frozen? ⟨gx, k, none⟩ = false ∧ SB w0 bx bz kd ct nm tx l vx vy vk (List.replicate (k + 1) 7 ++ l.drop (k + 1)) (w.setCell ⟨gx, k, none⟩ (.int .u64 7)) := by
  subst hv
  have hx := h.x
  rw [h.xl] at hx
  obtain ⟨h1, h2⟩ := hx.stored k (.int .u64 7)
  refine ⟨?_, hx.frozenAt k, ?_⟩
  · rw [hx.cellAt k (by omega)]
    have hkl : k < (List.replicate k 7 ++ l.drop k).length := by rw [h.xl]; exact hk
    exact ⟨_, by unfold wordsV; rw [List.getElem?_map, List.getElem?_eq_getElem hkl]; rfl⟩
  · rw [← set_rep hk]
    refine h.step h2 ?_ (by simp)
    rw [List.length_set, h.xl]
    unfold wordsV at h1 ⊢
    rw [List.map_set]
    exact h1
theorem SB_start {w0 w2 w4 : World} {b1 : Nat} {A1 A2 A3 : Option Addr} {cp1 cp2 cp3 : Nat} (hb : Below w0.heap.size w0 w2) (hX : Blk w2 b1 #[.int .i64 kd, .string nm, .slice A1 l.length cp1, .int .i64 ct, .string tx] 25)
    (h1 : w2.ownsRow w0.heap.size 30 1 (.slice A1 l.length cp1) l.length (wordsV l)) (h2 : w2.ownsRow (b1 + 1) 30 1 (.slice A2 l.length cp2) l.length (wordsV l)) (hl1 : ∀ g, (Value.slice A1 l.length cp1).ownBlock = some g → g < b1)
    (hs : b1 + 1 ≤ w2.heap.size) (hs0 : w0.heap.size ≤ b1) (h4 : w4.ownsRow w0.heap.size 30 1 (.slice A3 l.length cp3) l.length (wordsV l))
    (hg : ((w2.alloc (.cells #[.int .i64 kd, .string nm, .slice A2 l.length cp2, .int .i64 ct, .string tx] 25)).alloc (.cells #[] 30)).grownBy w4 (some (w2.heap.size + 1)))
    (hat : (Value.slice A3 l.length cp3).ownBlock = some (w2.heap.size + 1) ∨ (Value.slice A3 l.length cp3).ownBlock = some (w2.heap.size + 2)) :
    SB w0 b1 w2.heap.size kd ct nm tx l (.slice A1 l.length cp1) (.slice A2 l.length cp2) (.slice A3 l.length cp3) l w4 := by
  have ne1 : ∀ g, (Value.slice A1 l.length cp1).ownBlock = some g → g < b1 := hl1
  have ne2 : ∀ g, (Value.slice A2 l.length cp2).ownBlock = some g → b1 + 1 ≤ g ∧ g < w2.heap.size := fun g h => h2.lt g h
  refine ⟨?_, ?_, ?_, rfl, ?_, ?_, h4, ?_, ?_, ?_, ?_⟩
  · refine (((hb.alloc hb.size _).alloc (by have := hb.size; simp; omega) _)).grown hg (by have := hb.size; simp; omega) ?_
    intro j hj
    injection hj with hj
    have := hb.size
    omega
  · exact ((hX.alloc _).alloc _).grown hg (by intro e; injection e with e; omega)
  · exact ((Blk.new w2 _ _).alloc _).grown hg (by intro e; injection e with e; omega)
  · refine ((h1.alloc _).alloc _).kept hg (.inr ?_)
    intro e
    have := ne1 _ e
    omega
  · refine (own_mono (((h2.alloc _).alloc _).kept hg (.inr ?_)) (by omega))
    intro e
    have := (ne2 _ e).2
    omega
  · intro e; have := ne1 _ e; omega
  · intro e; have := ne1 _ e; omega
  · cases h : (Value.slice A2 l.length cp2).ownBlock with
    | none => exact .inl rfl
    | some g =>
      right
      intro e
      have a1 := (ne2 g h).1
      have a2 := ne1 g e.symm
      omega
  · right
    intro e
    rcases hat with h | h
    · rw [h] at e; have := ne1 _ e.symm; omega
    · rw [h] at e; have := ne1 _ e.symm; omega
set_option maxHeartbeats 1600000 in
theorem law_any (s : ByteArray) (kd ct : Int) (nm tx : ByteArray) (ws : List Nat) (V : Value) (w : World) (hs : s.size ≤ 1048576) (hW : WA w V ws) (hws : ∀ n ∈ ws, n < 2 ^ 64) (hl : ws.length ≤ 1048576) (hn : nm.size ≤ 1048576) (ht : tx.size ≤ 1048576) (he : EnvS w) :
    Calls Tryz.prog 3 #[.string s, .agg (callV ⟨kd, nm, ws, ct, tx⟩ V)] w fun e w' => e = .returned (.bool true) ∧ Below w.heap.size w w' := by
  have HW : Hid (WA w V ws) := hW
  have HWS : Hid (∀ n ∈ ws, n < 2 ^ 64) := hws
  have HE : Hid (EnvS w) := he
  obtain ⟨A, cap, rfl⟩ := hW.len
  clear hW hws he
  have hb0 : Below w.heap.size w (w.alloc (.cells #[.int .i64 kd, .string nm, .slice A ws.length cap, .int .i64 ct, .string tx] 25)) := (Below.refl _ _).alloc (Nat.le_refl _) _
  have HK0 : Hid (Blk (w.alloc (.cells #[.int .i64 kd, .string nm, .slice A ws.length cap, .int .i64 ct, .string tx] 25)) w.heap.size #[.int .i64 kd, .string nm, .slice A ws.length cap, .int .i64 ct, .string tx] 25) := Blk.new _ _ _
  unfold callV
  dsimp only
  go_enter Tryz.func3, Tryz.ntmps3
  go_wp2_with (go_at_call 5; fail)
  refine (parse_is litS _ (by decide) (HE.out.below hb0) lit_parse).mono ?_
  rintro e w1 ⟨A1, cp1, rfl, ho1, hb1⟩
  have HB1 : Hid (Below w.heap.size w w1) := hb0.trans (hb1.mono hb0.size)
  have HK1 : Hid (Blk w1 w.heap.size #[.int .i64 kd, .string nm, .slice A ws.length cap, .int .i64 ct, .string tx] 25) := HK0.out.below hb1 HK0.out.lt
  have HO1 : Hid (WA w1 (.slice A1 2 cp1) [100, 5]) := WA_of_own (l := [100, 5]) ho1
  clear ho1 hb1 hb0 HK0
  go_wp2_with (go_at_call 6; fail)
  have hsc : Calls Tryz.prog 6 #[.agg #[.int .i64 0, .string litN, .slice A1 2 cp1, .int .i64 0, .string ⟨#[]⟩], .agg #[.int .i64 0, .string litN, .slice (some ⟨w1.heap.size + 1, 0, none⟩) 2 2, .int .i64 0, .string ⟨#[]⟩]] ((w1.alloc (.cells #[.int .i64 0, .string litN, .slice A1 2 cp1, .int .i64 0, .string ⟨#[]⟩] 25)).alloc (.cells #[.int .u64 100, .int .u64 5] 30)) fun e w' => e = .returned (.bool true) ∧ Below ((w1.alloc (.cells #[.int .i64 0, .string litN, .slice A1 2 cp1, .int .i64 0, .string ⟨#[]⟩] 25)).alloc (.cells #[.int .u64 100, .int .u64 5] 30)).heap.size ((w1.alloc (.cells #[.int .i64 0, .string litN, .slice A1 2 cp1, .int .i64 0, .string ⟨#[]⟩] 25)).alloc (.cells #[.int .u64 100, .int .u64 5] 30)) w' :=
    sc_any litC (.slice A1 2 cp1) (.slice (some ⟨w1.heap.size + 1, 0, none⟩) 2 2) ((w1.alloc (.cells #[.int .i64 0, .string litN, .slice A1 2 cp1, .int .i64 0, .string ⟨#[]⟩] 25)).alloc (.cells #[.int .u64 100, .int .u64 5] 30)) (by decide) (HO1.out.below (((Below.refl _ _).alloc (Nat.le_refl _) _).alloc (by simp) _)) (WA_lit _ _ (by simp) 100 5)
  refine hsc.mono ?_
  clear hsc
  rintro e w2 ⟨rfl, hb2⟩
  have hb2' : Below w1.heap.size w1 w2 := (((Below.refl _ _).alloc (Nat.le_refl _) _).alloc (by simp) _).trans (hb2.mono (by simp; omega))
  have HB2 : Hid (Below w.heap.size w w2) := HB1.out.trans (hb2'.mono HB1.out.size)
  have HK2 : Hid (Blk w2 w.heap.size #[.int .i64 kd, .string nm, .slice A ws.length cap, .int .i64 ct, .string tx] 25) := HK1.out.below hb2' HK1.out.lt
  clear hb2 hb2' HB1 HK1 HO1
  have b0 := HK2.out.cell 0 (v := .int .i64 kd) rfl
  have b1 := HK2.out.cell 1 (v := .string nm) rfl
  have b2 := HK2.out.cell 2 (v := .slice A ws.length cap) rfl
  have b3 := HK2.out.cell 3 (v := .int .i64 ct) rfl
  have b4 := HK2.out.cell 4 (v := .string tx) rfl
  go_wp2_with (go_at_call 7; fail)
  refine (print_callany ⟨kd, nm, ws, ct, tx⟩ (.slice A ws.length cap) _ (HW.out.below HB2.out) HWS.out (by dsimp only; omega) (by dsimp only; omega) (by dsimp only; omega) (HE.out.below HB2.out)).mono ?_
  have HPC := print_cases ⟨kd, nm, ws, ct, tx⟩
  rintro e w3 ⟨rfl, hb3⟩
  have HB3 : Hid (Below w.heap.size w w3) := HB2.out.trans (hb3.mono HB2.out.size)
  have HK3 : Hid (Blk w3 w.heap.size #[.int .i64 kd, .string nm, .slice A ws.length cap, .int .i64 ct, .string tx] 25) := HK2.out.below hb3 HK2.out.lt
  clear hb3 b0 b1 b2 b3 b4 HB2 HK2
  obtain ⟨R, hR⟩ : ∃ R, R = printF ⟨kd, nm, ws, ct, tx⟩ := ⟨_, rfl⟩
  rw [← hR] at HPC ⊢
  obtain ⟨T, er⟩ := R
  have HR : Hid (printF ⟨kd, nm, ws, ct, tx⟩ = (T, er)) := hR.symm
  have HC : Hid (er = 0 ∨ (T, er) = ((⟨#[]⟩ : ByteArray), 250)) := HPC
  clear hR HPC
  dsimp only
  go_upto_if 44 with (fail)
  go_cut [] (fun wx => Below w.heap.size w wx)
  case first => as_aux_lemma =>
    rcases HC.out with h | h
    · subst h
      obtain ⟨hf, hT⟩ := print_fine HR.out HWS.out
      have hle := writ_le hf
      dsimp only at hle
      have hTs : T.size ≤ 67108864 := by rw [hT]; omega
      have HQ : Hid (parseF ({ data := #[32, 32] } ++ T ++ { data := #[32, 32, 32] }) = (⟨kd, nm, ws, ct, tx⟩, 0, 0)) := parse_writ hf (k1 := 2) (k2 := 3) (by rw [L_app, L_app, hT]; rfl)
      clear hf hT hle
      go_wp2_with (go_at_call 5; fail)
      refine (parse_is _ _ (by rw [ByteArray.size_append, ByteArray.size_append]; have h1 : ({ data := #[32, 32] } : ByteArray).size = 2 := rfl; have h2 : ({ data := #[32, 32, 32] } : ByteArray).size = 3 := rfl; omega) (HE.out.below HB3.out) HQ.out).mono ?_
      rintro e w4 ⟨A4, cp4, rfl, ho4, hb4⟩
      have HB4 : Hid (Below w.heap.size w w4) := HB3.out.trans (hb4.mono HB3.out.size)
      have HK4 : Hid (Blk w4 w.heap.size #[.int .i64 kd, .string nm, .slice A ws.length cap, .int .i64 ct, .string tx] 25) := HK3.out.below hb4 HK3.out.lt
      have HO4 : Hid (WA w4 (.slice A4 ws.length cp4) ws) := WA_of_own ho4
      clear ho4 hb4 HB3 HK3
      have b0 := HK4.out.cell 0 (v := .int .i64 kd) rfl
      have b1 := HK4.out.cell 1 (v := .string nm) rfl
      have b2 := HK4.out.cell 2 (v := .slice A ws.length cap) rfl
      have b3 := HK4.out.cell 3 (v := .int .i64 ct) rfl
      have b4 := HK4.out.cell 4 (v := .string tx) rfl
      have hcl : w.heap.size < w4.heap.size := HK4.out.lt
      go_wp2_with (go_at_call 6; fail)
      clear b0 b1 b2 b3 b4
      have hbw : Below w4.heap.size w4 (w4.alloc (.cells #[.int .i64 kd, .string nm, .slice A4 ws.length cp4, .int .i64 ct, .string tx] 25)) := (Below.refl _ _).alloc (Nat.le_refl _) _
      have hsc : Calls Tryz.prog 6 #[.agg #[.int .i64 kd, .string nm, .slice A4 ws.length cp4, .int .i64 ct, .string tx], .agg #[.int .i64 kd, .string nm, .slice A ws.length cap, .int .i64 ct, .string tx]] (w4.alloc (.cells #[.int .i64 kd, .string nm, .slice A4 ws.length cp4, .int .i64 ct, .string tx] 25)) fun e w' => e = .returned (.bool true) ∧ Below (w4.alloc (.cells #[.int .i64 kd, .string nm, .slice A4 ws.length cp4, .int .i64 ct, .string tx] 25)).heap.size (w4.alloc (.cells #[.int .i64 kd, .string nm, .slice A4 ws.length cp4, .int .i64 ct, .string tx] 25)) w' :=
        sc_any ⟨kd, nm, ws, ct, tx⟩ (.slice A4 ws.length cp4) (.slice A ws.length cap) (w4.alloc (.cells #[.int .i64 kd, .string nm, .slice A4 ws.length cp4, .int .i64 ct, .string tx] 25)) (by dsimp only; omega) (HO4.out.below hbw) ((HW.out.below HB4.out).below hbw)
      refine hsc.mono ?_
      clear hsc
      rintro e w6 ⟨rfl, hb6⟩
      have HB6 : Hid (Below w.heap.size w w6) := HB4.out.trans ((hbw.trans (hb6.mono (by simp))).mono HB4.out.size)
      clear hbw hb6
      go_wp2
      go_meet
      exact HB6.out
    · injection h with h1 h2
      subst h1
      subst h2
      go_wp2
      go_meet
      exact HB3.out
  case rest =>
  have HBC : Hid (Below w.heap.size w wc) := hcut
  have hwhat := parse_what s
  clear hcut HB3 HK3 HR HC
  generalize hPF : parseF s = PF at hwhat
  obtain ⟨⟨kd', nm', l, ct', tx'⟩, er', p⟩ := PF
  have HP : Hid (parseF s = (⟨kd', nm', l, ct', tx'⟩, er', p)) := hPF
  have HWH : Hid (What s (⟨kd', nm', l, ct', tx'⟩, er', p)) := hwhat
  clear hPF hwhat
  go_wp2_with (go_at_call 5; fail)
  refine (parse_is s _ (by omega) (HE.out.below HBC.out) HP.out).mono ?_
  rintro e w1 ⟨A1, cp1, rfl, ho1, hb1⟩
  have HB1 : Hid (Below w.heap.size w w1) := HBC.out.trans (hb1.mono HBC.out.size)
  have HO1 : Hid (w1.ownsRow w.heap.size 30 1 (.slice A1 l.length cp1) l.length (wordsV l)) := own_mono ho1 HBC.out.size
  clear ho1 hb1 HBC
  have hb1a : Below w1.heap.size w1 (w1.alloc (.cells #[.int .i64 kd', .string nm', .slice A1 l.length cp1, .int .i64 ct', .string tx'] 25)) := (Below.refl _ _).alloc (Nat.le_refl _) _
  have HBX : Hid (Blk (w1.alloc (.cells #[.int .i64 kd', .string nm', .slice A1 l.length cp1, .int .i64 ct', .string tx'] 25)) w1.heap.size #[.int .i64 kd', .string nm', .slice A1 l.length cp1, .int .i64 ct', .string tx'] 25) := Blk.new _ _ _
  go_wp2_with (go_at_call 5; fail)
  refine (parse_is s _ (by omega) (HE.out.below (HB1.out.trans (hb1a.mono HB1.out.size))) HP.out).mono ?_
  rintro e w2 ⟨A2, cp2, rfl, ho2, hb2⟩
  have HB2 : Hid (Below w.heap.size w w2) := (HB1.out.trans (hb1a.mono HB1.out.size)).trans (hb2.mono (by have := HB1.out.size; simp; omega))
  have HO1' : Hid (w2.ownsRow w.heap.size 30 1 (.slice A1 l.length cp1) l.length (wordsV l)) := row_kept (row_kept HO1.out hb1a) hb2
  have HO2 : Hid (w2.ownsRow (w1.heap.size + 1) 30 1 (.slice A2 l.length cp2) l.length (wordsV l)) := own_mono ho2 (by simp)
  have HBX2 : Hid (Blk w2 w1.heap.size #[.int .i64 kd', .string nm', .slice A1 l.length cp1, .int .i64 ct', .string tx'] 25) := HBX.out.below hb2 HBX.out.lt
  have HL1 : Hid (∀ g, (Value.slice A1 l.length cp1).ownBlock = some g → g < w1.heap.size) := fun g h => (HO1.out.lt g h).2
  have hs12 : w1.heap.size + 1 ≤ w2.heap.size := by have := hb2.size; simpa using this
  have hs1 : w.heap.size ≤ w1.heap.size := HB1.out.size
  have hlt12 : w1.heap.size < w2.heap.size := by omega
  clear ho2 hb2 hb1a HBX HO1 HB1
  by_cases h0 : er' = 0
  · obtain rfl : er' = 0 := h0
    obtain ⟨-, hfi, hln, htn⟩ := HWH.out.2 rfl
    dsimp only at hfi hln htn
    have HFI : Hid (Fine ⟨kd', nm', l, ct', tx'⟩) := hfi
    clear hfi HWH HP
    have b0 := HBX2.out.cell 0 (v := .int .i64 kd') rfl
    have b1 := HBX2.out.cell 1 (v := .string nm') rfl
    have b2 := HBX2.out.cell 2 (v := .slice A1 l.length cp1) rfl
    have b3 := HBX2.out.cell 3 (v := .int .i64 ct') rfl
    have b4 := HBX2.out.cell 4 (v := .string tx') rfl
    have hy0 : WA w2 (.slice A2 l.length cp2) l := WA_of_own HO2.out
    have hY0 : Hid (WA w2 (.slice A2 l.length cp2) l) := hy0
    clear hy0
    have hown0 : ((w2.alloc (.cells #[.int .i64 kd', .string nm', .slice A2 l.length cp2, .int .i64 ct', .string tx'] 25)).alloc (.cells #[] 30)).ownsRow w.heap.size 30 1 (.slice (some ⟨w2.heap.size + 1, 0, none⟩) 0 0) 0 [] := by
      have := World.ownsRow_lit (base := w.heap.size) (e := 30) (size := 1) (w2.alloc (.cells #[.int .i64 kd', .string nm', .slice A2 l.length cp2, .int .i64 ct', .string tx'] 25)) #[] 0 (by simp; omega) (Nat.zero_le _) rfl
      simpa using this
    go_wp2_with (at_builtin; refine wpList_append_words rfl _ _ rfl w.heap.size _ rfl hown0 (.slice A2 l.length cp2) l rfl ?c1 (by omega) ?c2 ?_)
    case c1 => exact hY0.out.below (((Below.refl _ _).alloc (Nat.le_refl _) _).alloc (by simp) _)
    case c2 => simp; omega
    intro v4 w4 own4 hg4 hat4
    obtain ⟨A3, cp3, rfl⟩ := row_is own4
    have HSB : Hid (SB w w1.heap.size w2.heap.size kd' ct' nm' tx' l (.slice A1 l.length cp1) (.slice A2 l.length cp2) (.slice A3 l.length cp3) l w4) := by
      refine SB_start HB2.out HBX2.out HO1'.out HO2.out HL1.out hs12 hs1 own4 ?_ ?_
      · simpa [Value.ownBlock] using hg4
      · simpa [Value.ownBlock] using hat4
    clear own4 hg4 hat4 hown0 HB2 HBX2 HO1' HO2 HL1 hY0 b0 b1 b2 b3 b4
    have b0 := HSB.out.X.cell 0 (v := .int .i64 kd') rfl
    have b1 := HSB.out.X.cell 1 (v := .string nm') rfl
    have b2 := HSB.out.X.cell 2 (v := .slice A1 l.length cp1) rfl
    have b3 := HSB.out.X.cell 3 (v := .int .i64 ct') rfl
    have b4 := HSB.out.X.cell 4 (v := .string tx') rfl
    have y0 := HSB.out.Y.cell 0 (v := .int .i64 kd') rfl
    have y1 := HSB.out.Y.cell 1 (v := .string nm') rfl
    have y2 := HSB.out.Y.cell 2 (v := .slice A2 l.length cp2) rfl
    have y3 := HSB.out.Y.cell 3 (v := .int .i64 ct') rfl
    have y4 := HSB.out.Y.cell 4 (v := .string tx') rfl
    go_wp2_with (go_at_call 6; fail)
    clear b0 b1 b2 b3 b4 y0 y1 y2 y3 y4
    have hsc : Calls Tryz.prog 6 #[.agg #[.int .i64 kd', .string nm', .slice A1 l.length cp1, .int .i64 ct', .string tx'], .agg #[.int .i64 kd', .string nm', .slice A2 l.length cp2, .int .i64 ct', .string tx']] w4 fun e w' => e = .returned (.bool true) ∧ Below w4.heap.size w4 w' :=
      sc_any ⟨kd', nm', l, ct', tx'⟩ (.slice A1 l.length cp1) (.slice A2 l.length cp2) w4 (by dsimp only; omega) (WA_of_own HSB.out.x) (WA_of_own HSB.out.y)
    refine hsc.mono ?_
    clear hsc
    rintro e w5 ⟨rfl, hb5⟩
    have HS5 : Hid (SB w w1.heap.size w2.heap.size kd' ct' nm' tx' l (.slice A1 l.length cp1) (.slice A2 l.length cp2) (.slice A3 l.length cp3) l w5) := HSB.out.below hb5
    clear hb5 HSB
    have b2 := HS5.out.X.cell 2 (v := .slice A1 l.length cp1) rfl
    go_wp2
    clear b2
    go_loopg [18, 118] l.length (fun mm a i wr => ∃ k : Nat, mm = l.length - k ∧ k ≤ l.length ∧ i = .int .i64 k ∧ SB w w1.heap.size w2.heap.size kd' ct' nm' tx' l (.slice A1 l.length cp1) (.slice A2 l.length cp2) (.slice A3 l.length cp3) (List.replicate k 7 ++ l.drop k) wr)
    case atStart => exact ⟨0, rfl, Nat.zero_le _, rfl, HS5.out⟩
    case round =>
      obtain ⟨k, hmm, hk, rfl, hS⟩ := hrel
      have HM : Hid (gk = l.length - k) := hmm
      have HS : Hid (SB w w1.heap.size w2.heap.size kd' ct' nm' tx' l (.slice A1 l.length cp1) (.slice A2 l.length cp2) (.slice A3 l.length cp3) (List.replicate k 7 ++ l.drop k) wr) := hS
      have b2 := hS.X.cell 2 (v := .slice A1 l.length cp1) rfl
      clear hmm hS HS5
      by_cases hlt : k < l.length
      · as_aux_lemma =>
        obtain ⟨gx, cpx, hsh, -⟩ := row_shape HS.out.x (by rw [HS.out.xl]; omega)
        injection hsh with h1 h2 h3
        subst h1
        clear h2 h3
        obtain ⟨⟨x0, ck⟩, fk, hS2⟩ := HS.out.store rfl hlt
        have HS2 : Hid (SB w w1.heap.size w2.heap.size kd' ct' nm' tx' l (.slice (some ⟨gx, 0, none⟩) l.length cp1) (.slice A2 l.length cp2) (.slice A3 l.length cp3) (List.replicate (k + 1) 7 ++ l.drop (k + 1)) (wr.setCell ⟨gx, k, none⟩ (.int .u64 7))) := hS2
        clear hS2 HS
        go_wp2
        go_roundg (l.length - (k + 1))
        case measure => rw [HM.out]; omega
        case rel => exact ⟨k + 1, rfl, by omega, by go_num, HS2.out⟩
      · as_aux_lemma =>
        obtain rfl : k = l.length := by omega
        have HSE : Hid (SB w w1.heap.size w2.heap.size kd' ct' nm' tx' l (.slice A1 l.length cp1) (.slice A2 l.length cp2) (.slice A3 l.length cp3) (List.replicate l.length 7) wr) := by
          have := HS.out
          rw [List.drop_length, List.append_nil] at this
          exact this
        clear HS hlt HM
        have hbW : Below wr.heap.size wr (wr.alloc (.cells #[.int .u64 8] 30)) := (Below.refl _ _).alloc (Nat.le_refl _) _
        have hown : (wr.alloc (.cells #[.int .u64 8] 30)).ownsRow w.heap.size 30 1 (.slice A1 l.length cp1) (List.replicate l.length 7).length (wordsV (List.replicate l.length 7)) := row_kept HSE.out.x hbW
        have HSA : Hid (SB w w1.heap.size w2.heap.size kd' ct' nm' tx' l (.slice A1 l.length cp1) (.slice A2 l.length cp2) (.slice A3 l.length cp3) (List.replicate l.length 7) (wr.alloc (.cells #[.int .u64 8] 30))) := HSE.out.below hbW
        have hsw := HSE.out.base.size
        clear hbW HSE
        go_wp2_with (at_builtin; refine wpList_append_keep rfl _ _ rfl w.heap.size (.slice A1 l.length cp1) (List.replicate l.length 7) rfl hown 8 ⟨wr.heap.size, 0, none⟩ 1 rfl ?c1 ?c2 ?c3 ?_)
        case c1 => exact (Blk.new wr #[.int .u64 8] 30).cell 0 rfl
        case c2 => simp; omega
        case c3 => simp; omega
        intro v6 w6 own6 old6 hg6 _
        obtain ⟨gm, cp5, rfl, -⟩ := row_shape own6 (by omega)
        have HS6 : Hid (SB w w1.heap.size w2.heap.size kd' ct' nm' tx' l (.slice A1 l.length cp1) (.slice A2 l.length cp2) (.slice A3 l.length cp3) (List.replicate l.length 7) w6) := HSA.out.step hg6 (by rw [List.length_replicate]; exact old6) rfl
        have HM6 : Hid (w6.ownsRow w.heap.size 30 1 (.slice (some ⟨gm, 0, none⟩) (l.length + 1) cp5) (l.length + 1) (wordsV (List.replicate l.length 7 ++ [8]))) := own6
        clear own6 old6 hg6 hown HSA b2
        have y0 := HS6.out.Y.cell 0 (v := .int .i64 kd') rfl
        have y1 := HS6.out.Y.cell 1 (v := .string nm') rfl
        have y2 := HS6.out.Y.cell 2 (v := .slice A2 l.length cp2) rfl
        have y3 := HS6.out.Y.cell 3 (v := .int .i64 ct') rfl
        have y4 := HS6.out.Y.cell 4 (v := .string tx') rfl
        have hprint : Calls Tryz.prog 7 #[.agg #[.int .i64 kd', .string nm', .slice A2 l.length cp2, .int .i64 ct', .string tx']] w6 fun e w' => e = .returned (.tuple #[.string (writ ⟨kd', nm', l, ct', tx'⟩), .int .i64 0]) ∧ Below w6.heap.size w6 w' :=
          (print_callany ⟨kd', nm', l, ct', tx'⟩ (.slice A2 l.length cp2) w6 (WA_of_own HS6.out.y) (fine_words HFI.out) (by dsimp only; omega) (by have := fine_name HFI.out; omega) (by dsimp only; omega) (HE.out.below HS6.out.base)).mono fun e w' ⟨h1, h2⟩ => by
            rw [fine_print HFI.out] at h1
            exact ⟨h1, h2⟩
        have hle := writ_le HFI.out
        dsimp only at hle
        have hpw : parseF (writ ⟨kd', nm', l, ct', tx'⟩) = (⟨kd', nm', l, ct', tx'⟩, 0, 0) := parse_writ HFI.out (k1 := 0) (k2 := 0) (by simp)
        generalize writ ⟨kd', nm', l, ct', tx'⟩ = U at hprint hle hpw
        have HPU : Hid (parseF U = (⟨kd', nm', l, ct', tx'⟩, 0, 0)) := hpw
        have hUs : U.size ≤ 67108864 := by omega
        clear hpw hle
        go_wp2_with (go_at_call 7; fail)
        refine hprint.mono ?_
        clear hprint y0 y1 y2 y3 y4
        rintro e w7 ⟨rfl, hb7⟩
        have HS7 : Hid (SB w w1.heap.size w2.heap.size kd' ct' nm' tx' l (.slice A1 l.length cp1) (.slice A2 l.length cp2) (.slice A3 l.length cp3) (List.replicate l.length 7) w7) := HS6.out.below hb7
        have HM7 : Hid (w7.ownsRow w.heap.size 30 1 (.slice (some ⟨gm, 0, none⟩) (l.length + 1) cp5) (l.length + 1) (wordsV (List.replicate l.length 7 ++ [8]))) := row_kept HM6.out hb7
        clear hb7 HS6 HM6
        go_wp2_with (go_at_call 5; fail)
        refine (parse_is U _ (by omega) (HE.out.below HS7.out.base) HPU.out).mono ?_
        rintro e w8 ⟨A6, cp6, rfl, ho8, hb8⟩
        have hbw : Below w8.heap.size w8 (w8.alloc (.cells #[.int .i64 kd', .string nm', .slice A6 l.length cp6, .int .i64 ct', .string tx'] 25)) := (Below.refl _ _).alloc (Nat.le_refl _) _
        have HS8 : Hid (SB w w1.heap.size w2.heap.size kd' ct' nm' tx' l (.slice A1 l.length cp1) (.slice A2 l.length cp2) (.slice A3 l.length cp3) (List.replicate l.length 7) (w8.alloc (.cells #[.int .i64 kd', .string nm', .slice A6 l.length cp6, .int .i64 ct', .string tx'] 25))) := (HS7.out.below hb8).below hbw
        have HM8 : Hid ((w8.alloc (.cells #[.int .i64 kd', .string nm', .slice A6 l.length cp6, .int .i64 ct', .string tx'] 25)).ownsRow w.heap.size 30 1 (.slice (some ⟨gm, 0, none⟩) (l.length + 1) cp5) (l.length + 1) (wordsV (List.replicate l.length 7 ++ [8]))) := row_kept (row_kept HM7.out hb8) hbw
        have HO8 : Hid (WA (w8.alloc (.cells #[.int .i64 kd', .string nm', .slice A6 l.length cp6, .int .i64 ct', .string tx'] 25)) (.slice A6 l.length cp6) l) := (WA_of_own ho8).below hbw
        have HZ8 : Hid (Blk (w8.alloc (.cells #[.int .i64 kd', .string nm', .slice A6 l.length cp6, .int .i64 ct', .string tx'] 25)) w8.heap.size #[.int .i64 kd', .string nm', .slice A6 l.length cp6, .int .i64 ct', .string tx'] 25) := Blk.new _ _ _
        have b2 := (HS7.out.below hb8).X.cell 2 (v := .slice A1 l.length cp1) rfl
        have hlt8 : w1.heap.size < w8.heap.size := (HS7.out.below hb8).X.lt
        clear ho8 hb8 hbw HS7 HM7
        go_wp2
        clear b2
        go_loopg [23, 144] l.length (fun mm a i wr => ∃ k : Nat, mm = l.length - k ∧ k ≤ l.length ∧ i = .int .i64 k ∧ SB w w1.heap.size w2.heap.size kd' ct' nm' tx' l (.slice A1 l.length cp1) (.slice A2 l.length cp2) (.slice A3 l.length cp3) (List.replicate l.length 7) wr ∧ wr.ownsRow w.heap.size 30 1 (.slice (some ⟨gm, 0, none⟩) (l.length + 1) cp5) (l.length + 1) (wordsV (List.replicate l.length 7 ++ [8])) ∧ WA wr (.slice A6 l.length cp6) l ∧ Blk wr w8.heap.size #[.int .i64 kd', .string nm', .slice A6 l.length cp6, .int .i64 ct', .string tx'] 25)
        case atStart => exact ⟨0, rfl, Nat.zero_le _, rfl, HS8.out, HM8.out, HO8.out, HZ8.out⟩
        case round =>
          clear HS8 HM8 HO8 HZ8
          obtain ⟨k, hmm, hk, rfl, hS, hMo, hO, hZ⟩ := hrel
          have HM : Hid (gk = l.length - k) := hmm
          have HS : Hid (SB w w1.heap.size w2.heap.size kd' ct' nm' tx' l (.slice A1 l.length cp1) (.slice A2 l.length cp2) (.slice A3 l.length cp3) (List.replicate l.length 7) wr) := hS
          have HMo : Hid (wr.ownsRow w.heap.size 30 1 (.slice (some ⟨gm, 0, none⟩) (l.length + 1) cp5) (l.length + 1) (wordsV (List.replicate l.length 7 ++ [8]))) := hMo
          have HO : Hid (WA wr (.slice A6 l.length cp6) l) := hO
          have HZ : Hid (Blk wr w8.heap.size #[.int .i64 kd', .string nm', .slice A6 l.length cp6, .int .i64 ct', .string tx'] 25) := hZ
          clear hmm hS hMo hO hZ
          by_cases hlt : k < l.length
          · as_aux_lemma =>
            obtain ⟨gx, cpx, hsh, -, -, -, -, hcx⟩ := row_shape HS.out.x (by rw [List.length_replicate]; omega)
            injection hsh with h1 h2 h3
            subst h1
            clear h2 h3
            have b2 := HS.out.X.cell 2 (v := .slice (some ⟨gx, 0, none⟩) l.length cp1) rfl
            have x0 := hcx k (.int .u64 7) (by unfold wordsV; rw [List.getElem?_map, List.getElem?_replicate, if_pos hlt]; rfl)
            have hcm := HMo.out.cellAt k (by omega)
            have m0 : wr.cell? ⟨gm, k, none⟩ = some (.int .u64 7) := by
              rw [hcm]
              unfold wordsV
              rw [List.getElem?_map, List.getElem?_append_left (by simpa using hlt), List.getElem?_replicate, if_pos hlt]
              rfl
            clear hcx hcm
            go_wp2
            go_roundg (l.length - (k + 1))
            case measure => rw [HM.out]; omega
            case rel => exact ⟨k + 1, rfl, by omega, by go_num, HS.out, HMo.out, HO.out, HZ.out⟩
          · as_aux_lemma =>
            obtain rfl : k = l.length := by omega
            clear hlt HM
            have y0 := HS.out.Y.cell 0 (v := .int .i64 kd') rfl
            have y1 := HS.out.Y.cell 1 (v := .string nm') rfl
            have y2 := HS.out.Y.cell 2 (v := .slice A2 l.length cp2) rfl
            have y3 := HS.out.Y.cell 3 (v := .int .i64 ct') rfl
            have y4 := HS.out.Y.cell 4 (v := .string tx') rfl
            go_wp2_with (go_at_call 8; fail)
            clear y0 y1 y2 y3 y4
            refine (sw_any (.slice A2 l.length cp2) (.slice A3 l.length cp3) l wr (by omega) (WA_of_own HS.out.y) (WA_of_own HS.out.k)).mono ?_
            rintro e w10 ⟨rfl, hb10⟩
            have HS10 : Hid (SB w w1.heap.size w2.heap.size kd' ct' nm' tx' l (.slice A1 l.length cp1) (.slice A2 l.length cp2) (.slice A3 l.length cp3) (List.replicate l.length 7) w10) := HS.out.below hb10
            have HM10 : Hid (w10.ownsRow w.heap.size 30 1 (.slice (some ⟨gm, 0, none⟩) (l.length + 1) cp5) (l.length + 1) (wordsV (List.replicate l.length 7 ++ [8]))) := row_kept HMo.out hb10
            have HO10 : Hid (WA w10 (.slice A6 l.length cp6) l) := HO.out.below hb10
            have HZ10 : Hid (Blk w10 w8.heap.size #[.int .i64 kd', .string nm', .slice A6 l.length cp6, .int .i64 ct', .string tx'] 25) := HZ.out.below hb10 HZ.out.lt
            clear hb10 HS HMo HO HZ
            have y0 := HS10.out.Y.cell 0 (v := .int .i64 kd') rfl
            have y1 := HS10.out.Y.cell 1 (v := .string nm') rfl
            have y2 := HS10.out.Y.cell 2 (v := .slice A2 l.length cp2) rfl
            have y3 := HS10.out.Y.cell 3 (v := .int .i64 ct') rfl
            have y4 := HS10.out.Y.cell 4 (v := .string tx') rfl
            have z0 := HZ10.out.cell 0 (v := .int .i64 kd') rfl
            have z1 := HZ10.out.cell 1 (v := .string nm') rfl
            have z2 := HZ10.out.cell 2 (v := .slice A6 l.length cp6) rfl
            have z3 := HZ10.out.cell 3 (v := .int .i64 ct') rfl
            have z4 := HZ10.out.cell 4 (v := .string tx') rfl
            go_wp2_with (go_at_call 6; fail)
            clear y0 y1 y2 y3 y4 z0 z1 z2 z3 z4
            have hsc : Calls Tryz.prog 6 #[.agg #[.int .i64 kd', .string nm', .slice A6 l.length cp6, .int .i64 ct', .string tx'], .agg #[.int .i64 kd', .string nm', .slice A2 l.length cp2, .int .i64 ct', .string tx']] w10 fun e w' => e = .returned (.bool true) ∧ Below w10.heap.size w10 w' :=
              sc_any ⟨kd', nm', l, ct', tx'⟩ (.slice A6 l.length cp6) (.slice A2 l.length cp2) w10 (by dsimp only; omega) HO10.out (WA_of_own HS10.out.y)
            refine hsc.mono ?_
            clear hsc
            rintro e w11 ⟨rfl, hb11⟩
            have HB11 : Hid (Below w.heap.size w w11) := HS10.out.base.trans (hb11.mono HS10.out.base.size)
            have m8 : w11.cell? ⟨gm, l.length, none⟩ = some (.int .u64 8) := by
              rw [(row_kept HM10.out hb11).cellAt l.length (by omega)]
              unfold wordsV
              rw [List.getElem?_map, List.getElem?_append_right (by simp), List.length_replicate, Nat.sub_self]
              rfl
            have e7 : (((l.length + 1 : Nat) : Int) == (l.length : Int) + 1) = true := by simp
            clear hb11 HS10 HM10 HO10 HZ10
            go_wp2
            go_ret
            exact ⟨rfl, HB11.out⟩
  · have HE0 : Hid (er' ≠ 0) := h0
    obtain ⟨hn', hp⟩ := HWH.out.1 h0
    dsimp only at hn' hp
    unfold CallP.none at hn'
    injection hn' with h1 h2 h3 h4 h5
    subst h1; subst h2; subst h3; subst h4; subst h5
    have e3 : (((er' : Nat) : Int) != 0) = true := by rw [bne_iff_ne]; omega
    have e4 : (((er' : Nat) : Int) == ((er' : Nat) : Int)) = true := beq_self_eq_true _
    have e5 : (p : Int) ≤ (s.size : Int) := by omega
    clear h0 hp
    have b0 := HBX2.out.cell 0 (v := .int .i64 0) rfl
    have b1 := HBX2.out.cell 1 (v := .string ⟨#[]⟩) rfl
    have b2 := HBX2.out.cell 2 (v := .slice A1 0 cp1) rfl
    have b3 := HBX2.out.cell 3 (v := .int .i64 0) rfl
    have b4 := HBX2.out.cell 4 (v := .string ⟨#[]⟩) rfl
    have hO : WA w2 (.slice A1 0 cp1) [] := WA_of_own (l := []) HO1'.out
    have HO : Hid (WA w2 (.slice A1 0 cp1) []) := hO
    clear hO
    dsimp only [List.length_nil]
    go_wp2_with (go_at_call 6; fail)
    clear b0 b1 b2 b3 b4
    have hbw : Below w2.heap.size w2 (w2.alloc (.cells #[.int .i64 0, .string ⟨#[]⟩, .slice A2 0 cp2, .int .i64 0, .string ⟨#[]⟩] 25)) := (Below.refl _ _).alloc (Nat.le_refl _) _
    have hsc : Calls Tryz.prog 6 #[.agg #[.int .i64 0, .string ⟨#[]⟩, .slice A1 0 cp1, .int .i64 0, .string ⟨#[]⟩], .agg #[.int .i64 0, .string ⟨#[]⟩, .slice none 0 0, .int .i64 0, .string ⟨#[]⟩]] (w2.alloc (.cells #[.int .i64 0, .string ⟨#[]⟩, .slice A2 0 cp2, .int .i64 0, .string ⟨#[]⟩] 25)) fun e w' => e = .returned (.bool true) ∧ Below (w2.alloc (.cells #[.int .i64 0, .string ⟨#[]⟩, .slice A2 0 cp2, .int .i64 0, .string ⟨#[]⟩] 25)).heap.size (w2.alloc (.cells #[.int .i64 0, .string ⟨#[]⟩, .slice A2 0 cp2, .int .i64 0, .string ⟨#[]⟩] 25)) w' :=
      sc_any CallP.none (.slice A1 0 cp1) (.slice none 0 0) _ (by decide) (HO.out.below hbw) (.inl ⟨rfl, rfl⟩)
    refine hsc.mono ?_
    clear hsc
    rintro e w6 ⟨rfl, hb6⟩
    have HB6 : Hid (Below w.heap.size w w6) := HB2.out.trans ((hbw.trans (hb6.mono (by simp))).mono HB2.out.size)
    clear hbw hb6
    go_wp2
    go_ret
    exact ⟨rfl, HB6.out⟩
end Go.Proofs.YtijnbohjcmcfjaaGreatDoor.Sc
