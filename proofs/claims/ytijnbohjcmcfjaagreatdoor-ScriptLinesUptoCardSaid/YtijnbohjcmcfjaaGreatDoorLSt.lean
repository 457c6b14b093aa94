/-
  Walks: package script's Print.
-/
import Derived.Test.YtijnbohjcmcfjaaGreatDoorLSq
namespace Go.Proofs.YtijnbohjcmcfjaaGreatDoor.Sc
open Go.RowKit Go.Proofs.YtijnbohjcmcfjaaGreatDoor.Kt Go.Proofs.YtijnbohjcmcfjaaGreatDoor.Lk Go.Proofs.YtijnbohjcmcfjaaGreatDoor.Sp Go.Proofs.YtijnbohjcmcfjaaGreatDoor.Rw Go.Proofs.YtijnbohjcmcfjaaGreatDoor.Rg
open Go.Proofs.YtijnbohjcmcfjaaGreatDoor.Nu (dgt Sizes isInt pwOf)
set_option linter.unusedSimpArgs false
set_option linter.unusedVariables false
set_option maxRecDepth 100000

theorem below_grow (w : World) (k : Nat) (os : Array Obj) : Below w.heap.size w (Sort.grow (w.drewN k) os) :=
  ⟨rfl, rfl, rfl, by simp [Sort.grow], fun i hi => by show (w.heap ++ os)[i]? = _; rw [Array.getElem?_append_left hi]⟩
theorem itoa_any (n : Nat) (hn : n ≤ 4294967295) (w : World) (ht : Tab w) :
    Calls Tryz.prog 19 #[.int .i64 n] w fun e w' => e = .returned (.string (dgt n)) ∧ Below w.heap.size w w' :=
  (Tryz.strconv_Itoa n (by omega) (by omega) w ht).mono fun e w' ⟨he, k, os, hw⟩ => by
    subst hw
    refine ⟨?_, below_grow w k os⟩
    rw [he]; unfold Lib.itoa dgt
    rw [if_neg (by omega), Int.toNat_natCast]
/-- what reads a call's kind and name -/
def CellsP (b : Nat) (kd : Int) (nm : ByteArray) (w : World) : Prop := w.cell? ⟨b, 0, none⟩ = some (.int .i64 kd) ∧ w.cell? ⟨b, 1, none⟩ = some (.string nm)
theorem field0 (w : World) : (Instr.field 51 (.agg #[.string wField, .int .i64 0, .func (.func 40) #[] #[]]) 0).run Tryz.prog w = .ok (.string wField) w := by kernel_rfl
theorem field1 (w : World) : (Instr.field 51 (.agg #[.string wGroup, .int .i64 1, .func (.func 41) #[] #[]]) 0).run Tryz.prog w = .ok (.string wGroup) w := by kernel_rfl
theorem field3 (w : World) : (Instr.field 51 (.agg #[.string wData, .int .i64 3, .func (.func 42) #[] #[]]) 0).run Tryz.prog w = .ok (.string wData) w := by kernel_rfl
def PrintPost (c : CallP) (w : World) (e : Ending) (w' : World) : Prop := e = .returned (.tuple #[.string (printF c).1, .int .i64 ((printF c).2 : Int)]) ∧ Below w.heap.size w w'
theorem printPost_bad {c : CallP} {w w' : World} (h : printF c = (⟨#[]⟩, 250)) (hb : Below w.heap.size w w') : PrintPost c w (.returned (.tuple #[.string ⟨#[]⟩, .int .i64 250])) w' := by
  unfold PrintPost; rw [h]; exact ⟨rfl, hb⟩
theorem printPost_ok {c : CallP} {w w' : World} {t : ByteArray} (h : printF c = (t, 0)) (hb : Below w.heap.size w w') : PrintPost c w (.returned (.tuple #[.string t, .int .i64 0])) w' := by
  unfold PrintPost; rw [h]; exact ⟨rfl, hb⟩
set_option maxHeartbeats 1600000 in
theorem print_next (nm : ByteArray) (ws : List Nat) (ct : Int) (tx : ByteArray) (A : Option Addr) (cap : Nat) (w : World) (hl : ws.length ≤ 1048577) (hn : nm.size ≤ 268435456) :
    Calls Tryz.prog 7 #[.agg (callV ⟨2, nm, ws, ct, tx⟩ (.slice A ws.length cap))] w (PrintPost ⟨2, nm, ws, ct, tx⟩ w) := by
  unfold callV
  dsimp only
  by_cases h0 : nm.size = 0
  · obtain rfl := empty_of_size h0
    cases hs : spareF ⟨2, ⟨#[]⟩, ws, ct, tx⟩ with
    | false =>
      have HSP : Hid (spareF ⟨2, ⟨#[]⟩, ws, ct, tx⟩ = false) := hs
      have HR : Hid (printF ⟨2, ⟨#[]⟩, ws, ct, tx⟩ = (wNext, 0)) := by unfold Hid printF; rw [if_pos ⟨rfl, rfl, hs⟩]
      clear hs h0
      go_enter Tryz.func7, Tryz.ntmps7
      go_wp2_with (go_at_call 16; fail)
      refine (spare_any ⟨2, ⟨#[]⟩, ws, ct, tx⟩ A cap _ hl).mono ?_
      rintro e w1 ⟨he, hb1⟩
      rw [HSP.out] at he
      subst he
      go_wp2
      go_ret2
      exact printPost_ok HR.out (((Below.refl _ _).alloc (Nat.le_refl _) _).trans (hb1.mono (by simp)))
    | true =>
      have HSP : Hid (spareF ⟨2, ⟨#[]⟩, ws, ct, tx⟩ = true) := hs
      have HR : Hid (printF ⟨2, ⟨#[]⟩, ws, ct, tx⟩ = (⟨#[]⟩, 250)) := by
        unfold Hid printF
        rw [if_neg (by rw [hs]; simp), if_pos (.inr (.inr (.inl rfl)))]
      have HK0 : Hid (Blk (w.alloc (.cells #[.int .i64 2, .string ⟨#[]⟩, .slice A ws.length cap, .int .i64 ct, .string tx] 25)) w.heap.size #[.int .i64 2, .string ⟨#[]⟩, .slice A ws.length cap, .int .i64 ct, .string tx] 25) := Blk.new _ _ _
      clear hs h0
      go_enter Tryz.func7, Tryz.ntmps7
      go_wp2_with (go_at_call 16; fail)
      refine (spare_any ⟨2, ⟨#[]⟩, ws, ct, tx⟩ A cap _ hl).mono ?_
      rintro e w1 ⟨he, hb1⟩
      rw [HSP.out] at he
      subst he
      have HB1 : Hid (Below w.heap.size w w1) := ((Below.refl _ _).alloc (Nat.le_refl _) _).trans (hb1.mono (by simp))
      have b0 := (HK0.out.below hb1 HK0.out.lt).cell 0 (v := .int .i64 2) rfl
      clear hb1
      go_wp2
      go_ret2
      exact printPost_bad HR.out HB1.out
  · have HR : Hid (printF ⟨2, nm, ws, ct, tx⟩ = (⟨#[]⟩, 250)) := by
      unfold Hid printF
      rw [if_neg (fun h => h0 h.2.1), if_pos (.inr (.inr (.inl rfl)))]
    have ie := isEmpty_false h0
    clear h0
    go_enter Tryz.func7, Tryz.ntmps7
    go_wp2
    go_ret2
    exact printPost_bad HR.out ((Below.refl _ _).alloc (Nat.le_refl _) _)
set_option maxHeartbeats 1600000 in
theorem print_kind (kd : Int) (hk : kd < 0 ∨ 3 < kd) (nm : ByteArray) (ws : List Nat) (ct : Int) (tx : ByteArray) (A : Option Addr) (cap : Nat) (w : World) :
    Calls Tryz.prog 7 #[.agg (callV ⟨kd, nm, ws, ct, tx⟩ (.slice A ws.length cap))] w (PrintPost ⟨kd, nm, ws, ct, tx⟩ w) := by
  unfold callV
  dsimp only
  have h2 : kd ≠ 2 := by omega
  have HR : Hid (printF ⟨kd, nm, ws, ct, tx⟩ = (⟨#[]⟩, 250)) := by
    unfold Hid printF
    rw [if_neg (fun h => h2 h.1), if_pos]
    rcases hk with h | h
    · exact .inl h
    · exact .inr (.inl h)
  have e2 : (kd == 2) = false := by rw [beq_eq_false_iff_ne]; exact h2
  clear h2
  rcases hk with h | h
  · have d0 : decide (kd < 0) = true := by simpa using h
    go_enter Tryz.func7, Tryz.ntmps7
    go_wp2
    go_ret2
    exact printPost_bad HR.out ((Below.refl _ _).alloc (Nat.le_refl _) _)
  · have d0 : decide (kd < 0) = false := by simp; omega
    have d1 : decide (3 < kd) = true := by simpa using h
    go_enter Tryz.func7, Tryz.ntmps7
    go_wp2
    go_ret2
    exact printPost_bad HR.out ((Below.refl _ _).alloc (Nat.le_refl _) _)
set_option maxHeartbeats 3200000 in
theorem print_field (nm : ByteArray) (ws : List Nat) (ct : Int) (tx : ByteArray) (v : Value) (w : World) (hw : WA w v ws) (hws : ∀ n ∈ ws, n < 2 ^ 64) (hl : ws.length ≤ 1048577) (hn : nm.size ≤ 268435456) (ht : tx.size ≤ 67108864) (he : EnvS w) :
    Calls Tryz.prog 7 #[.agg (callV ⟨0, nm, ws, ct, tx⟩ v)] w (PrintPost ⟨0, nm, ws, ct, tx⟩ w) := by
  have HW : Hid (WA w v ws) := hw
  obtain ⟨A, cap, rfl⟩ := hw.len
  clear hw
  unfold callV
  dsimp only
  have HB0 : Hid (Below w.heap.size w (w.alloc (.cells #[.int .i64 0, .string nm, .slice A ws.length cap, .int .i64 ct, .string tx] 25))) := (Below.refl _ _).alloc (Nat.le_refl _) _
  have HK0 : Hid (Blk (w.alloc (.cells #[.int .i64 0, .string nm, .slice A ws.length cap, .int .i64 ct, .string tx] 25)) w.heap.size #[.int .i64 0, .string nm, .slice A ws.length cap, .int .i64 ct, .string tx] 25) := Blk.new _ _ _
  have HWS : Hid (∀ n ∈ ws, n < 2 ^ 64) := hws
  have HF : Hid (printF ⟨0, nm, ws, ct, tx⟩ = if symOk nm = false ∨ spareF ⟨0, nm, ws, ct, tx⟩ = true ∨ ct < 0 ∨ 4294967295 < ct then (⟨#[]⟩, 250) else (if ws ≠ [] then (wField ++ sp ++ nm ++ (sp ++ joinF ws), 0) else (wField ++ sp ++ nm, 0))) := by
    unfold Hid printF
    rw [if_neg (by simp)]
    simp
  clear hws
  cases hsym : symOk nm with
  | false =>
    have HSY : Hid (symOk nm = false) := hsym
    have HR : Hid (printF ⟨0, nm, ws, ct, tx⟩ = (⟨#[]⟩, 250)) := by unfold Hid; rw [HF.out, if_pos (.inl hsym)]
    clear hsym
    go_enter Tryz.func7, Tryz.ntmps7
    go_wp2_with (go_at_call 17; refine (tsymbol_big nm _ hn).mono ?_; rintro e w' ⟨he, rfl⟩; rw [HSY.out] at he; subst he)
    go_ret2
    exact printPost_bad HR.out HB0.out
  | true =>
  have HSY : Hid (symOk nm = true) := hsym
  clear hsym
  cases hs : spareF ⟨0, nm, ws, ct, tx⟩ with
  | true =>
    have HSP : Hid (spareF ⟨0, nm, ws, ct, tx⟩ = true) := hs
    have HR : Hid (printF ⟨0, nm, ws, ct, tx⟩ = (⟨#[]⟩, 250)) := by unfold Hid; rw [HF.out, if_pos (.inr (.inl hs))]
    clear hs
    go_enter Tryz.func7, Tryz.ntmps7
    go_wp2_with (go_at_call 17; fail)
    refine (tsymbol_big nm _ hn).mono ?_
    rintro e w' ⟨he, rfl⟩
    rw [HSY.out] at he
    subst he
    go_wp2_with (go_at_call 16; fail)
    refine (spare_any ⟨0, nm, ws, ct, tx⟩ A cap _ hl).mono ?_
    rintro e w1 ⟨he, hb1⟩
    rw [HSP.out] at he
    subst he
    have HB1 : Hid (Below w.heap.size w w1) := HB0.out.trans (hb1.mono (by simp))
    have HK1 : Hid (Blk w1 w.heap.size #[.int .i64 0, .string nm, .slice A ws.length cap, .int .i64 ct, .string tx] 25) := HK0.out.below hb1 (by have := HK0.out.lt; exact this)
    clear hb1
    have b0 := HK1.out.cell 0 (v := .int .i64 0) rfl
    have b1 := HK1.out.cell 1 (v := .string nm) rfl
    have b2 := HK1.out.cell 2 (v := .slice A ws.length cap) rfl
    have b3 := HK1.out.cell 3 (v := .int .i64 ct) rfl
    have b4 := HK1.out.cell 4 (v := .string tx) rfl
    go_wp2
    go_ret2
    exact printPost_bad HR.out HB1.out
  | false =>
  have HSP : Hid (spareF ⟨0, nm, ws, ct, tx⟩ = false) := hs
  clear hs
  by_cases hc0 : ct < 0
  · have HR : Hid (printF ⟨0, nm, ws, ct, tx⟩ = (⟨#[]⟩, 250)) := by unfold Hid; rw [HF.out, if_pos (.inr (.inr (.inl hc0)))]
    have d0 : decide (ct < 0) = true := by simpa using hc0
    clear hc0
    go_enter Tryz.func7, Tryz.ntmps7
    go_wp2_with (go_at_call 17; fail)
    refine (tsymbol_big nm _ hn).mono ?_
    rintro e w' ⟨he, rfl⟩
    rw [HSY.out] at he
    subst he
    go_wp2_with (go_at_call 16; fail)
    refine (spare_any ⟨0, nm, ws, ct, tx⟩ A cap _ hl).mono ?_
    rintro e w1 ⟨he, hb1⟩
    rw [HSP.out] at he
    subst he
    have HB1 : Hid (Below w.heap.size w w1) := HB0.out.trans (hb1.mono (by simp))
    have HK1 : Hid (Blk w1 w.heap.size #[.int .i64 0, .string nm, .slice A ws.length cap, .int .i64 ct, .string tx] 25) := HK0.out.below hb1 (by have := HK0.out.lt; exact this)
    clear hb1
    have b0 := HK1.out.cell 0 (v := .int .i64 0) rfl
    have b1 := HK1.out.cell 1 (v := .string nm) rfl
    have b2 := HK1.out.cell 2 (v := .slice A ws.length cap) rfl
    have b3 := HK1.out.cell 3 (v := .int .i64 ct) rfl
    have b4 := HK1.out.cell 4 (v := .string tx) rfl
    go_wp2
    go_ret2
    exact printPost_bad HR.out HB1.out
  have d0 : decide (ct < 0) = false := by simp; omega
  by_cases hc1 : 4294967295 < ct
  · have HR : Hid (printF ⟨0, nm, ws, ct, tx⟩ = (⟨#[]⟩, 250)) := by unfold Hid; rw [HF.out, if_pos (.inr (.inr (.inr hc1)))]
    have d1 : decide (4294967295 < ct) = true := by simpa using hc1
    clear hc1 hc0
    go_enter Tryz.func7, Tryz.ntmps7
    go_wp2_with (go_at_call 17; fail)
    refine (tsymbol_big nm _ hn).mono ?_
    rintro e w' ⟨he, rfl⟩
    rw [HSY.out] at he
    subst he
    go_wp2_with (go_at_call 16; fail)
    refine (spare_any ⟨0, nm, ws, ct, tx⟩ A cap _ hl).mono ?_
    rintro e w1 ⟨he, hb1⟩
    rw [HSP.out] at he
    subst he
    have HB1 : Hid (Below w.heap.size w w1) := HB0.out.trans (hb1.mono (by simp))
    have HK1 : Hid (Blk w1 w.heap.size #[.int .i64 0, .string nm, .slice A ws.length cap, .int .i64 ct, .string tx] 25) := HK0.out.below hb1 (by have := HK0.out.lt; exact this)
    clear hb1
    have b0 := HK1.out.cell 0 (v := .int .i64 0) rfl
    have b1 := HK1.out.cell 1 (v := .string nm) rfl
    have b2 := HK1.out.cell 2 (v := .slice A ws.length cap) rfl
    have b3 := HK1.out.cell 3 (v := .int .i64 ct) rfl
    have b4 := HK1.out.cell 4 (v := .string tx) rfl
    go_wp2
    go_ret2
    exact printPost_bad HR.out HB1.out
  have d1 : decide (4294967295 < ct) = false := by simp; omega
  have HR : Hid (printF ⟨0, nm, ws, ct, tx⟩ = (if ws ≠ [] then (wField ++ sp ++ nm ++ (sp ++ joinF ws), 0) else (wField ++ sp ++ nm, 0))) := by
    unfold Hid
    rw [HF.out, if_neg]
    rw [HSY.out, HSP.out]
    simp
    omega
  have hn64 : nm.size ≤ 64 := by
    have h := HSY.out
    unfold symOk at h
    simp at h
    exact h.1.2
  have hwl : (wField).size ≤ 5 := by decide
  obtain ⟨ct, rfl⟩ : ∃ n : Nat, ct = (n : Int) := ⟨ct.toNat, by omega⟩
  have hct : ct ≤ 4294967295 := by omega
  have hidx : ∀ w, (Instr.index 52 (.agg formsV) (.int .i64 0)).run Tryz.prog w = _ := form0
  have hfld := field0
  clear hc0 hc1 HF
  by_cases h0 : ws = []
  · have HH0 : Hid (ws = []) := h0
    clear h0
    go_enter Tryz.func7, Tryz.ntmps7
    go_wp2_with (go_at_call 17; fail)
    refine (tsymbol_big nm _ hn).mono ?_
    rintro e w' ⟨he, rfl⟩
    rw [HSY.out] at he
    subst he
    go_wp2_with (go_at_call 16; fail)
    refine (spare_any ⟨0, nm, ws, ct, tx⟩ A cap _ hl).mono ?_
    rintro e w1 ⟨he, hb1⟩
    rw [HSP.out] at he
    subst he
    have HB1 : Hid (Below w.heap.size w w1) := HB0.out.trans (hb1.mono (by simp))
    have HK1 : Hid (Blk w1 w.heap.size #[.int .i64 0, .string nm, .slice A ws.length cap, .int .i64 ct, .string tx] 25) := HK0.out.below hb1 (by have := HK0.out.lt; exact this)
    clear hb1
    have b0 := HK1.out.cell 0 (v := .int .i64 0) rfl
    have b1 := HK1.out.cell 1 (v := .string nm) rfl
    have b2 := HK1.out.cell 2 (v := .slice A ws.length cap) rfl
    have b3 := HK1.out.cell 3 (v := .int .i64 ct) rfl
    have b4 := HK1.out.cell 4 (v := .string tx) rfl
    clear b0 b1 b2 b3 b4
    have HD1 : Hid (Blk w1.drew w.heap.size #[.int .i64 0, .string nm, .slice A ws.length cap, .int .i64 (ct : Int), .string tx] 25) := HK1.out.drew
    have b0 := HK1.out.cell 0 (v := .int .i64 0) rfl
    have b1 := HK1.out.cell 1 (v := .string nm) rfl
    have b3 := HK1.out.cell 3 (v := .int .i64 (ct : Int)) rfl
    go_upto_region 5 with (fail)
    clear b0 b1 b3
    refine wp_region_planH (CellsP w.heap.size 0 nm) [(some 54, 1), (some 55, 2), (some 59, 6), (some 60, 7), (none, 0), (none, 3), (none, 4), (none, 5), (none, 8), (none, 9)] (by kernel_rfl) (by kernel_rfl) (fun _ _ d _ _ h => by cases d <;> exact h) ⟨HD1.out.cell 0 rfl, HD1.out.cell 1 rfl⟩ ?_
    repeat (refine planH_yes (v := ?_) (a' := ?_) rfl rfl (by rfl) ?_ ?_ ?_; rotate_left; (intro w' hS'; obtain ⟨c0, c1⟩ := hS'; go_simp; with_reducible rfl); rotate_left; (simp only [Act.put, List.setIfInBounds_toArray, List.set_cons_zero, List.set_cons_succ]; rfl))
    refine planH_alone _ _ _ _ ?_
    simp only [picks, List.getElem?_cons_succ, List.getElem?_cons_zero]
    go_wp2_with (go_at_call 18; fail)
    refine (forms_any _).mono ?_
    rintro e w2 ⟨rfl, hb2⟩
    have HB2 : Hid (Below w.heap.size w w2) := HB1.out.drew.trans (hb2.mono (by show w.heap.size ≤ w1.heap.size; exact HB1.out.size))
    have HK2 : Hid (Blk w2 w.heap.size #[.int .i64 0, .string nm, .slice A ws.length cap, .int .i64 (ct : Int), .string tx] 25) := HD1.out.below hb2 HK1.out.lt
    have HS2 : Hid (CellsP w.heap.size 0 nm w2) := ⟨HK2.out.cell 0 rfl, HK2.out.cell 1 rfl⟩
    clear hb2 HD1 HB1 HK1
    generalize hFV : Value.agg formsV = FV at hidx
    go_wp2
    refine ⟨HS2.out, ?_⟩
    iterate 5
      refine planH_alone _ _ _ _ ?_
      simp only [picks, List.getElem?_cons_succ, List.getElem?_cons_zero]
      go_wp2
      refine ⟨HS2.out, ?_⟩
    refine planH_done ?_
    obtain ⟨T, hT⟩ : ∃ T : ByteArray, T = wField ++ { data := #[32] } ++ nm := ⟨_, rfl⟩
    rw [← hT]
    have hTs : T.size ≤ 70 := by rw [hT, ByteArray.size_append, ByteArray.size_append]; have : ({ data := #[32] } : ByteArray).size = 1 := rfl; omega
    have HT : Hid (T = wField ++ sp ++ nm) := hT
    clear hT hidx hfld hwl
    have b0 := HK2.out.cell 0 (v := .int .i64 0) rfl
    have b1 := HK2.out.cell 1 (v := .string nm) rfl
    have b2 := HK2.out.cell 2 (v := .slice A ws.length cap) rfl
    have b3 := HK2.out.cell 3 (v := .int .i64 (ct : Int)) rfl
    have b4 := HK2.out.cell 4 (v := .string tx) rfl
    have HQ : Hid (printF ⟨0, nm, ws, (ct : Int), tx⟩ = (T, 0)) := by unfold Hid; rw [HR.out, HT.out, if_neg (by have := HH0.out; simpa using this)]
    have e9 : decide (0 < ws.length) = false := by rw [HH0.out]; rfl
    go_wp2
    go_ret2
    exact printPost_ok HQ.out HB2.out

  · have HH0 : Hid (ws ≠ []) := h0
    have hp : 0 < ws.length := List.length_pos_iff.2 h0
    obtain ⟨bk, off, rfl, hrow⟩ : ∃ bk off, A = some ⟨bk, off, none⟩ ∧ RW w bk off ws := by
      rcases HW.out with ⟨_, h⟩ | ⟨_, _, _, h⟩ | ⟨b, off, c', h1, h2⟩
      · exact absurd h h0
      · exact absurd h h0
      · injection h1 with h1 _ _
        exact ⟨b, off, h1, h2⟩
    have HROW : Hid (RW w bk off ws) := hrow
    clear h0 hrow HW
    go_enter Tryz.func7, Tryz.ntmps7
    go_wp2_with (go_at_call 17; fail)
    refine (tsymbol_big nm _ hn).mono ?_
    rintro e w' ⟨he, rfl⟩
    rw [HSY.out] at he
    subst he
    go_wp2_with (go_at_call 16; fail)
    refine (spare_any ⟨0, nm, ws, ct, tx⟩ (some ⟨bk, off, none⟩) cap _ hl).mono ?_
    rintro e w1 ⟨he, hb1⟩
    rw [HSP.out] at he
    subst he
    have HB1 : Hid (Below w.heap.size w w1) := HB0.out.trans (hb1.mono (by simp))
    have HK1 : Hid (Blk w1 w.heap.size #[.int .i64 0, .string nm, .slice (some ⟨bk, off, none⟩) ws.length cap, .int .i64 ct, .string tx] 25) := HK0.out.below hb1 (by have := HK0.out.lt; exact this)
    clear hb1
    have b0 := HK1.out.cell 0 (v := .int .i64 0) rfl
    have b1 := HK1.out.cell 1 (v := .string nm) rfl
    have b2 := HK1.out.cell 2 (v := .slice (some ⟨bk, off, none⟩) ws.length cap) rfl
    have b3 := HK1.out.cell 3 (v := .int .i64 ct) rfl
    have b4 := HK1.out.cell 4 (v := .string tx) rfl
    clear b0 b1 b2 b3 b4
    have HD1 : Hid (Blk w1.drew w.heap.size #[.int .i64 0, .string nm, .slice (some ⟨bk, off, none⟩) ws.length cap, .int .i64 (ct : Int), .string tx] 25) := HK1.out.drew
    have b0 := HK1.out.cell 0 (v := .int .i64 0) rfl
    have b1 := HK1.out.cell 1 (v := .string nm) rfl
    have b3 := HK1.out.cell 3 (v := .int .i64 (ct : Int)) rfl
    go_upto_region 5 with (fail)
    clear b0 b1 b3
    refine wp_region_planH (CellsP w.heap.size 0 nm) [(some 54, 1), (some 55, 2), (some 59, 6), (some 60, 7), (none, 0), (none, 3), (none, 4), (none, 5), (none, 8), (none, 9)] (by kernel_rfl) (by kernel_rfl) (fun _ _ d _ _ h => by cases d <;> exact h) ⟨HD1.out.cell 0 rfl, HD1.out.cell 1 rfl⟩ ?_
    repeat (refine planH_yes (v := ?_) (a' := ?_) rfl rfl (by rfl) ?_ ?_ ?_; rotate_left; (intro w' hS'; obtain ⟨c0, c1⟩ := hS'; go_simp; with_reducible rfl); rotate_left; (simp only [Act.put, List.setIfInBounds_toArray, List.set_cons_zero, List.set_cons_succ]; rfl))
    refine planH_alone _ _ _ _ ?_
    simp only [picks, List.getElem?_cons_succ, List.getElem?_cons_zero]
    go_wp2_with (go_at_call 18; fail)
    refine (forms_any _).mono ?_
    rintro e w2 ⟨rfl, hb2⟩
    have HB2 : Hid (Below w.heap.size w w2) := HB1.out.drew.trans (hb2.mono (by show w.heap.size ≤ w1.heap.size; exact HB1.out.size))
    have HK2 : Hid (Blk w2 w.heap.size #[.int .i64 0, .string nm, .slice (some ⟨bk, off, none⟩) ws.length cap, .int .i64 (ct : Int), .string tx] 25) := HD1.out.below hb2 HK1.out.lt
    have HS2 : Hid (CellsP w.heap.size 0 nm w2) := ⟨HK2.out.cell 0 rfl, HK2.out.cell 1 rfl⟩
    clear hb2 HD1 HB1 HK1
    generalize hFV : Value.agg formsV = FV at hidx
    go_wp2
    refine ⟨HS2.out, ?_⟩
    iterate 5
      refine planH_alone _ _ _ _ ?_
      simp only [picks, List.getElem?_cons_succ, List.getElem?_cons_zero]
      go_wp2
      refine ⟨HS2.out, ?_⟩
    refine planH_done ?_
    obtain ⟨T, hT⟩ : ∃ T : ByteArray, T = wField ++ { data := #[32] } ++ nm := ⟨_, rfl⟩
    rw [← hT]
    have hTs : T.size ≤ 70 := by rw [hT, ByteArray.size_append, ByteArray.size_append]; have : ({ data := #[32] } : ByteArray).size = 1 := rfl; omega
    have HT : Hid (T = wField ++ sp ++ nm) := hT
    clear hT hidx hfld hwl
    have b0 := HK2.out.cell 0 (v := .int .i64 0) rfl
    have b1 := HK2.out.cell 1 (v := .string nm) rfl
    have b2 := HK2.out.cell 2 (v := .slice (some ⟨bk, off, none⟩) ws.length cap) rfl
    have b3 := HK2.out.cell 3 (v := .int .i64 (ct : Int)) rfl
    have b4 := HK2.out.cell 4 (v := .string tx) rfl
    have HQ : Hid (printF ⟨0, nm, ws, (ct : Int), tx⟩ = (T ++ ({ data := #[32] } ++ joinF ws), 0)) := by unfold Hid; rw [HR.out, HT.out, if_pos HH0.out]; rfl
    have hd := join_le ws HWS.out
    have hr2 := HROW.out.below HB2.out
    have hsz : Sizes w2 := he.sizes.below HB2.out
    have hj : Calls Tryz.prog 21 #[.int .i64 8, .slice (some ⟨bk, off, none⟩) ws.length cap] w2 (JoinPost ws w2) := join_some bk off cap ws w2 hl HWS.out hr2 hsz HH0.out
    clear hr2 hsz
    go_wp2_with (go_at_call 21; fail)
    refine hj.mono ?_
    rintro e w3 ⟨rfl, hb3⟩
    have HB3 : Hid (Below w.heap.size w w3) := HB2.out.trans (hb3.mono HB2.out.size)
    clear hb3 hj
    go_wp2
    go_ret2
    exact printPost_ok HQ.out HB3.out


set_option maxHeartbeats 3200000 in
theorem print_group (nm : ByteArray) (ws : List Nat) (ct : Int) (tx : ByteArray) (v : Value) (w : World) (hw : WA w v ws) (hws : ∀ n ∈ ws, n < 2 ^ 64) (hl : ws.length ≤ 1048577) (hn : nm.size ≤ 268435456) (ht : tx.size ≤ 67108864) (he : EnvS w) :
    Calls Tryz.prog 7 #[.agg (callV ⟨1, nm, ws, ct, tx⟩ v)] w (PrintPost ⟨1, nm, ws, ct, tx⟩ w) := by
  have HW : Hid (WA w v ws) := hw
  obtain ⟨A, cap, rfl⟩ := hw.len
  clear hw
  unfold callV
  dsimp only
  have HB0 : Hid (Below w.heap.size w (w.alloc (.cells #[.int .i64 1, .string nm, .slice A ws.length cap, .int .i64 ct, .string tx] 25))) := (Below.refl _ _).alloc (Nat.le_refl _) _
  have HK0 : Hid (Blk (w.alloc (.cells #[.int .i64 1, .string nm, .slice A ws.length cap, .int .i64 ct, .string tx] 25)) w.heap.size #[.int .i64 1, .string nm, .slice A ws.length cap, .int .i64 ct, .string tx] 25) := Blk.new _ _ _
  have HWS : Hid (∀ n ∈ ws, n < 2 ^ 64) := hws
  have HF : Hid (printF ⟨1, nm, ws, ct, tx⟩ = if symOk nm = false ∨ spareF ⟨1, nm, ws, ct, tx⟩ = true ∨ ct < 0 ∨ 4294967295 < ct then (⟨#[]⟩, 250) else (wGroup ++ sp ++ nm ++ (sp ++ dgt ct.toNat), 0)) := by
    unfold Hid printF
    rw [if_neg (by simp)]
    simp
  clear hws
  cases hsym : symOk nm with
  | false =>
    have HSY : Hid (symOk nm = false) := hsym
    have HR : Hid (printF ⟨1, nm, ws, ct, tx⟩ = (⟨#[]⟩, 250)) := by unfold Hid; rw [HF.out, if_pos (.inl hsym)]
    clear hsym
    go_enter Tryz.func7, Tryz.ntmps7
    go_wp2_with (go_at_call 17; refine (tsymbol_big nm _ hn).mono ?_; rintro e w' ⟨he, rfl⟩; rw [HSY.out] at he; subst he)
    go_ret2
    exact printPost_bad HR.out HB0.out
  | true =>
  have HSY : Hid (symOk nm = true) := hsym
  clear hsym
  cases hs : spareF ⟨1, nm, ws, ct, tx⟩ with
  | true =>
    have HSP : Hid (spareF ⟨1, nm, ws, ct, tx⟩ = true) := hs
    have HR : Hid (printF ⟨1, nm, ws, ct, tx⟩ = (⟨#[]⟩, 250)) := by unfold Hid; rw [HF.out, if_pos (.inr (.inl hs))]
    clear hs
    go_enter Tryz.func7, Tryz.ntmps7
    go_wp2_with (go_at_call 17; fail)
    refine (tsymbol_big nm _ hn).mono ?_
    rintro e w' ⟨he, rfl⟩
    rw [HSY.out] at he
    subst he
    go_wp2_with (go_at_call 16; fail)
    refine (spare_any ⟨1, nm, ws, ct, tx⟩ A cap _ hl).mono ?_
    rintro e w1 ⟨he, hb1⟩
    rw [HSP.out] at he
    subst he
    have HB1 : Hid (Below w.heap.size w w1) := HB0.out.trans (hb1.mono (by simp))
    have HK1 : Hid (Blk w1 w.heap.size #[.int .i64 1, .string nm, .slice A ws.length cap, .int .i64 ct, .string tx] 25) := HK0.out.below hb1 (by have := HK0.out.lt; exact this)
    clear hb1
    have b0 := HK1.out.cell 0 (v := .int .i64 1) rfl
    have b1 := HK1.out.cell 1 (v := .string nm) rfl
    have b2 := HK1.out.cell 2 (v := .slice A ws.length cap) rfl
    have b3 := HK1.out.cell 3 (v := .int .i64 ct) rfl
    have b4 := HK1.out.cell 4 (v := .string tx) rfl
    go_wp2
    go_ret2
    exact printPost_bad HR.out HB1.out
  | false =>
  have HSP : Hid (spareF ⟨1, nm, ws, ct, tx⟩ = false) := hs
  clear hs
  by_cases hc0 : ct < 0
  · have HR : Hid (printF ⟨1, nm, ws, ct, tx⟩ = (⟨#[]⟩, 250)) := by unfold Hid; rw [HF.out, if_pos (.inr (.inr (.inl hc0)))]
    have d0 : decide (ct < 0) = true := by simpa using hc0
    clear hc0
    go_enter Tryz.func7, Tryz.ntmps7
    go_wp2_with (go_at_call 17; fail)
    refine (tsymbol_big nm _ hn).mono ?_
    rintro e w' ⟨he, rfl⟩
    rw [HSY.out] at he
    subst he
    go_wp2_with (go_at_call 16; fail)
    refine (spare_any ⟨1, nm, ws, ct, tx⟩ A cap _ hl).mono ?_
    rintro e w1 ⟨he, hb1⟩
    rw [HSP.out] at he
    subst he
    have HB1 : Hid (Below w.heap.size w w1) := HB0.out.trans (hb1.mono (by simp))
    have HK1 : Hid (Blk w1 w.heap.size #[.int .i64 1, .string nm, .slice A ws.length cap, .int .i64 ct, .string tx] 25) := HK0.out.below hb1 (by have := HK0.out.lt; exact this)
    clear hb1
    have b0 := HK1.out.cell 0 (v := .int .i64 1) rfl
    have b1 := HK1.out.cell 1 (v := .string nm) rfl
    have b2 := HK1.out.cell 2 (v := .slice A ws.length cap) rfl
    have b3 := HK1.out.cell 3 (v := .int .i64 ct) rfl
    have b4 := HK1.out.cell 4 (v := .string tx) rfl
    go_wp2
    go_ret2
    exact printPost_bad HR.out HB1.out
  have d0 : decide (ct < 0) = false := by simp; omega
  by_cases hc1 : 4294967295 < ct
  · have HR : Hid (printF ⟨1, nm, ws, ct, tx⟩ = (⟨#[]⟩, 250)) := by unfold Hid; rw [HF.out, if_pos (.inr (.inr (.inr hc1)))]
    have d1 : decide (4294967295 < ct) = true := by simpa using hc1
    clear hc1 hc0
    go_enter Tryz.func7, Tryz.ntmps7
    go_wp2_with (go_at_call 17; fail)
    refine (tsymbol_big nm _ hn).mono ?_
    rintro e w' ⟨he, rfl⟩
    rw [HSY.out] at he
    subst he
    go_wp2_with (go_at_call 16; fail)
    refine (spare_any ⟨1, nm, ws, ct, tx⟩ A cap _ hl).mono ?_
    rintro e w1 ⟨he, hb1⟩
    rw [HSP.out] at he
    subst he
    have HB1 : Hid (Below w.heap.size w w1) := HB0.out.trans (hb1.mono (by simp))
    have HK1 : Hid (Blk w1 w.heap.size #[.int .i64 1, .string nm, .slice A ws.length cap, .int .i64 ct, .string tx] 25) := HK0.out.below hb1 (by have := HK0.out.lt; exact this)
    clear hb1
    have b0 := HK1.out.cell 0 (v := .int .i64 1) rfl
    have b1 := HK1.out.cell 1 (v := .string nm) rfl
    have b2 := HK1.out.cell 2 (v := .slice A ws.length cap) rfl
    have b3 := HK1.out.cell 3 (v := .int .i64 ct) rfl
    have b4 := HK1.out.cell 4 (v := .string tx) rfl
    go_wp2
    go_ret2
    exact printPost_bad HR.out HB1.out
  have d1 : decide (4294967295 < ct) = false := by simp; omega
  have HR : Hid (printF ⟨1, nm, ws, ct, tx⟩ = (wGroup ++ sp ++ nm ++ (sp ++ dgt ct.toNat), 0)) := by
    unfold Hid
    rw [HF.out, if_neg]
    rw [HSY.out, HSP.out]
    simp
    omega
  have hn64 : nm.size ≤ 64 := by
    have h := HSY.out
    unfold symOk at h
    simp at h
    exact h.1.2
  have hwl : (wGroup).size ≤ 5 := by decide
  obtain ⟨ct, rfl⟩ : ∃ n : Nat, ct = (n : Int) := ⟨ct.toNat, by omega⟩
  have hct : ct ≤ 4294967295 := by omega
  have hidx : ∀ w, (Instr.index 52 (.agg formsV) (.int .i64 1)).run Tryz.prog w = _ := form1
  have hfld := field1
  clear hc0 hc1 HF
  go_enter Tryz.func7, Tryz.ntmps7
  go_wp2_with (go_at_call 17; fail)
  refine (tsymbol_big nm _ hn).mono ?_
  rintro e w' ⟨he, rfl⟩
  rw [HSY.out] at he
  subst he
  go_wp2_with (go_at_call 16; fail)
  refine (spare_any ⟨1, nm, ws, ct, tx⟩ A cap _ hl).mono ?_
  rintro e w1 ⟨he, hb1⟩
  rw [HSP.out] at he
  subst he
  have HB1 : Hid (Below w.heap.size w w1) := HB0.out.trans (hb1.mono (by simp))
  have HK1 : Hid (Blk w1 w.heap.size #[.int .i64 1, .string nm, .slice A ws.length cap, .int .i64 ct, .string tx] 25) := HK0.out.below hb1 (by have := HK0.out.lt; exact this)
  clear hb1
  have b0 := HK1.out.cell 0 (v := .int .i64 1) rfl
  have b1 := HK1.out.cell 1 (v := .string nm) rfl
  have b2 := HK1.out.cell 2 (v := .slice A ws.length cap) rfl
  have b3 := HK1.out.cell 3 (v := .int .i64 ct) rfl
  have b4 := HK1.out.cell 4 (v := .string tx) rfl
  clear b0 b1 b2 b3 b4
  have HD1 : Hid (Blk w1.drew w.heap.size #[.int .i64 1, .string nm, .slice A ws.length cap, .int .i64 (ct : Int), .string tx] 25) := HK1.out.drew
  have b0 := HK1.out.cell 0 (v := .int .i64 1) rfl
  have b1 := HK1.out.cell 1 (v := .string nm) rfl
  have b3 := HK1.out.cell 3 (v := .int .i64 (ct : Int)) rfl
  go_upto_region 5 with (fail)
  clear b0 b1 b3
  refine wp_region_planH (CellsP w.heap.size 1 nm) [(some 54, 1), (some 55, 2), (some 59, 6), (some 60, 7), (none, 0), (none, 3), (none, 4), (none, 5), (none, 8), (none, 9)] (by kernel_rfl) (by kernel_rfl) (fun _ _ d _ _ h => by cases d <;> exact h) ⟨HD1.out.cell 0 rfl, HD1.out.cell 1 rfl⟩ ?_
  repeat (refine planH_yes (v := ?_) (a' := ?_) rfl rfl (by rfl) ?_ ?_ ?_; rotate_left; (intro w' hS'; obtain ⟨c0, c1⟩ := hS'; go_simp; with_reducible rfl); rotate_left; (simp only [Act.put, List.setIfInBounds_toArray, List.set_cons_zero, List.set_cons_succ]; rfl))
  refine planH_alone _ _ _ _ ?_
  simp only [picks, List.getElem?_cons_succ, List.getElem?_cons_zero]
  go_wp2_with (go_at_call 18; fail)
  refine (forms_any _).mono ?_
  rintro e w2 ⟨rfl, hb2⟩
  have HB2 : Hid (Below w.heap.size w w2) := HB1.out.drew.trans (hb2.mono (by show w.heap.size ≤ w1.heap.size; exact HB1.out.size))
  have HK2 : Hid (Blk w2 w.heap.size #[.int .i64 1, .string nm, .slice A ws.length cap, .int .i64 (ct : Int), .string tx] 25) := HD1.out.below hb2 HK1.out.lt
  have HS2 : Hid (CellsP w.heap.size 1 nm w2) := ⟨HK2.out.cell 0 rfl, HK2.out.cell 1 rfl⟩
  clear hb2 HD1 HB1 HK1
  generalize hFV : Value.agg formsV = FV at hidx
  go_wp2
  refine ⟨HS2.out, ?_⟩
  iterate 5
    refine planH_alone _ _ _ _ ?_
    simp only [picks, List.getElem?_cons_succ, List.getElem?_cons_zero]
    go_wp2
    refine ⟨HS2.out, ?_⟩
  refine planH_done ?_
  obtain ⟨T, hT⟩ : ∃ T : ByteArray, T = wGroup ++ { data := #[32] } ++ nm := ⟨_, rfl⟩
  rw [← hT]
  have hTs : T.size ≤ 70 := by rw [hT, ByteArray.size_append, ByteArray.size_append]; have : ({ data := #[32] } : ByteArray).size = 1 := rfl; omega
  have HT : Hid (T = wGroup ++ sp ++ nm) := hT
  clear hT hidx hfld hwl
  have b0 := HK2.out.cell 0 (v := .int .i64 1) rfl
  have b1 := HK2.out.cell 1 (v := .string nm) rfl
  have b2 := HK2.out.cell 2 (v := .slice A ws.length cap) rfl
  have b3 := HK2.out.cell 3 (v := .int .i64 (ct : Int)) rfl
  have b4 := HK2.out.cell 4 (v := .string tx) rfl
  have HQ : Hid (printF ⟨1, nm, ws, (ct : Int), tx⟩ = (T ++ ({ data := #[32] } ++ dgt ct), 0)) := by unfold Hid; rw [HR.out, HT.out, Int.toNat_natCast]; rfl
  have hTab : Tab w2 := Tab.below he.tab HB2.out
  have hd := Nu.dgt_size ct (by omega)
  go_wp2_with (go_at_call 19; fail)
  refine (itoa_any ct hct _ hTab).mono ?_
  rintro e w3 ⟨rfl, hb3⟩
  have HB3 : Hid (Below w.heap.size w w3) := HB2.out.trans (hb3.mono HB2.out.size)
  clear hb3 hTab
  go_wp2
  go_ret2
  exact printPost_ok HQ.out HB3.out


set_option maxHeartbeats 3200000 in
theorem print_data (nm : ByteArray) (ws : List Nat) (ct : Int) (tx : ByteArray) (v : Value) (w : World) (hw : WA w v ws) (hws : ∀ n ∈ ws, n < 2 ^ 64) (hl : ws.length ≤ 1048577) (hn : nm.size ≤ 268435456) (ht : tx.size ≤ 67108864) (he : EnvS w) :
    Calls Tryz.prog 7 #[.agg (callV ⟨3, nm, ws, ct, tx⟩ v)] w (PrintPost ⟨3, nm, ws, ct, tx⟩ w) := by
  have HW : Hid (WA w v ws) := hw
  obtain ⟨A, cap, rfl⟩ := hw.len
  clear hw
  unfold callV
  dsimp only
  have HB0 : Hid (Below w.heap.size w (w.alloc (.cells #[.int .i64 3, .string nm, .slice A ws.length cap, .int .i64 ct, .string tx] 25))) := (Below.refl _ _).alloc (Nat.le_refl _) _
  have HK0 : Hid (Blk (w.alloc (.cells #[.int .i64 3, .string nm, .slice A ws.length cap, .int .i64 ct, .string tx] 25)) w.heap.size #[.int .i64 3, .string nm, .slice A ws.length cap, .int .i64 ct, .string tx] 25) := Blk.new _ _ _
  have HWS : Hid (∀ n ∈ ws, n < 2 ^ 64) := hws
  have HF : Hid (printF ⟨3, nm, ws, ct, tx⟩ = if symOk nm = false ∨ spareF ⟨3, nm, ws, ct, tx⟩ = true ∨ ct < 0 ∨ 4294967295 < ct then (⟨#[]⟩, 250) else (wData ++ sp ++ nm ++ (sp ++ quoteF tx), 0)) := by
    unfold Hid printF
    rw [if_neg (by simp)]
    simp
  clear hws
  cases hsym : symOk nm with
  | false =>
    have HSY : Hid (symOk nm = false) := hsym
    have HR : Hid (printF ⟨3, nm, ws, ct, tx⟩ = (⟨#[]⟩, 250)) := by unfold Hid; rw [HF.out, if_pos (.inl hsym)]
    clear hsym
    go_enter Tryz.func7, Tryz.ntmps7
    go_wp2_with (go_at_call 17; refine (tsymbol_big nm _ hn).mono ?_; rintro e w' ⟨he, rfl⟩; rw [HSY.out] at he; subst he)
    go_ret2
    exact printPost_bad HR.out HB0.out
  | true =>
  have HSY : Hid (symOk nm = true) := hsym
  clear hsym
  cases hs : spareF ⟨3, nm, ws, ct, tx⟩ with
  | true =>
    have HSP : Hid (spareF ⟨3, nm, ws, ct, tx⟩ = true) := hs
    have HR : Hid (printF ⟨3, nm, ws, ct, tx⟩ = (⟨#[]⟩, 250)) := by unfold Hid; rw [HF.out, if_pos (.inr (.inl hs))]
    clear hs
    go_enter Tryz.func7, Tryz.ntmps7
    go_wp2_with (go_at_call 17; fail)
    refine (tsymbol_big nm _ hn).mono ?_
    rintro e w' ⟨he, rfl⟩
    rw [HSY.out] at he
    subst he
    go_wp2_with (go_at_call 16; fail)
    refine (spare_any ⟨3, nm, ws, ct, tx⟩ A cap _ hl).mono ?_
    rintro e w1 ⟨he, hb1⟩
    rw [HSP.out] at he
    subst he
    have HB1 : Hid (Below w.heap.size w w1) := HB0.out.trans (hb1.mono (by simp))
    have HK1 : Hid (Blk w1 w.heap.size #[.int .i64 3, .string nm, .slice A ws.length cap, .int .i64 ct, .string tx] 25) := HK0.out.below hb1 (by have := HK0.out.lt; exact this)
    clear hb1
    have b0 := HK1.out.cell 0 (v := .int .i64 3) rfl
    have b1 := HK1.out.cell 1 (v := .string nm) rfl
    have b2 := HK1.out.cell 2 (v := .slice A ws.length cap) rfl
    have b3 := HK1.out.cell 3 (v := .int .i64 ct) rfl
    have b4 := HK1.out.cell 4 (v := .string tx) rfl
    go_wp2
    go_ret2
    exact printPost_bad HR.out HB1.out
  | false =>
  have HSP : Hid (spareF ⟨3, nm, ws, ct, tx⟩ = false) := hs
  clear hs
  by_cases hc0 : ct < 0
  · have HR : Hid (printF ⟨3, nm, ws, ct, tx⟩ = (⟨#[]⟩, 250)) := by unfold Hid; rw [HF.out, if_pos (.inr (.inr (.inl hc0)))]
    have d0 : decide (ct < 0) = true := by simpa using hc0
    clear hc0
    go_enter Tryz.func7, Tryz.ntmps7
    go_wp2_with (go_at_call 17; fail)
    refine (tsymbol_big nm _ hn).mono ?_
    rintro e w' ⟨he, rfl⟩
    rw [HSY.out] at he
    subst he
    go_wp2_with (go_at_call 16; fail)
    refine (spare_any ⟨3, nm, ws, ct, tx⟩ A cap _ hl).mono ?_
    rintro e w1 ⟨he, hb1⟩
    rw [HSP.out] at he
    subst he
    have HB1 : Hid (Below w.heap.size w w1) := HB0.out.trans (hb1.mono (by simp))
    have HK1 : Hid (Blk w1 w.heap.size #[.int .i64 3, .string nm, .slice A ws.length cap, .int .i64 ct, .string tx] 25) := HK0.out.below hb1 (by have := HK0.out.lt; exact this)
    clear hb1
    have b0 := HK1.out.cell 0 (v := .int .i64 3) rfl
    have b1 := HK1.out.cell 1 (v := .string nm) rfl
    have b2 := HK1.out.cell 2 (v := .slice A ws.length cap) rfl
    have b3 := HK1.out.cell 3 (v := .int .i64 ct) rfl
    have b4 := HK1.out.cell 4 (v := .string tx) rfl
    go_wp2
    go_ret2
    exact printPost_bad HR.out HB1.out
  have d0 : decide (ct < 0) = false := by simp; omega
  by_cases hc1 : 4294967295 < ct
  · have HR : Hid (printF ⟨3, nm, ws, ct, tx⟩ = (⟨#[]⟩, 250)) := by unfold Hid; rw [HF.out, if_pos (.inr (.inr (.inr hc1)))]
    have d1 : decide (4294967295 < ct) = true := by simpa using hc1
    clear hc1 hc0
    go_enter Tryz.func7, Tryz.ntmps7
    go_wp2_with (go_at_call 17; fail)
    refine (tsymbol_big nm _ hn).mono ?_
    rintro e w' ⟨he, rfl⟩
    rw [HSY.out] at he
    subst he
    go_wp2_with (go_at_call 16; fail)
    refine (spare_any ⟨3, nm, ws, ct, tx⟩ A cap _ hl).mono ?_
    rintro e w1 ⟨he, hb1⟩
    rw [HSP.out] at he
    subst he
    have HB1 : Hid (Below w.heap.size w w1) := HB0.out.trans (hb1.mono (by simp))
    have HK1 : Hid (Blk w1 w.heap.size #[.int .i64 3, .string nm, .slice A ws.length cap, .int .i64 ct, .string tx] 25) := HK0.out.below hb1 (by have := HK0.out.lt; exact this)
    clear hb1
    have b0 := HK1.out.cell 0 (v := .int .i64 3) rfl
    have b1 := HK1.out.cell 1 (v := .string nm) rfl
    have b2 := HK1.out.cell 2 (v := .slice A ws.length cap) rfl
    have b3 := HK1.out.cell 3 (v := .int .i64 ct) rfl
    have b4 := HK1.out.cell 4 (v := .string tx) rfl
    go_wp2
    go_ret2
    exact printPost_bad HR.out HB1.out
  have d1 : decide (4294967295 < ct) = false := by simp; omega
  have HR : Hid (printF ⟨3, nm, ws, ct, tx⟩ = (wData ++ sp ++ nm ++ (sp ++ quoteF tx), 0)) := by
    unfold Hid
    rw [HF.out, if_neg]
    rw [HSY.out, HSP.out]
    simp
    omega
  have hn64 : nm.size ≤ 64 := by
    have h := HSY.out
    unfold symOk at h
    simp at h
    exact h.1.2
  have hwl : (wData).size ≤ 5 := by decide
  obtain ⟨ct, rfl⟩ : ∃ n : Nat, ct = (n : Int) := ⟨ct.toNat, by omega⟩
  have hct : ct ≤ 4294967295 := by omega
  have hidx : ∀ w, (Instr.index 52 (.agg formsV) (.int .i64 3)).run Tryz.prog w = _ := form3
  have hfld := field3
  clear hc0 hc1 HF
  go_enter Tryz.func7, Tryz.ntmps7
  go_wp2_with (go_at_call 17; fail)
  refine (tsymbol_big nm _ hn).mono ?_
  rintro e w' ⟨he, rfl⟩
  rw [HSY.out] at he
  subst he
  go_wp2_with (go_at_call 16; fail)
  refine (spare_any ⟨3, nm, ws, ct, tx⟩ A cap _ hl).mono ?_
  rintro e w1 ⟨he, hb1⟩
  rw [HSP.out] at he
  subst he
  have HB1 : Hid (Below w.heap.size w w1) := HB0.out.trans (hb1.mono (by simp))
  have HK1 : Hid (Blk w1 w.heap.size #[.int .i64 3, .string nm, .slice A ws.length cap, .int .i64 ct, .string tx] 25) := HK0.out.below hb1 (by have := HK0.out.lt; exact this)
  clear hb1
  have b0 := HK1.out.cell 0 (v := .int .i64 3) rfl
  have b1 := HK1.out.cell 1 (v := .string nm) rfl
  have b2 := HK1.out.cell 2 (v := .slice A ws.length cap) rfl
  have b3 := HK1.out.cell 3 (v := .int .i64 ct) rfl
  have b4 := HK1.out.cell 4 (v := .string tx) rfl
  clear b0 b1 b2 b3 b4
  have HD1 : Hid (Blk w1.drew w.heap.size #[.int .i64 3, .string nm, .slice A ws.length cap, .int .i64 (ct : Int), .string tx] 25) := HK1.out.drew
  have b0 := HK1.out.cell 0 (v := .int .i64 3) rfl
  have b1 := HK1.out.cell 1 (v := .string nm) rfl
  have b3 := HK1.out.cell 3 (v := .int .i64 (ct : Int)) rfl
  go_upto_region 5 with (fail)
  clear b0 b1 b3
  refine wp_region_planH (CellsP w.heap.size 3 nm) [(some 54, 1), (some 55, 2), (some 59, 6), (some 60, 7), (none, 0), (none, 3), (none, 4), (none, 5), (none, 8), (none, 9)] (by kernel_rfl) (by kernel_rfl) (fun _ _ d _ _ h => by cases d <;> exact h) ⟨HD1.out.cell 0 rfl, HD1.out.cell 1 rfl⟩ ?_
  repeat (refine planH_yes (v := ?_) (a' := ?_) rfl rfl (by rfl) ?_ ?_ ?_; rotate_left; (intro w' hS'; obtain ⟨c0, c1⟩ := hS'; go_simp; with_reducible rfl); rotate_left; (simp only [Act.put, List.setIfInBounds_toArray, List.set_cons_zero, List.set_cons_succ]; rfl))
  refine planH_alone _ _ _ _ ?_
  simp only [picks, List.getElem?_cons_succ, List.getElem?_cons_zero]
  go_wp2_with (go_at_call 18; fail)
  refine (forms_any _).mono ?_
  rintro e w2 ⟨rfl, hb2⟩
  have HB2 : Hid (Below w.heap.size w w2) := HB1.out.drew.trans (hb2.mono (by show w.heap.size ≤ w1.heap.size; exact HB1.out.size))
  have HK2 : Hid (Blk w2 w.heap.size #[.int .i64 3, .string nm, .slice A ws.length cap, .int .i64 (ct : Int), .string tx] 25) := HD1.out.below hb2 HK1.out.lt
  have HS2 : Hid (CellsP w.heap.size 3 nm w2) := ⟨HK2.out.cell 0 rfl, HK2.out.cell 1 rfl⟩
  clear hb2 HD1 HB1 HK1
  generalize hFV : Value.agg formsV = FV at hidx
  go_wp2
  refine ⟨HS2.out, ?_⟩
  iterate 5
    refine planH_alone _ _ _ _ ?_
    simp only [picks, List.getElem?_cons_succ, List.getElem?_cons_zero]
    go_wp2
    refine ⟨HS2.out, ?_⟩
  refine planH_done ?_
  obtain ⟨T, hT⟩ : ∃ T : ByteArray, T = wData ++ { data := #[32] } ++ nm := ⟨_, rfl⟩
  rw [← hT]
  have hTs : T.size ≤ 70 := by rw [hT, ByteArray.size_append, ByteArray.size_append]; have : ({ data := #[32] } : ByteArray).size = 1 := rfl; omega
  have HT : Hid (T = wData ++ sp ++ nm) := hT
  clear hT hidx hfld hwl
  have b0 := HK2.out.cell 0 (v := .int .i64 3) rfl
  have b1 := HK2.out.cell 1 (v := .string nm) rfl
  have b2 := HK2.out.cell 2 (v := .slice A ws.length cap) rfl
  have b3 := HK2.out.cell 3 (v := .int .i64 (ct : Int)) rfl
  have b4 := HK2.out.cell 4 (v := .string tx) rfl
  have HQ : Hid (printF ⟨3, nm, ws, (ct : Int), tx⟩ = (T ++ ({ data := #[32] } ++ quoteF tx), 0)) := by unfold Hid; rw [HR.out, HT.out]; rfl
  have hd := quote_le tx
  go_wp2_with (go_at_call 20; fail)
  refine (tquote_any tx _ ht).mono ?_
  rintro e w3 ⟨rfl, hb3⟩
  have HB3 : Hid (Below w.heap.size w w3) := HB2.out.trans (hb3.mono HB2.out.size)
  clear hb3
  go_wp2
  go_ret2
  exact printPost_ok HQ.out HB3.out


end Go.Proofs.YtijnbohjcmcfjaaGreatDoor.Sc
