/-
  Walks: the document's Print of a call.
-/
import Derived.Test.YtijnbohjcmcfjaaGreatDoorLQj
import Derived.Test.YtijnbohjcmcfjaaGreatDoorLSt
namespace Go.Proofs.YtijnbohjcmcfjaaGreatDoor.Sc
open Go.RowKit Go.Proofs.YtijnbohjcmcfjaaGreatDoor.Kt Go.Proofs.YtijnbohjcmcfjaaGreatDoor.Lk Go.Proofs.YtijnbohjcmcfjaaGreatDoor.Sp Go.Proofs.YtijnbohjcmcfjaaGreatDoor.Rw Go.Proofs.YtijnbohjcmcfjaaGreatDoor.Rg
open Go.Proofs.YtijnbohjcmcfjaaGreatDoor.Nu (dgt Sizes isInt pwOf)
set_option linter.unusedSimpArgs false
set_option linter.unusedVariables false
set_option maxRecDepth 100000

theorem rsym_any (s : ByteArray) (w : World) (hm : s.size ≤ 1048576) :
    Calls Tryz.prog 24 #[.string s] w fun e w' => e = .returned (.bool (symOk s)) ∧ ∃ n, w' = w.drewN n := by
  by_cases h : s.size ≤ 64
  · have h' : decide ((s.size : Int) ≤ 64) = true := by simp; omega
    have HR : Hid (symOk s = (decide (0 < s.size) && symAll s s.size)) := by unfold Hid symOk; simp [h]
    go_enter Tryz.func24, Tryz.ntmps24
    go_wp2_with (go_at_call 47; refine (made_any s _ hm).mono ?_; rintro e w' ⟨rfl, nq, rfl⟩)
    go_ret
    exact ⟨ret_bool HR.out.symm, _, rfl⟩
  · have h' : decide ((s.size : Int) ≤ 64) = false := by simp; omega
    have HR : Hid (symOk s = false) := by unfold Hid symOk; simp [h]
    go_enter Tryz.func24, Tryz.ntmps24
    go_wp2
    go_ret
    exact ⟨ret_bool HR.out.symm, 0, rfl⟩
def Cells2 (b : Nat) (nm : ByteArray) (i : Nat) (v : Value) (w : World) : Prop := w.cell? ⟨b, 1, none⟩ = some (.string nm) ∧ w.cell? ⟨b, i, none⟩ = some v
theorem lit_field : wField ++ sp = ⟨#[102, 105, 101, 108, 100, 32]⟩ := by rfl
theorem lit_group : wGroup ++ sp = ⟨#[103, 114, 111, 117, 112, 32]⟩ := by rfl
theorem lit_data : wData ++ sp = ⟨#[100, 97, 116, 97, 32]⟩ := by rfl
theorem lit3 (a nm x : ByteArray) : a ++ nm ++ (sp ++ x) = a ++ nm ++ ⟨#[32]⟩ ++ x := by rw [← ByteArray.append_assoc]; rfl
set_option maxHeartbeats 1600000 in
theorem rprint_kind (kd : Int) (hk : kd < 0 ∨ 3 < kd) (nm : ByteArray) (ws : List Nat) (ct : Int) (tx : ByteArray) (A : Option Addr) (cap : Nat) (w : World) :
    Calls Tryz.prog 11 #[.agg (callV ⟨kd, nm, ws, ct, tx⟩ (.slice A ws.length cap))] w (PrintPost ⟨kd, nm, ws, ct, tx⟩ w) := by
  unfold callV
  dsimp only
  have h2 : kd ≠ 2 := by omega
  have HR : Hid (printF ⟨kd, nm, ws, ct, tx⟩ = (⟨#[]⟩, 250)) := by
    unfold Hid printF
    rw [if_neg (fun h => h2 h.1), if_pos]
    rcases hk with h | h
    · exact .inl h
    · exact .inr (.inl h)
  clear h2
  rcases hk with h | h
  · have d0 : decide (kd < 0) = true := by simpa using h
    go_enter Tryz.func11, Tryz.ntmps11
    go_wp2
    go_ret2
    exact printPost_bad HR.out ((Below.refl _ _).alloc (Nat.le_refl _) _)
  · have d0 : decide (kd < 0) = false := by simp; omega
    have d1 : decide (3 < kd) = true := by simpa using h
    go_enter Tryz.func11, Tryz.ntmps11
    go_wp2
    go_ret2
    exact printPost_bad HR.out ((Below.refl _ _).alloc (Nat.le_refl _) _)
set_option maxHeartbeats 1600000 in
theorem rprint_next (nm : ByteArray) (ws : List Nat) (ct : Int) (tx : ByteArray) (A : Option Addr) (cap : Nat) (w : World) (hl : ws.length ≤ 1048577) :
    Calls Tryz.prog 11 #[.agg (callV ⟨2, nm, ws, ct, tx⟩ (.slice A ws.length cap))] w (PrintPost ⟨2, nm, ws, ct, tx⟩ w) := by
  unfold callV
  dsimp only
  by_cases h0 : nm.size = 0
  rotate_left
  · have HR : Hid (printF ⟨2, nm, ws, ct, tx⟩ = (⟨#[]⟩, 250)) := by
      unfold Hid printF
      rw [if_neg (fun h => h0 h.2.1), if_pos (.inr (.inr (.inl rfl)))]
    have ie := isEmpty_false h0
    clear h0
    go_enter Tryz.func11, Tryz.ntmps11
    go_wp2
    go_ret2
    exact printPost_bad HR.out ((Below.refl _ _).alloc (Nat.le_refl _) _)
  obtain rfl := empty_of_size h0
  clear h0
  have HB : ∀ ws ct tx, spareF ⟨2, ⟨#[]⟩, ws, ct, tx⟩ = true → printF ⟨2, ⟨#[]⟩, ws, ct, tx⟩ = (⟨#[]⟩, 250) := by
    intro ws ct tx hs
    unfold printF
    rw [if_neg (by rw [hs]; simp), if_pos (.inr (.inr (.inl rfl)))]
  by_cases hw : ws = []
  rotate_left
  · have hp : 0 < ws.length := List.length_pos_iff.2 hw
    have HR : Hid (printF ⟨2, ⟨#[]⟩, ws, ct, tx⟩ = (⟨#[]⟩, 250)) := HB _ _ _ (by unfold spareF; simp [hw])
    clear HB hw
    go_enter Tryz.func11, Tryz.ntmps11
    go_wp2
    go_ret2
    exact printPost_bad HR.out ((Below.refl _ _).alloc (Nat.le_refl _) _)
  subst hw
  by_cases hc : ct = 0
  rotate_left
  · have e0 : (ct != 0) = true := by rw [bne_iff_ne]; exact hc
    have HR : Hid (printF ⟨2, ⟨#[]⟩, [], ct, tx⟩ = (⟨#[]⟩, 250)) := HB _ _ _ (by unfold spareF; simp [hc])
    clear HB hc
    go_enter Tryz.func11, Tryz.ntmps11
    go_wp2
    go_ret2
    exact printPost_bad HR.out ((Below.refl _ _).alloc (Nat.le_refl _) _)
  subst hc
  by_cases hx : tx.size = 0
  rotate_left
  · have ie := isEmpty_false hx
    have HR : Hid (printF ⟨2, ⟨#[]⟩, [], 0, tx⟩ = (⟨#[]⟩, 250)) := HB _ _ _ (by unfold spareF; simp [hx])
    clear HB hx
    go_enter Tryz.func11, Tryz.ntmps11
    go_wp2
    go_ret2
    exact printPost_bad HR.out ((Below.refl _ _).alloc (Nat.le_refl _) _)
  obtain rfl := empty_of_size hx
  have HR : Hid (printF ⟨2, ⟨#[]⟩, [], 0, ⟨#[]⟩⟩ = (wNext, 0)) := by unfold Hid printF; rw [if_pos ⟨rfl, rfl, rfl⟩]
  clear HB hx
  go_enter Tryz.func11, Tryz.ntmps11
  go_wp2
  go_ret2
  exact printPost_ok HR.out ((Below.refl _ _).alloc (Nat.le_refl _) _)
set_option maxHeartbeats 3200000 in
theorem rprint_field (nm : ByteArray) (ws : List Nat) (ct : Int) (tx : ByteArray) (v : Value) (w : World) (hw : WA w v ws) (hws : ∀ n ∈ ws, n < 2 ^ 64) (hl : ws.length ≤ 1048577) (hn : nm.size ≤ 1048576) (ht : tx.size ≤ 67108864) (he : EnvS w) :
    Calls Tryz.prog 11 #[.agg (callV ⟨0, nm, ws, ct, tx⟩ v)] w (PrintPost ⟨0, nm, ws, ct, tx⟩ w) := by
  have HW : Hid (WA w v ws) := hw
  have HE : Hid (EnvS w) := he
  have HWS : Hid (∀ n ∈ ws, n < 2 ^ 64) := hws
  obtain ⟨A, cap, rfl⟩ := hw.len
  clear hw hws he
  unfold callV
  dsimp only
  have HF : ∀ ct tx, printF ⟨0, nm, ws, ct, tx⟩ = if symOk nm = false ∨ spareF ⟨0, nm, ws, ct, tx⟩ = true ∨ ct < 0 ∨ 4294967295 < ct then (⟨#[]⟩, 250) else (if ws ≠ [] then (wField ++ sp ++ nm ++ (sp ++ joinF ws), 0) else (wField ++ sp ++ nm, 0)) := by
    intro ct tx
    unfold printF
    rw [if_neg (by simp)]
    simp
  cases hsym : symOk nm with
  | false =>
    have HSY : Hid (symOk nm = false) := hsym
    have HR : Hid (printF ⟨0, nm, ws, ct, tx⟩ = (⟨#[]⟩, 250)) := by unfold Hid; rw [HF, if_pos (.inl hsym)]
    clear hsym HF
    go_enter Tryz.func11, Tryz.ntmps11
    go_wp2_with (go_at_call 24; fail)
    refine (rsym_any nm _ hn).mono ?_
    rintro e w' ⟨he, nq, rfl⟩
    rw [HSY.out] at he
    subst he
    have HB1 : Hid (Below w.heap.size w ((w.alloc (.cells #[.int .i64 0, .string nm, .slice A ws.length cap, .int .i64 ct, .string tx] 25)).drewN nq)) := below_drewN ((Below.refl _ _).alloc (Nat.le_refl _) _) nq
    have HK1 : Hid (Blk ((w.alloc (.cells #[.int .i64 0, .string nm, .slice A ws.length cap, .int .i64 ct, .string tx] 25)).drewN nq) w.heap.size #[.int .i64 0, .string nm, .slice A ws.length cap, .int .i64 ct, .string tx] 25) := (Blk.new _ _ _).drewN nq
    generalize (w.alloc (.cells #[.int .i64 0, .string nm, .slice A ws.length cap, .int .i64 ct, .string tx] 25)).drewN nq = w1 at HB1 HK1 ⊢
    have b0 := HK1.out.cell 0 (v := .int .i64 0) rfl
    have b1 := HK1.out.cell 1 (v := .string nm) rfl
    have b2 := HK1.out.cell 2 (v := .slice A ws.length cap) rfl
    have b3 := HK1.out.cell 3 (v := .int .i64 ct) rfl
    have b4 := HK1.out.cell 4 (v := .string tx) rfl
    go_wp2
    go_ret2
    exact printPost_bad HR.out HB1.out
  | true =>
  have HSY : Hid (symOk nm = true) := hsym
  by_cases hc : ct = 0
  rotate_left
  · have e0 : (ct != 0) = true := by rw [bne_iff_ne]; exact hc
    have HR : Hid (printF ⟨0, nm, ws, ct, tx⟩ = (⟨#[]⟩, 250)) := by unfold Hid; rw [HF, if_pos (.inr (.inl (by unfold spareF; simp [hc])))]

    clear HF hsym hc
    go_enter Tryz.func11, Tryz.ntmps11
    go_wp2_with (go_at_call 24; fail)
    refine (rsym_any nm _ hn).mono ?_
    rintro e w' ⟨he, nq, rfl⟩
    rw [HSY.out] at he
    subst he
    have HB1 : Hid (Below w.heap.size w ((w.alloc (.cells #[.int .i64 0, .string nm, .slice A ws.length cap, .int .i64 ct, .string tx] 25)).drewN nq)) := below_drewN ((Below.refl _ _).alloc (Nat.le_refl _) _) nq
    have HK1 : Hid (Blk ((w.alloc (.cells #[.int .i64 0, .string nm, .slice A ws.length cap, .int .i64 ct, .string tx] 25)).drewN nq) w.heap.size #[.int .i64 0, .string nm, .slice A ws.length cap, .int .i64 ct, .string tx] 25) := (Blk.new _ _ _).drewN nq
    generalize (w.alloc (.cells #[.int .i64 0, .string nm, .slice A ws.length cap, .int .i64 ct, .string tx] 25)).drewN nq = w1 at HB1 HK1 ⊢
    have b0 := HK1.out.cell 0 (v := .int .i64 0) rfl
    have b1 := HK1.out.cell 1 (v := .string nm) rfl
    have b2 := HK1.out.cell 2 (v := .slice A ws.length cap) rfl
    have b3 := HK1.out.cell 3 (v := .int .i64 ct) rfl
    have b4 := HK1.out.cell 4 (v := .string tx) rfl
    go_wp2
    go_ret2
    exact printPost_bad HR.out HB1.out
  subst hc
  by_cases hx : tx.size = 0
  rotate_left
  · have ie := isEmpty_false hx
    have HR : Hid (printF ⟨0, nm, ws, 0, tx⟩ = (⟨#[]⟩, 250)) := by unfold Hid; rw [HF, if_pos (.inr (.inl (by unfold spareF; simp [hx])))]

    clear HF hsym hx
    go_enter Tryz.func11, Tryz.ntmps11
    go_wp2_with (go_at_call 24; fail)
    refine (rsym_any nm _ hn).mono ?_
    rintro e w' ⟨he, nq, rfl⟩
    rw [HSY.out] at he
    subst he
    have HB1 : Hid (Below w.heap.size w ((w.alloc (.cells #[.int .i64 0, .string nm, .slice A ws.length cap, .int .i64 0, .string tx] 25)).drewN nq)) := below_drewN ((Below.refl _ _).alloc (Nat.le_refl _) _) nq
    have HK1 : Hid (Blk ((w.alloc (.cells #[.int .i64 0, .string nm, .slice A ws.length cap, .int .i64 0, .string tx] 25)).drewN nq) w.heap.size #[.int .i64 0, .string nm, .slice A ws.length cap, .int .i64 0, .string tx] 25) := (Blk.new _ _ _).drewN nq
    generalize (w.alloc (.cells #[.int .i64 0, .string nm, .slice A ws.length cap, .int .i64 0, .string tx] 25)).drewN nq = w1 at HB1 HK1 ⊢
    have b0 := HK1.out.cell 0 (v := .int .i64 0) rfl
    have b1 := HK1.out.cell 1 (v := .string nm) rfl
    have b2 := HK1.out.cell 2 (v := .slice A ws.length cap) rfl
    have b3 := HK1.out.cell 3 (v := .int .i64 0) rfl
    have b4 := HK1.out.cell 4 (v := .string tx) rfl
    go_wp2
    go_ret2
    exact printPost_bad HR.out HB1.out
  obtain rfl := empty_of_size hx
  clear hx
  have HG : Hid (printF ⟨0, nm, ws, 0, ⟨#[]⟩⟩ = (if ws ≠ [] then (wField ++ sp ++ nm ++ (sp ++ joinF ws), 0) else (wField ++ sp ++ nm, 0))) := by
    unfold Hid
    rw [HF, if_neg]
    rintro (h | h | h | h)
    · rw [hsym] at h; cases h
    · revert h; unfold spareF; simp; rfl
    · omega
    · omega
  clear HF hsym
  by_cases hw0 : ws = []
  · have HQ : Hid (printF ⟨0, nm, ws, 0, ⟨#[]⟩⟩ = (⟨#[102, 105, 101, 108, 100, 32]⟩ ++ nm, 0)) := by unfold Hid; rw [HG.out, if_neg (by simpa using hw0), lit_field]
    have e9 : ((ws.length : Int) == 0) = true := by rw [hw0]; rfl
    clear hw0
    go_enter Tryz.func11, Tryz.ntmps11
    go_wp2_with (go_at_call 24; fail)
    refine (rsym_any nm _ hn).mono ?_
    rintro e w' ⟨he, nq, rfl⟩
    rw [HSY.out] at he
    subst he
    have HB1 : Hid (Below w.heap.size w ((w.alloc (.cells #[.int .i64 0, .string nm, .slice A ws.length cap, .int .i64 0, .string ⟨#[]⟩] 25)).drewN nq)) := below_drewN ((Below.refl _ _).alloc (Nat.le_refl _) _) nq
    have HK1 : Hid (Blk ((w.alloc (.cells #[.int .i64 0, .string nm, .slice A ws.length cap, .int .i64 0, .string ⟨#[]⟩] 25)).drewN nq) w.heap.size #[.int .i64 0, .string nm, .slice A ws.length cap, .int .i64 0, .string ⟨#[]⟩] 25) := (Blk.new _ _ _).drewN nq
    generalize (w.alloc (.cells #[.int .i64 0, .string nm, .slice A ws.length cap, .int .i64 0, .string ⟨#[]⟩] 25)).drewN nq = w1 at HB1 HK1 ⊢
    have b0 := HK1.out.cell 0 (v := .int .i64 0) rfl
    have b1 := HK1.out.cell 1 (v := .string nm) rfl
    have b2 := HK1.out.cell 2 (v := .slice A ws.length cap) rfl
    have b3 := HK1.out.cell 3 (v := .int .i64 0) rfl
    have b4 := HK1.out.cell 4 (v := .string ⟨#[]⟩) rfl
    go_wp2
    go_ret2
    exact printPost_ok HQ.out HB1.out
  · have HQ : Hid (printF ⟨0, nm, ws, 0, ⟨#[]⟩⟩ = (⟨#[102, 105, 101, 108, 100, 32]⟩ ++ nm ++ ⟨#[32]⟩ ++ joinF ws, 0)) := by unfold Hid; rw [HG.out, if_pos hw0, lit_field, lit3]
    have e9 : ((ws.length : Int) == 0) = false := by have := List.length_pos_iff.2 hw0; rw [beq_eq_false_iff_ne]; omega
    have hd := join_le ws HWS.out
    clear hw0
    go_enter Tryz.func11, Tryz.ntmps11
    go_wp2_with (go_at_call 24; fail)
    refine (rsym_any nm _ hn).mono ?_
    rintro e w' ⟨he, nq, rfl⟩
    rw [HSY.out] at he
    subst he
    have HB1 : Hid (Below w.heap.size w ((w.alloc (.cells #[.int .i64 0, .string nm, .slice A ws.length cap, .int .i64 0, .string ⟨#[]⟩] 25)).drewN nq)) := below_drewN ((Below.refl _ _).alloc (Nat.le_refl _) _) nq
    have HK1 : Hid (Blk ((w.alloc (.cells #[.int .i64 0, .string nm, .slice A ws.length cap, .int .i64 0, .string ⟨#[]⟩] 25)).drewN nq) w.heap.size #[.int .i64 0, .string nm, .slice A ws.length cap, .int .i64 0, .string ⟨#[]⟩] 25) := (Blk.new _ _ _).drewN nq
    generalize (w.alloc (.cells #[.int .i64 0, .string nm, .slice A ws.length cap, .int .i64 0, .string ⟨#[]⟩] 25)).drewN nq = w1 at HB1 HK1 ⊢
    have b0 := HK1.out.cell 0 (v := .int .i64 0) rfl
    have b1 := HK1.out.cell 1 (v := .string nm) rfl
    have b2 := HK1.out.cell 2 (v := .slice A ws.length cap) rfl
    have b3 := HK1.out.cell 3 (v := .int .i64 0) rfl
    have b4 := HK1.out.cell 4 (v := .string ⟨#[]⟩) rfl
    have hj : Calls Tryz.prog 28 #[.int .i64 8, .slice A ws.length cap] w1 (JoinPost ws w1) := join3_any _ ws _ hl HWS.out (HW.out.below HB1.out)
    go_wp2_with (go_at_call 28; fail)
    refine hj.mono ?_
    rintro e w2 ⟨rfl, hb2⟩
    have HB2 : Hid (Below w.heap.size w w2) := HB1.out.trans (hb2.mono HB1.out.size)
    have HK2 : Hid (Blk w2 w.heap.size #[.int .i64 0, .string nm, .slice A ws.length cap, .int .i64 0, .string ⟨#[]⟩] 25) := HK1.out.below hb2 HK1.out.lt
    clear hb2 hj b0 b1 b2 b3 b4
    have b1 := HK2.out.cell 1 (v := .string nm) rfl
    go_wp2
    go_ret2
    exact printPost_ok HQ.out HB2.out
set_option maxHeartbeats 3200000 in
theorem rprint_group (nm : ByteArray) (ws : List Nat) (ct : Int) (tx : ByteArray) (v : Value) (w : World) (hw : WA w v ws) (hws : ∀ n ∈ ws, n < 2 ^ 64) (hl : ws.length ≤ 1048577) (hn : nm.size ≤ 1048576) (ht : tx.size ≤ 67108864) (he : EnvS w) :
    Calls Tryz.prog 11 #[.agg (callV ⟨1, nm, ws, ct, tx⟩ v)] w (PrintPost ⟨1, nm, ws, ct, tx⟩ w) := by
  have HW : Hid (WA w v ws) := hw
  have HE : Hid (EnvS w) := he
  have HWS : Hid (∀ n ∈ ws, n < 2 ^ 64) := hws
  obtain ⟨A, cap, rfl⟩ := hw.len
  clear hw hws he
  unfold callV
  dsimp only
  have HF : ∀ ct tx, printF ⟨1, nm, ws, ct, tx⟩ = if symOk nm = false ∨ spareF ⟨1, nm, ws, ct, tx⟩ = true ∨ ct < 0 ∨ 4294967295 < ct then (⟨#[]⟩, 250) else (wGroup ++ sp ++ nm ++ (sp ++ dgt ct.toNat), 0) := by
    intro ct tx
    unfold printF
    rw [if_neg (by simp)]
    simp
  cases hsym : symOk nm with
  | false =>
    have HSY : Hid (symOk nm = false) := hsym
    have HR : Hid (printF ⟨1, nm, ws, ct, tx⟩ = (⟨#[]⟩, 250)) := by unfold Hid; rw [HF, if_pos (.inl hsym)]
    clear hsym HF
    go_enter Tryz.func11, Tryz.ntmps11
    go_wp2_with (go_at_call 24; fail)
    refine (rsym_any nm _ hn).mono ?_
    rintro e w' ⟨he, nq, rfl⟩
    rw [HSY.out] at he
    subst he
    have HB1 : Hid (Below w.heap.size w ((w.alloc (.cells #[.int .i64 1, .string nm, .slice A ws.length cap, .int .i64 ct, .string tx] 25)).drewN nq)) := below_drewN ((Below.refl _ _).alloc (Nat.le_refl _) _) nq
    have HK1 : Hid (Blk ((w.alloc (.cells #[.int .i64 1, .string nm, .slice A ws.length cap, .int .i64 ct, .string tx] 25)).drewN nq) w.heap.size #[.int .i64 1, .string nm, .slice A ws.length cap, .int .i64 ct, .string tx] 25) := (Blk.new _ _ _).drewN nq
    generalize (w.alloc (.cells #[.int .i64 1, .string nm, .slice A ws.length cap, .int .i64 ct, .string tx] 25)).drewN nq = w1 at HB1 HK1 ⊢
    have b0 := HK1.out.cell 0 (v := .int .i64 1) rfl
    have b1 := HK1.out.cell 1 (v := .string nm) rfl
    have b2 := HK1.out.cell 2 (v := .slice A ws.length cap) rfl
    have b3 := HK1.out.cell 3 (v := .int .i64 ct) rfl
    have b4 := HK1.out.cell 4 (v := .string tx) rfl
    go_wp2
    go_ret2
    exact printPost_bad HR.out HB1.out
  | true =>
  have HSY : Hid (symOk nm = true) := hsym
  by_cases hw0 : ws = []
  rotate_left
  · have hp : 0 < ws.length := List.length_pos_iff.2 hw0
    have HR : Hid (printF ⟨1, nm, ws, ct, tx⟩ = (⟨#[]⟩, 250)) := by unfold Hid; rw [HF, if_pos (.inr (.inl (by unfold spareF; simp [hw0])))]

    clear HF hsym hw0
    go_enter Tryz.func11, Tryz.ntmps11
    go_wp2_with (go_at_call 24; fail)
    refine (rsym_any nm _ hn).mono ?_
    rintro e w' ⟨he, nq, rfl⟩
    rw [HSY.out] at he
    subst he
    have HB1 : Hid (Below w.heap.size w ((w.alloc (.cells #[.int .i64 1, .string nm, .slice A ws.length cap, .int .i64 ct, .string tx] 25)).drewN nq)) := below_drewN ((Below.refl _ _).alloc (Nat.le_refl _) _) nq
    have HK1 : Hid (Blk ((w.alloc (.cells #[.int .i64 1, .string nm, .slice A ws.length cap, .int .i64 ct, .string tx] 25)).drewN nq) w.heap.size #[.int .i64 1, .string nm, .slice A ws.length cap, .int .i64 ct, .string tx] 25) := (Blk.new _ _ _).drewN nq
    generalize (w.alloc (.cells #[.int .i64 1, .string nm, .slice A ws.length cap, .int .i64 ct, .string tx] 25)).drewN nq = w1 at HB1 HK1 ⊢
    have b0 := HK1.out.cell 0 (v := .int .i64 1) rfl
    have b1 := HK1.out.cell 1 (v := .string nm) rfl
    have b2 := HK1.out.cell 2 (v := .slice A ws.length cap) rfl
    have b3 := HK1.out.cell 3 (v := .int .i64 ct) rfl
    have b4 := HK1.out.cell 4 (v := .string tx) rfl
    go_wp2
    go_ret2
    exact printPost_bad HR.out HB1.out
  have e9 : decide (0 < ws.length) = false := by rw [hw0]; rfl
  have HW0 : Hid (ws = []) := hw0
  clear hw0
  by_cases hx : tx.size = 0
  rotate_left
  · have ie := isEmpty_false hx
    have HR : Hid (printF ⟨1, nm, ws, ct, tx⟩ = (⟨#[]⟩, 250)) := by unfold Hid; rw [HF, if_pos (.inr (.inl (by unfold spareF; simp [hx])))]

    clear HF hsym hx
    go_enter Tryz.func11, Tryz.ntmps11
    go_wp2_with (go_at_call 24; fail)
    refine (rsym_any nm _ hn).mono ?_
    rintro e w' ⟨he, nq, rfl⟩
    rw [HSY.out] at he
    subst he
    have HB1 : Hid (Below w.heap.size w ((w.alloc (.cells #[.int .i64 1, .string nm, .slice A ws.length cap, .int .i64 ct, .string tx] 25)).drewN nq)) := below_drewN ((Below.refl _ _).alloc (Nat.le_refl _) _) nq
    have HK1 : Hid (Blk ((w.alloc (.cells #[.int .i64 1, .string nm, .slice A ws.length cap, .int .i64 ct, .string tx] 25)).drewN nq) w.heap.size #[.int .i64 1, .string nm, .slice A ws.length cap, .int .i64 ct, .string tx] 25) := (Blk.new _ _ _).drewN nq
    generalize (w.alloc (.cells #[.int .i64 1, .string nm, .slice A ws.length cap, .int .i64 ct, .string tx] 25)).drewN nq = w1 at HB1 HK1 ⊢
    have b0 := HK1.out.cell 0 (v := .int .i64 1) rfl
    have b1 := HK1.out.cell 1 (v := .string nm) rfl
    have b2 := HK1.out.cell 2 (v := .slice A ws.length cap) rfl
    have b3 := HK1.out.cell 3 (v := .int .i64 ct) rfl
    have b4 := HK1.out.cell 4 (v := .string tx) rfl
    go_wp2
    go_ret2
    exact printPost_bad HR.out HB1.out
  obtain rfl := empty_of_size hx
  clear hx
  by_cases hc0 : ct < 0
  · have d0 : decide (ct < 0) = true := by simpa using hc0
    have HR : Hid (printF ⟨1, nm, ws, ct, ⟨#[]⟩⟩ = (⟨#[]⟩, 250)) := by unfold Hid; rw [HF, if_pos (.inr (.inr (.inl hc0)))]

    clear HF hsym hc0
    go_enter Tryz.func11, Tryz.ntmps11
    go_wp2_with (go_at_call 24; fail)
    refine (rsym_any nm _ hn).mono ?_
    rintro e w' ⟨he, nq, rfl⟩
    rw [HSY.out] at he
    subst he
    have HB1 : Hid (Below w.heap.size w ((w.alloc (.cells #[.int .i64 1, .string nm, .slice A ws.length cap, .int .i64 ct, .string ⟨#[]⟩] 25)).drewN nq)) := below_drewN ((Below.refl _ _).alloc (Nat.le_refl _) _) nq
    have HK1 : Hid (Blk ((w.alloc (.cells #[.int .i64 1, .string nm, .slice A ws.length cap, .int .i64 ct, .string ⟨#[]⟩] 25)).drewN nq) w.heap.size #[.int .i64 1, .string nm, .slice A ws.length cap, .int .i64 ct, .string ⟨#[]⟩] 25) := (Blk.new _ _ _).drewN nq
    generalize (w.alloc (.cells #[.int .i64 1, .string nm, .slice A ws.length cap, .int .i64 ct, .string ⟨#[]⟩] 25)).drewN nq = w1 at HB1 HK1 ⊢
    have b0 := HK1.out.cell 0 (v := .int .i64 1) rfl
    have b1 := HK1.out.cell 1 (v := .string nm) rfl
    have b2 := HK1.out.cell 2 (v := .slice A ws.length cap) rfl
    have b3 := HK1.out.cell 3 (v := .int .i64 ct) rfl
    have b4 := HK1.out.cell 4 (v := .string ⟨#[]⟩) rfl
    go_wp2
    go_ret2
    exact printPost_bad HR.out HB1.out
  have d0 : decide (ct < 0) = false := by simp; omega
  by_cases hc1 : 4294967295 < ct
  · have d1 : decide (4294967295 < ct) = true := by simpa using hc1
    have HR : Hid (printF ⟨1, nm, ws, ct, ⟨#[]⟩⟩ = (⟨#[]⟩, 250)) := by unfold Hid; rw [HF, if_pos (.inr (.inr (.inr hc1)))]

    clear HF hsym hc0 hc1
    go_enter Tryz.func11, Tryz.ntmps11
    go_wp2_with (go_at_call 24; fail)
    refine (rsym_any nm _ hn).mono ?_
    rintro e w' ⟨he, nq, rfl⟩
    rw [HSY.out] at he
    subst he
    have HB1 : Hid (Below w.heap.size w ((w.alloc (.cells #[.int .i64 1, .string nm, .slice A ws.length cap, .int .i64 ct, .string ⟨#[]⟩] 25)).drewN nq)) := below_drewN ((Below.refl _ _).alloc (Nat.le_refl _) _) nq
    have HK1 : Hid (Blk ((w.alloc (.cells #[.int .i64 1, .string nm, .slice A ws.length cap, .int .i64 ct, .string ⟨#[]⟩] 25)).drewN nq) w.heap.size #[.int .i64 1, .string nm, .slice A ws.length cap, .int .i64 ct, .string ⟨#[]⟩] 25) := (Blk.new _ _ _).drewN nq
    generalize (w.alloc (.cells #[.int .i64 1, .string nm, .slice A ws.length cap, .int .i64 ct, .string ⟨#[]⟩] 25)).drewN nq = w1 at HB1 HK1 ⊢
    have b0 := HK1.out.cell 0 (v := .int .i64 1) rfl
    have b1 := HK1.out.cell 1 (v := .string nm) rfl
    have b2 := HK1.out.cell 2 (v := .slice A ws.length cap) rfl
    have b3 := HK1.out.cell 3 (v := .int .i64 ct) rfl
    have b4 := HK1.out.cell 4 (v := .string ⟨#[]⟩) rfl
    go_wp2
    go_ret2
    exact printPost_bad HR.out HB1.out
  obtain ⟨cn, rfl⟩ : ∃ n : Nat, ct = (n : Int) := ⟨ct.toNat, by omega⟩
  have hct : cn ≤ 4294967295 := by omega
  clear d0 hc0 hc1
  have HG : Hid (printF ⟨1, nm, ws, (cn : Int), ⟨#[]⟩⟩ = (wGroup ++ sp ++ nm ++ (sp ++ dgt (cn : Int).toNat), 0)) := by
    unfold Hid
    rw [HF, if_neg]
    rintro (h | h | h | h)
    · rw [hsym] at h; cases h
    · revert h; unfold spareF; simp [HW0.out]; rfl
    · omega
    · omega
  clear HF hsym
  have HQ : Hid (printF ⟨1, nm, ws, (cn : Int), ⟨#[]⟩⟩ = (⟨#[103, 114, 111, 117, 112, 32]⟩ ++ nm ++ ⟨#[32]⟩ ++ dgt cn, 0)) := by unfold Hid; rw [HG.out, lit_group, lit3, Int.toNat_natCast]
  have hd := Nu.dgt_size cn (by omega)
  clear HG
  go_enter Tryz.func11, Tryz.ntmps11
  go_wp2_with (go_at_call 24; fail)
  refine (rsym_any nm _ hn).mono ?_
  rintro e w' ⟨he, nq, rfl⟩
  rw [HSY.out] at he
  subst he
  have HB1 : Hid (Below w.heap.size w ((w.alloc (.cells #[.int .i64 1, .string nm, .slice A ws.length cap, .int .i64 (cn : Int), .string ⟨#[]⟩] 25)).drewN nq)) := below_drewN ((Below.refl _ _).alloc (Nat.le_refl _) _) nq
  have HK1 : Hid (Blk ((w.alloc (.cells #[.int .i64 1, .string nm, .slice A ws.length cap, .int .i64 (cn : Int), .string ⟨#[]⟩] 25)).drewN nq) w.heap.size #[.int .i64 1, .string nm, .slice A ws.length cap, .int .i64 (cn : Int), .string ⟨#[]⟩] 25) := (Blk.new _ _ _).drewN nq
  generalize (w.alloc (.cells #[.int .i64 1, .string nm, .slice A ws.length cap, .int .i64 (cn : Int), .string ⟨#[]⟩] 25)).drewN nq = w1 at HB1 HK1 ⊢
  have b0 := HK1.out.cell 0 (v := .int .i64 1) rfl
  have b1 := HK1.out.cell 1 (v := .string nm) rfl
  have b2 := HK1.out.cell 2 (v := .slice A ws.length cap) rfl
  have b3 := HK1.out.cell 3 (v := .int .i64 (cn : Int)) rfl
  have b4 := HK1.out.cell 4 (v := .string ⟨#[]⟩) rfl
  have HS1 : Hid (Cells2 w.heap.size nm 3 (.int .i64 (cn : Int)) w1) := ⟨HK1.out.cell 1 rfl, HK1.out.cell 3 rfl⟩
  go_upto_region 14 with (fail)
  clear b0 b1 b2 b3 b4
  refine wp_region_planH (Cells2 w.heap.size nm 3 (.int .i64 (cn : Int))) [(some 97, 0), (some 98, 1), (some 99, 2), (some 100, 3), (some 101, 4), (some 102, 5), (none, 6), (some 104, 7), (none, 8), (none, 9)] (by kernel_rfl) (by kernel_rfl) (fun _ _ d _ _ h => by cases d <;> exact h) HS1.out ?_
  iterate 6 (refine planH_yes (v := ?_) (a' := ?_) rfl rfl (by rfl) ?_ ?_ ?_; rotate_left; (intro w' hS'; obtain ⟨c0, c1⟩ := hS'; go_simp; first | with_reducible rfl | (rw [if_neg (by omega)])); rotate_left; (simp only [Act.put, List.setIfInBounds_toArray, List.set_cons_zero, List.set_cons_succ]; rfl))
  refine planH_alone _ _ _ _ ?_
  simp only [picks, List.getElem?_cons_succ, List.getElem?_cons_zero]
  go_wp2_with (go_at_call 29; fail)
  refine (rdec cn (by omega) _).mono ?_
  rintro e w' ⟨rfl, nz, rfl⟩
  have HS2 : Hid (Cells2 w.heap.size nm 3 (.int .i64 (cn : Int)) (w1.drew.drewN nz)) := HS1.out
  have HB2 : Hid (Below w.heap.size w (w1.drew.drewN nz)) := below_drewN HB1.out.drew nz
  generalize w1.drew.drewN nz = w2 at HS2 HB2 ⊢

  go_wp2
  refine ⟨HS2.out, ?_⟩
  (refine planH_yes (v := ?_) (a' := ?_) rfl rfl (by rfl) ?_ ?_ ?_; rotate_left; (intro w' hS'; obtain ⟨c0, c1⟩ := hS'; go_simp; first | with_reducible rfl | (rw [if_neg (by omega)])); rotate_left; (simp only [Act.put, List.setIfInBounds_toArray, List.set_cons_zero, List.set_cons_succ]; rfl))
  iterate 2
    refine planH_alone _ _ _ _ ?_
    simp only [picks, List.getElem?_cons_succ, List.getElem?_cons_zero]
    go_wp2
    refine ⟨HS2.out, ?_⟩
  refine planH_done ?_
  go_wp2
  go_ret2
  exact printPost_ok HQ.out HB2.out
set_option maxHeartbeats 3200000 in
theorem rprint_data (nm : ByteArray) (ws : List Nat) (ct : Int) (tx : ByteArray) (v : Value) (w : World) (hw : WA w v ws) (hws : ∀ n ∈ ws, n < 2 ^ 64) (hl : ws.length ≤ 1048577) (hn : nm.size ≤ 1048576) (ht : tx.size ≤ 67108864) (he : EnvS w) :
    Calls Tryz.prog 11 #[.agg (callV ⟨3, nm, ws, ct, tx⟩ v)] w (PrintPost ⟨3, nm, ws, ct, tx⟩ w) := by
  have HW : Hid (WA w v ws) := hw
  have HE : Hid (EnvS w) := he
  have HWS : Hid (∀ n ∈ ws, n < 2 ^ 64) := hws
  obtain ⟨A, cap, rfl⟩ := hw.len
  clear hw hws he
  unfold callV
  dsimp only
  have HF : ∀ ct tx, printF ⟨3, nm, ws, ct, tx⟩ = if symOk nm = false ∨ spareF ⟨3, nm, ws, ct, tx⟩ = true ∨ ct < 0 ∨ 4294967295 < ct then (⟨#[]⟩, 250) else (wData ++ sp ++ nm ++ (sp ++ quoteF tx), 0) := by
    intro ct tx
    unfold printF
    rw [if_neg (by simp)]
    simp
  cases hsym : symOk nm with
  | false =>
    have HSY : Hid (symOk nm = false) := hsym
    have HR : Hid (printF ⟨3, nm, ws, ct, tx⟩ = (⟨#[]⟩, 250)) := by unfold Hid; rw [HF, if_pos (.inl hsym)]
    clear hsym HF
    go_enter Tryz.func11, Tryz.ntmps11
    go_wp2_with (go_at_call 24; fail)
    refine (rsym_any nm _ hn).mono ?_
    rintro e w' ⟨he, nq, rfl⟩
    rw [HSY.out] at he
    subst he
    have HB1 : Hid (Below w.heap.size w ((w.alloc (.cells #[.int .i64 3, .string nm, .slice A ws.length cap, .int .i64 ct, .string tx] 25)).drewN nq)) := below_drewN ((Below.refl _ _).alloc (Nat.le_refl _) _) nq
    have HK1 : Hid (Blk ((w.alloc (.cells #[.int .i64 3, .string nm, .slice A ws.length cap, .int .i64 ct, .string tx] 25)).drewN nq) w.heap.size #[.int .i64 3, .string nm, .slice A ws.length cap, .int .i64 ct, .string tx] 25) := (Blk.new _ _ _).drewN nq
    generalize (w.alloc (.cells #[.int .i64 3, .string nm, .slice A ws.length cap, .int .i64 ct, .string tx] 25)).drewN nq = w1 at HB1 HK1 ⊢
    have b0 := HK1.out.cell 0 (v := .int .i64 3) rfl
    have b1 := HK1.out.cell 1 (v := .string nm) rfl
    have b2 := HK1.out.cell 2 (v := .slice A ws.length cap) rfl
    have b3 := HK1.out.cell 3 (v := .int .i64 ct) rfl
    have b4 := HK1.out.cell 4 (v := .string tx) rfl
    go_wp2
    go_ret2
    exact printPost_bad HR.out HB1.out
  | true =>
  have HSY : Hid (symOk nm = true) := hsym
  by_cases hw0 : ws = []
  rotate_left
  · have hp : 0 < ws.length := List.length_pos_iff.2 hw0
    have HR : Hid (printF ⟨3, nm, ws, ct, tx⟩ = (⟨#[]⟩, 250)) := by unfold Hid; rw [HF, if_pos (.inr (.inl (by unfold spareF; simp [hw0])))]

    clear HF hsym hw0
    go_enter Tryz.func11, Tryz.ntmps11
    go_wp2_with (go_at_call 24; fail)
    refine (rsym_any nm _ hn).mono ?_
    rintro e w' ⟨he, nq, rfl⟩
    rw [HSY.out] at he
    subst he
    have HB1 : Hid (Below w.heap.size w ((w.alloc (.cells #[.int .i64 3, .string nm, .slice A ws.length cap, .int .i64 ct, .string tx] 25)).drewN nq)) := below_drewN ((Below.refl _ _).alloc (Nat.le_refl _) _) nq
    have HK1 : Hid (Blk ((w.alloc (.cells #[.int .i64 3, .string nm, .slice A ws.length cap, .int .i64 ct, .string tx] 25)).drewN nq) w.heap.size #[.int .i64 3, .string nm, .slice A ws.length cap, .int .i64 ct, .string tx] 25) := (Blk.new _ _ _).drewN nq
    generalize (w.alloc (.cells #[.int .i64 3, .string nm, .slice A ws.length cap, .int .i64 ct, .string tx] 25)).drewN nq = w1 at HB1 HK1 ⊢
    have b0 := HK1.out.cell 0 (v := .int .i64 3) rfl
    have b1 := HK1.out.cell 1 (v := .string nm) rfl
    have b2 := HK1.out.cell 2 (v := .slice A ws.length cap) rfl
    have b3 := HK1.out.cell 3 (v := .int .i64 ct) rfl
    have b4 := HK1.out.cell 4 (v := .string tx) rfl
    go_wp2
    go_ret2
    exact printPost_bad HR.out HB1.out
  have e9 : decide (0 < ws.length) = false := by rw [hw0]; rfl
  have HW0 : Hid (ws = []) := hw0
  clear hw0
  by_cases hc : ct = 0
  rotate_left
  · have e0 : (ct != 0) = true := by rw [bne_iff_ne]; exact hc
    have HR : Hid (printF ⟨3, nm, ws, ct, tx⟩ = (⟨#[]⟩, 250)) := by unfold Hid; rw [HF, if_pos (.inr (.inl (by unfold spareF; simp [hc])))]

    clear HF hsym hc
    go_enter Tryz.func11, Tryz.ntmps11
    go_wp2_with (go_at_call 24; fail)
    refine (rsym_any nm _ hn).mono ?_
    rintro e w' ⟨he, nq, rfl⟩
    rw [HSY.out] at he
    subst he
    have HB1 : Hid (Below w.heap.size w ((w.alloc (.cells #[.int .i64 3, .string nm, .slice A ws.length cap, .int .i64 ct, .string tx] 25)).drewN nq)) := below_drewN ((Below.refl _ _).alloc (Nat.le_refl _) _) nq
    have HK1 : Hid (Blk ((w.alloc (.cells #[.int .i64 3, .string nm, .slice A ws.length cap, .int .i64 ct, .string tx] 25)).drewN nq) w.heap.size #[.int .i64 3, .string nm, .slice A ws.length cap, .int .i64 ct, .string tx] 25) := (Blk.new _ _ _).drewN nq
    generalize (w.alloc (.cells #[.int .i64 3, .string nm, .slice A ws.length cap, .int .i64 ct, .string tx] 25)).drewN nq = w1 at HB1 HK1 ⊢
    have b0 := HK1.out.cell 0 (v := .int .i64 3) rfl
    have b1 := HK1.out.cell 1 (v := .string nm) rfl
    have b2 := HK1.out.cell 2 (v := .slice A ws.length cap) rfl
    have b3 := HK1.out.cell 3 (v := .int .i64 ct) rfl
    have b4 := HK1.out.cell 4 (v := .string tx) rfl
    go_wp2
    go_ret2
    exact printPost_bad HR.out HB1.out
  subst hc
  have HG : Hid (printF ⟨3, nm, ws, 0, tx⟩ = (wData ++ sp ++ nm ++ (sp ++ quoteF tx), 0)) := by
    unfold Hid
    rw [HF, if_neg]
    rintro (h | h | h | h)
    · rw [hsym] at h; cases h
    · revert h; unfold spareF; simp [HW0.out]
    · omega
    · omega
  clear HF hsym
  have HQ : Hid (printF ⟨3, nm, ws, 0, tx⟩ = (⟨#[100, 97, 116, 97, 32]⟩ ++ nm ++ ⟨#[32]⟩ ++ quoteF tx, 0)) := by unfold Hid; rw [HG.out, lit_data, lit3]
  have hd := quote_le tx
  clear HG
  go_enter Tryz.func11, Tryz.ntmps11
  go_wp2_with (go_at_call 24; fail)
  refine (rsym_any nm _ hn).mono ?_
  rintro e w' ⟨he, nq, rfl⟩
  rw [HSY.out] at he
  subst he
  have HB1 : Hid (Below w.heap.size w ((w.alloc (.cells #[.int .i64 3, .string nm, .slice A ws.length cap, .int .i64 0, .string tx] 25)).drewN nq)) := below_drewN ((Below.refl _ _).alloc (Nat.le_refl _) _) nq
  have HK1 : Hid (Blk ((w.alloc (.cells #[.int .i64 3, .string nm, .slice A ws.length cap, .int .i64 0, .string tx] 25)).drewN nq) w.heap.size #[.int .i64 3, .string nm, .slice A ws.length cap, .int .i64 0, .string tx] 25) := (Blk.new _ _ _).drewN nq
  generalize (w.alloc (.cells #[.int .i64 3, .string nm, .slice A ws.length cap, .int .i64 0, .string tx] 25)).drewN nq = w1 at HB1 HK1 ⊢
  have b0 := HK1.out.cell 0 (v := .int .i64 3) rfl
  have b1 := HK1.out.cell 1 (v := .string nm) rfl
  have b2 := HK1.out.cell 2 (v := .slice A ws.length cap) rfl
  have b3 := HK1.out.cell 3 (v := .int .i64 0) rfl
  have b4 := HK1.out.cell 4 (v := .string tx) rfl
  have HS1 : Hid (Cells2 w.heap.size nm 4 (.string tx) w1) := ⟨HK1.out.cell 1 rfl, HK1.out.cell 4 rfl⟩
  go_upto_region 17 with (fail)
  clear b0 b1 b2 b3 b4
  refine wp_region_planH (Cells2 w.heap.size nm 4 (.string tx)) [(some 107, 0), (some 108, 1), (some 109, 2), (some 110, 3), (some 111, 4), (some 112, 5), (none, 6), (some 114, 7), (none, 8), (none, 9)] (by kernel_rfl) (by kernel_rfl) (fun _ _ d _ _ h => by cases d <;> exact h) HS1.out ?_
  iterate 6 (refine planH_yes (v := ?_) (a' := ?_) rfl rfl (by rfl) ?_ ?_ ?_; rotate_left; (intro w' hS'; obtain ⟨c0, c1⟩ := hS'; go_simp; first | with_reducible rfl | (rw [if_neg (by omega)])); rotate_left; (simp only [Act.put, List.setIfInBounds_toArray, List.set_cons_zero, List.set_cons_succ]; rfl))
  refine planH_alone _ _ _ _ ?_
  simp only [picks, List.getElem?_cons_succ, List.getElem?_cons_zero]
  go_wp2_with (go_at_call 30; fail)
  refine (rquote_any tx _ ht).mono ?_
  rintro e w2 ⟨rfl, hb2⟩
  have HB2 : Hid (Below w.heap.size w w2) := HB1.out.drew.trans (hb2.mono (by show w.heap.size ≤ w1.heap.size; exact HB1.out.size))
  have HK2 : Hid (Blk w2 w.heap.size #[.int .i64 3, .string nm, .slice A ws.length cap, .int .i64 0, .string tx] 25) := HK1.out.drew.below hb2 HK1.out.lt
  have HS2 : Hid (Cells2 w.heap.size nm 4 (.string tx) w2) := ⟨HK2.out.cell 1 rfl, HK2.out.cell 4 rfl⟩
  clear hb2

  go_wp2
  refine ⟨HS2.out, ?_⟩
  (refine planH_yes (v := ?_) (a' := ?_) rfl rfl (by rfl) ?_ ?_ ?_; rotate_left; (intro w' hS'; obtain ⟨c0, c1⟩ := hS'; go_simp; first | with_reducible rfl | (rw [if_neg (by omega)])); rotate_left; (simp only [Act.put, List.setIfInBounds_toArray, List.set_cons_zero, List.set_cons_succ]; rfl))
  iterate 2
    refine planH_alone _ _ _ _ ?_
    simp only [picks, List.getElem?_cons_succ, List.getElem?_cons_zero]
    go_wp2
    refine ⟨HS2.out, ?_⟩
  refine planH_done ?_
  go_wp2
  go_ret2
  exact printPost_ok HQ.out HB2.out
theorem rprint_any (c : CallP) (v : Value) (w : World) (hw : WA w v c.words) (hws : ∀ n ∈ c.words, n < 2 ^ 64) (hl : c.words.length ≤ 1048577) (hn : c.name.size ≤ 1048576) (ht : c.text.size ≤ 67108864) (he : EnvS w) :
    Calls Tryz.prog 11 #[.agg (callV c v)] w (PrintPost c w) := by
  obtain ⟨kd, nm, ws, ct, tx⟩ := c
  dsimp only at hw hws hl hn ht
  by_cases h2 : kd = 2
  · subst h2
    obtain ⟨A, cap, rfl⟩ := hw.len
    exact rprint_next nm ws ct tx A cap w hl
  · by_cases hr : kd < 0 ∨ 3 < kd
    · obtain ⟨A, cap, rfl⟩ := hw.len
      exact rprint_kind kd hr nm ws ct tx A cap w
    · have hk : kd = 0 ∨ kd = 1 ∨ kd = 3 := by omega
      rcases hk with rfl | rfl | rfl
      · exact rprint_field nm ws ct tx v w hw hws hl hn ht he
      · exact rprint_group nm ws ct tx v w hw hws hl hn ht he
      · exact rprint_data nm ws ct tx v w hw hws hl hn ht he
end Go.Proofs.YtijnbohjcmcfjaaGreatDoor.Sc
