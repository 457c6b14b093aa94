/-
  Walks: package script's reader of a line: spaces and fields.
-/
import Derived.Test.YtijnbohjcmcfjaaGreatDoorLNumJ
import Derived.Test.YtijnbohjcmcfjaaGreatDoorLNumP
import Derived.Test.YtijnbohjcmcfjaaGreatDoorLUnq3
import Derived.Test.YtijnbohjcmcfjaaGreatDoorLTextSym
namespace Go.Proofs.YtijnbohjcmcfjaaGreatDoor.Sc
open Go.RowKit Go.Proofs.YtijnbohjcmcfjaaGreatDoor.Kt Go.Proofs.YtijnbohjcmcfjaaGreatDoor.Lk Go.Proofs.YtijnbohjcmcfjaaGreatDoor.Sp Go.Proofs.YtijnbohjcmcfjaaGreatDoor.Rw
open Go.Proofs.YtijnbohjcmcfjaaGreatDoor.Nu (dgt Sizes isInt pwOf)
set_option linter.unusedSimpArgs false
set_option linter.unusedVariables false
set_option maxRecDepth 100000

/-- the reader in block g: the line, the place, the call so far; its words in a row of one's own -/
structure RV (base g : Nat) (s : ByteArray) (k : Nat) (c : CallP) (v : Value) (w : World) : Prop where
  ge : base ≤ g
  blk : Blk w g #[.string s, .int .i64 (k : Int), .int .i64 c.kind, .string c.name, v, .int .i64 c.count, .string c.text] 43
  own : w.ownsRow base 30 1 v c.words.length (wordsV c.words)
  ne : v.ownBlock ≠ some g
variable {base g k : Nat} {s : ByteArray} {c : CallP} {v : Value} {w : World}
theorem own_set {n : Nat} {xs : List Value} {te i : Nat} {u : Value} (h : w.ownsRow base te 1 v n xs) (hne : v.ownBlock ≠ some g) : (w.setCell ⟨g, i, none⟩ u).ownsRow base te 1 v n xs :=
  h.kept (row := some g) ⟨rfl, rfl, rfl, by simp [World.setCell], fun j _ hj => Below.heap_setCell _ _ _ _ (fun e => hj (by simp [e]))⟩ (Or.inr hne)
theorem RV.at' (h : RV base g s k c v w) (k' : Nat) : RV base g s k' c v (w.setCell ⟨g, 1, none⟩ (.int .i64 (k' : Int))) := ⟨h.ge, h.blk.set 1 _, own_set h.own h.ne, h.ne⟩
theorem RV.kind' (h : RV base g s k c v w) (x : Int) : RV base g s k { c with kind := x } v (w.setCell ⟨g, 2, none⟩ (.int .i64 x)) := ⟨h.ge, h.blk.set 2 _, own_set h.own h.ne, h.ne⟩
theorem RV.name' (h : RV base g s k c v w) (x : ByteArray) : RV base g s k { c with name := x } v (w.setCell ⟨g, 3, none⟩ (.string x)) := ⟨h.ge, h.blk.set 3 _, own_set h.own h.ne, h.ne⟩
theorem RV.words' (h : RV base g s k c v w) (v' : Value) (l : List Nat) (ho : w.ownsRow base 30 1 v' l.length (wordsV l)) (hne : v'.ownBlock ≠ some g) : RV base g s k { c with words := l } v' (w.setCell ⟨g, 4, none⟩ v') := ⟨h.ge, h.blk.set 4 _, own_set ho hne, hne⟩
theorem RV.count' (h : RV base g s k c v w) (x : Int) : RV base g s k { c with count := x } v (w.setCell ⟨g, 5, none⟩ (.int .i64 x)) := ⟨h.ge, h.blk.set 5 _, own_set h.own h.ne, h.ne⟩
theorem RV.text' (h : RV base g s k c v w) (x : ByteArray) : RV base g s k { c with text := x } v (w.setCell ⟨g, 6, none⟩ (.string x)) := ⟨h.ge, h.blk.set 6 _, own_set h.own h.ne, h.ne⟩
theorem RV.lt (h : RV base g s k c v w) : base ≤ w.heap.size := Nat.le_of_lt (Nat.lt_of_le_of_lt h.ge h.blk.lt)
theorem RV.drewN (h : RV base g s k c v w) (n : Nat) : RV base g s k c v (w.drewN n) := ⟨h.ge, h.blk, h.own, h.ne⟩
theorem RV.below {w' : World} (h : RV base g s k c v w) (hb : Below w.heap.size w w') : RV base g s k c v w' := ⟨h.ge, h.blk.below hb h.blk.lt, row_kept h.own hb, h.ne⟩
theorem RV.alloc (h : RV base g s k c v w) (o : Obj) : RV base g s k c v (w.alloc o) := h.below ((Below.refl _ _).alloc (Nat.le_refl _) _)

/-- what grows in the reader's block alone stays below its base as it was -/
theorem below_gr {w0 w' : World} (hb : Below base w0 w) (hg : w.grownBy w' (some g)) (hge : base ≤ g) (hl : base ≤ w.heap.size) : Below base w0 w' :=
  hb.grown hg hl (fun j hj => by injection hj with hj; omega)
theorem blk_kept {w' : World} {f : Nat} {cs : Array Value} {t : TypeId} (h : Blk w f cs t) (hg : w.grownBy w' (some g)) (hne : f ≠ g) : Blk w' f cs t := h.grown hg (by intro e; injection e with e; exact hne e)
theorem skipE_skip (s : ByteArray) (k : Nat) : skipE s (skipE s k) = skipE s k := by
  induction hm : s.size - k using Nat.strongRecOn generalizing k with
  | _ m ih =>
    by_cases h : k < s.size ∧ gb s k = 32
    · have := ih (s.size - (k + 1)) (by omega) (k + 1) rfl
      rwa [skipE_go h.1 h.2] at this
    · rw [skipE_stop h, skipE_stop h]
set_option maxHeartbeats 1600000 in
theorem skip_any (hv : RV base g s k c v w) (hk : k ≤ s.size) (hm : s.size ≤ 268435456) :
    Calls Tryz.prog 37 #[.pointer (some ⟨g, 0, none⟩)] w fun e w' => e = .returned (.tuple #[]) ∧ RV base g s (skipE s k) c v w' ∧ w.grownBy w' (some g) := by
  have HV : Hid (RV base g s k c v w) := hv
  clear hv
  go_enter Tryz.func37, Tryz.ntmps37
  go_wp2
  go_loopg [2] (s.size - k) (fun mm u wr => ∃ q : Nat, mm = s.size - q ∧ q ≤ s.size ∧ skipE s q = skipE s k ∧ RV base g s q c v wr ∧ w.grownBy wr (some g))
  case atStart => exact ⟨k, rfl, hk, rfl, HV.out, World.grownBy.refl _ _⟩
  case round =>
    obtain ⟨q, hmm, hq, hsk, hv, hg⟩ := hrel
    have HM : Hid (gk = s.size - q) := hmm
    have HS : Hid (skipE s q = skipE s k) := hsk
    have HV1 : Hid (RV base g s q c v wr) := hv
    have HG : Hid (wr = wr ∧ w.grownBy wr (some g)) := ⟨rfl, hg⟩
    have c0 := hv.blk.cell 0 (v := .string s) rfl
    have c1 := hv.blk.cell 1 (v := .int .i64 (q : Int)) rfl
    have f1 := hv.blk.free 1
    clear hmm hsk hv hg
    by_cases hlt : q < s.size
    · have hb := (gb_lt hlt).symm
      by_cases h32 : gb s q = 32
      · have HN : Hid (skipE s (q + 1) = skipE s k) := by unfold Hid; rw [skipE_go hlt h32]; exact HS.out
        rw [h32] at hb
        clear h32
        go_wp2
        go_big_quiet (fail)
        go_wp2
        go_roundg (s.size - (q + 1))
        case measure => rw [HM.out]; omega
        case rel => exact ⟨q + 1, rfl, by omega, HN.out, (HV1.out.drewN _).at' (q + 1), grown_set (grown_drewN HG.out.2 _) _ _⟩
      · have HN : Hid (skipE s k = q) := by unfold Hid; rw [← HS.out]; exact skipE_stop (fun h => h32 h.2)
        have e32 : (((gb s q : Nat) : Int) == 32) = false := by rw [beq_eq_false_iff_ne]; omega
        clear h32
        go_wp2
        go_big_quiet (fail)
        go_wp2
        go_end0
        exact ⟨rfl, by rw [HN.out]; exact HV1.out.drewN _, grown_drewN HG.out.2 _⟩
    · have HN : Hid (skipE s k = q) := by unfold Hid; rw [← HS.out]; exact skipE_stop (fun h => hlt h.1)
      obtain rfl : q = s.size := by omega
      go_wp2
      go_big_quiet (fail)
      go_wp2
      go_end0
      exact ⟨rfl, by rw [HN.out]; exact HV1.out.drewN _, grown_drewN HG.out.2 _⟩

set_option maxHeartbeats 1600000 in
theorem field_any (hv : RV base g s k c v w) (hk : k ≤ s.size) (hm : s.size ≤ 268435456) :
    Calls Tryz.prog 35 #[.pointer (some ⟨g, 0, none⟩)] w fun e w' => e = .returned (.tuple #[.string (sub s (skipE s k) (fieldE s (skipE s k))), .int .i64 (skipE s k : Int)]) ∧ RV base g s (fieldE s (skipE s k)) c v w' ∧ w.grownBy w' (some g) := by
  have hk1 := skipE_le s k hk
  go_enter Tryz.func35, Tryz.ntmps35
  go_wp2_with (go_at_call 37; fail)
  refine (skip_any hv hk hm).mono ?_
  clear hv
  generalize ha : skipE s k = a at hk1
  rintro e w1 ⟨rfl, hv, hg⟩
  have HA : Hid (skipE s k = a) := ha
  clear ha
  have c1 := hv.blk.cell 1 (v := .int .i64 (a : Int)) rfl
  have HV : Hid (RV base g s a c v w1) := hv
  have HG1 : Hid (w1 = w1 ∧ w.grownBy w1 (some g)) := ⟨rfl, hg⟩
  clear hv hg
  go_wp2
  go_loopg [11] (s.size - a) (fun mm u wr => ∃ q : Nat, mm = s.size - q ∧ a ≤ q ∧ q ≤ s.size ∧ fieldE s q = fieldE s a ∧ RV base g s q c v wr ∧ w.grownBy wr (some g))
  case atStart => exact ⟨a, rfl, Nat.le_refl _, hk1, rfl, HV.out, HG1.out.2⟩
  case round =>
    obtain ⟨q, hmm, haq, hq, hsk, hv, hg⟩ := hrel
    have HM : Hid (gk = s.size - q) := hmm
    have HS : Hid (fieldE s q = fieldE s a) := hsk
    have HV1 : Hid (RV base g s q c v wr) := hv
    have HG : Hid (wr = wr ∧ w.grownBy wr (some g)) := ⟨rfl, hg⟩
    have c0 := hv.blk.cell 0 (v := .string s) rfl
    have c1 := hv.blk.cell 1 (v := .int .i64 (q : Int)) rfl
    have f1 := hv.blk.free 1
    clear hmm hsk hv hg HV HG1
    by_cases hlt : q < s.size
    · have hb := (gb_lt hlt).symm
      by_cases h32 : gb s q = 32
      · have HN : Hid (fieldE s a = q) := by unfold Hid; rw [← HS.out]; exact fieldE_stop (fun h => h.2 h32)
        rw [h32] at hb
        clear h32
        go_wp2
        go_big_quiet (fail)
        go_wp2
        go_big_quiet (fail)
        go_wp2
        go_ret2
        exact ⟨by rw [HA.out, HN.out]; rfl, by rw [HA.out, HN.out]; exact (HV1.out.drewN _).drewN _, grown_drewN (grown_drewN HG.out.2 _) _⟩
      · have HN : Hid (fieldE s (q + 1) = fieldE s a) := by unfold Hid; rw [fieldE_go hlt h32]; exact HS.out
        have e32 : (((gb s q : Nat) : Int) != 32) = true := by rw [bne_iff_ne]; omega
        clear h32
        go_wp2
        go_big_quiet (fail)
        go_wp2
        go_roundg (s.size - (q + 1))
        case measure => rw [HM.out]; omega
        case rel => exact ⟨q + 1, rfl, by omega, by omega, HN.out, (HV1.out.drewN _).at' (q + 1), grown_set (grown_drewN HG.out.2 _) _ _⟩
    · have HN : Hid (fieldE s a = q) := by unfold Hid; rw [← HS.out]; exact fieldE_stop (fun h => hlt h.1)
      obtain rfl : q = s.size := by omega
      go_wp2
      go_big_quiet (fail)
      go_wp2
      go_big_quiet (fail)
      go_wp2
      go_ret2
      exact ⟨by rw [HA.out, HN.out]; rfl, by rw [HA.out, HN.out]; exact (HV1.out.drewN _).drewN _, grown_drewN (grown_drewN HG.out.2 _) _⟩
end Go.Proofs.YtijnbohjcmcfjaaGreatDoor.Sc
