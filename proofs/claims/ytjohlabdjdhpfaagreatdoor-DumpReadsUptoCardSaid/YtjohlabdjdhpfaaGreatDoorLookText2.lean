/-
  Walks: package look's Text.
-/
import Derived.Test.YtjohlabdjdhpfaaGreatDoorLookText
import Derived.Test.YtjohlabdjdhpfaaGreatDoorTextSym
import Derived.Test.YtjohlabdjdhpfaaGreatDoorShelf
import Derived.WalkSmall
namespace Go.Proofs.YtjohlabdjdhpfaaGreatDoor.Lk
open Go.RowKit Go.Proofs.YtjohlabdjdhpfaaGreatDoor.Kt
set_option linter.unusedSimpArgs false
set_option linter.unusedVariables false

/-- the library's table of the powers of ten -/
def Tab (w : World) : Prop := Lib.TabIs Tryz.prog w "internal/strconv.uint64pow10" .u64 Lib.pow10Tab
theorem gTab : Tryz.prog.globalNamed "internal/strconv.uint64pow10" = some 6 := by kernel_rfl
theorem Tab.lt {w : World} (h : Tab w) : 6 < w.heap.size := World.block_lt_of_cell? w _ (Lib.TabIs.cell h gTab 0 (by decide))
theorem Tab.below {w w' : World} (h : Tab w) (hb : Below w.heap.size w w') : Tab w' := var?_below hb gTab h.lt h
theorem below_grow (w : World) (k : Nat) (os : Array Obj) : Below w.heap.size w (Sort.grow (w.drewN k) os) :=
  ⟨rfl, rfl, rfl, by simp [Sort.grow], fun i hi => by show (w.heap ++ os)[i]? = _; rw [Array.getElem?_append_left hi]⟩
theorem itoa_any (n : Nat) (hn : n ≤ 65535) (w : World) (ht : Tab w) :
    Calls Tryz.prog 29 #[.int .i64 n] w fun e w' => e = .returned (.string (dgt n)) ∧ Below w.heap.size w w' :=
  (Tryz.strconv_Itoa n (by omega) (by omega) w ht).mono fun e w' ⟨he, k, os, hw⟩ => by
    subst hw
    refine ⟨?_, below_grow w k os⟩
    rw [he]; unfold Lib.itoa dgt
    rw [if_neg (by omega), Int.toNat_natCast]

theorem text_none (A : Option Addr) (cap : Nat) (w : World) : Calls Tryz.prog 15 #[.slice A 0 cap] w (TextPost [] w) := by
  go_enter Tryz.func15, Tryz.ntmps15
  go_wp2
  refine wp_loop_rounds 1 ?_
  rw [rounds_succ]
  go_wp2
  go_ret2
  exact ⟨rfl, Below.refl _ _⟩

set_option maxHeartbeats 1600000 in
theorem text_some (b off cap : Nat) (l : List Step) (w : World) (hl : l.length ≤ 1048576) (hns : ∀ x ∈ l, x.1.size ≤ 1048576) (hr : ReadsAt w b off l) (ht : Tab w) :
    Calls Tryz.prog 15 #[.slice (some ⟨b, off, none⟩) l.length cap] w (TextPost l w) := by
  go_enter Tryz.func15, Tryz.ntmps15
  go_wp2
  go_loopg [4, 9] l.length (fun m t i wr => ∃ (k : Nat) (acc : ByteArray), m = l.length - k ∧ k ≤ l.length ∧ i = .int .i64 k ∧ t = .string acc ∧ acc.size ≤ 72 * k ∧ textGo (l.drop k) k acc = textR l ∧ Below w.heap.size w wr)
  case atStart => exact ⟨0, ⟨#[]⟩, rfl, Nat.zero_le _, rfl, rfl, Nat.le_refl _, rfl, Below.refl _ _⟩
  case round =>
    obtain ⟨k, acc, hmm, hk, rfl, rfl, hsz, hgo, hbel⟩ := hrel
    have HM : Hid (gk = l.length - k) := hmm
    have HGO : Hid (textGo (l.drop k) k acc = textR l) := hgo
    clear hmm hgo
    by_cases hlt : k < l.length
    · obtain ⟨c0, c1⟩ := (hr.below hbel) k hlt
      have hat := textGo_at hlt acc
      have hnm := hns l[k] (List.getElem_mem hlt)
      generalize l[k] = x at c0 c1 hat hnm
      obtain ⟨nm, en⟩ := x
      dsimp only at c0 c1 hnm
      cases hS : symOk nm with
      | false =>
        have HS : Hid (symOk nm = false) := hS
        have HR : Hid (textR l = (⟨#[]⟩, 210)) := by unfold Hid; rw [← HGO.out, hat, if_neg (by unfold goodStep; simp [hS])]
        clear hat
        go_wp2_with (first
                    | (go_at_call 33; refine (tsymbol_any _ _ hnm).mono ?_; rintro e w' ⟨he, rfl⟩; rw [HS.out] at he; subst he)
                    | (go_at_call 29; refine (hdec _ (by exact (ht.below hbel).below ((Below.refl _ _).alloc (Nat.le_refl _) _))).mono ?_; rintro e w' ⟨rfl, hbl⟩))
        go_ret2
        exact ⟨by rw [HR.out]; rfl, hbel.alloc hbel.size _⟩
      | true =>
        have HS : Hid (symOk nm = true) := hS
        have hn64 := symOk_size hS
        by_cases h1 : en < -1
        · skip
          have HR : Hid (textR l = (⟨#[]⟩, 210)) := by unfold Hid; rw [← HGO.out, hat, if_neg (by unfold goodStep; simp; intros; omega)]
          clear hat
          go_wp2_with (first
                      | (go_at_call 33; refine (tsymbol_any _ _ hnm).mono ?_; rintro e w' ⟨he, rfl⟩; rw [HS.out] at he; subst he)
                      | (go_at_call 29; refine (hdec _ (by exact (ht.below hbel).below ((Below.refl _ _).alloc (Nat.le_refl _) _))).mono ?_; rintro e w' ⟨rfl, hbl⟩))
          go_ret2
          exact ⟨by rw [HR.out]; rfl, hbel.alloc hbel.size _⟩
        · by_cases h2 : 65535 < en
          · skip
            have HR : Hid (textR l = (⟨#[]⟩, 210)) := by unfold Hid; rw [← HGO.out, hat, if_neg (by unfold goodStep; simp; intros; omega)]
            clear hat
            go_wp2_with (first
                        | (go_at_call 33; refine (tsymbol_any _ _ hnm).mono ?_; rintro e w' ⟨he, rfl⟩; rw [HS.out] at he; subst he)
                        | (go_at_call 29; refine (hdec _ (by exact (ht.below hbel).below ((Below.refl _ _).alloc (Nat.le_refl _) _))).mono ?_; rintro e w' ⟨rfl, hbl⟩))
            go_ret2
            exact ⟨by rw [HR.out]; rfl, hbel.alloc hbel.size _⟩
          · have hgd : goodStep (nm, en) = true := by unfold goodStep; simp [hS]; omega
            have HG : Hid (goodStep (nm, en) = true) := hgd
            have HN : Hid (textGo (l.drop (k + 1)) (k + 1) (textAdd k acc (nm, en)) = textR l) := by unfold Hid; rw [← HGO.out, hat, if_pos hgd]
            have hdec : ∀ w : World, Tab w → 0 ≤ en → Calls Tryz.prog 29 #[.int .i64 en] w fun e w' => e = .returned (.string (dgt en.toNat)) ∧ Below w.heap.size w w' := fun w h0 h => by
              have := itoa_any en.toNat (by omega) w h0
              rwa [show ((en.toNat : Nat) : Int) = en by omega] at this
            clear hat hS hgd
            by_cases he0 : 0 ≤ en
            · have hdec := fun w h => hdec w h he0
              have hd5 : (dgt en.toNat).size ≤ 5 := dgt_size (by omega)
              by_cases hk0 : 0 < k
              · skip
                have HA : Hid (textAdd k acc (nm, en) = (acc ++ ⟨#[46]⟩ ++ nm) ++ (⟨#[91]⟩ ++ dgt en.toNat ++ ⟨#[93]⟩)) := by unfold Hid textAdd; simp [hk0, he0, ByteArray.append_assoc]
                have hs2 : (textAdd k acc (nm, en)).size ≤ 72 * (k + 1) := by have := textAdd_size (i := k) (acc := acc) (x := (nm, en)) HG.out; omega
                go_wp2_with (first
                            | (go_at_call 33; refine (tsymbol_any _ _ hnm).mono ?_; rintro e w' ⟨he, rfl⟩; rw [HS.out] at he; subst he)
                            | (go_at_call 29; refine (hdec _ (by exact (ht.below hbel).below ((Below.refl _ _).alloc (Nat.le_refl _) _))).mono ?_; rintro e w' ⟨rfl, hbl⟩))
                go_roundg (l.length - (k + 1))
                case measure => rw [HM.out]; omega
                case rel => exact ⟨k + 1, _, rfl, by omega, by go_num, rfl, by rw [← HA.out]; exact hs2, by rw [← HA.out]; exact HN.out, (hbel.alloc hbel.size _).trans (hbl.mono (by have := hbel.size; simp; omega))⟩
              · skip
                have HA : Hid (textAdd k acc (nm, en) = (acc ++ nm) ++ (⟨#[91]⟩ ++ dgt en.toNat ++ ⟨#[93]⟩)) := by unfold Hid textAdd; simp [hk0, he0, ByteArray.append_assoc]
                have hs2 : (textAdd k acc (nm, en)).size ≤ 72 * (k + 1) := by have := textAdd_size (i := k) (acc := acc) (x := (nm, en)) HG.out; omega
                go_wp2_with (first
                            | (go_at_call 33; refine (tsymbol_any _ _ hnm).mono ?_; rintro e w' ⟨he, rfl⟩; rw [HS.out] at he; subst he)
                            | (go_at_call 29; refine (hdec _ (by exact (ht.below hbel).below ((Below.refl _ _).alloc (Nat.le_refl _) _))).mono ?_; rintro e w' ⟨rfl, hbl⟩))
                go_roundg (l.length - (k + 1))
                case measure => rw [HM.out]; omega
                case rel => exact ⟨k + 1, _, rfl, by omega, by go_num, rfl, by rw [← HA.out]; exact hs2, by rw [← HA.out]; exact HN.out, (hbel.alloc hbel.size _).trans (hbl.mono (by have := hbel.size; simp; omega))⟩
            · by_cases hk0 : 0 < k
              · skip
                have HA : Hid (textAdd k acc (nm, en) = acc ++ ⟨#[46]⟩ ++ nm) := by unfold Hid textAdd; simp [hk0, he0, ByteArray.append_assoc]
                have hs2 : (textAdd k acc (nm, en)).size ≤ 72 * (k + 1) := by have := textAdd_size (i := k) (acc := acc) (x := (nm, en)) HG.out; omega
                go_wp2_with (first
                            | (go_at_call 33; refine (tsymbol_any _ _ hnm).mono ?_; rintro e w' ⟨he, rfl⟩; rw [HS.out] at he; subst he)
                            | (go_at_call 29; refine (hdec _ (by exact (ht.below hbel).below ((Below.refl _ _).alloc (Nat.le_refl _) _))).mono ?_; rintro e w' ⟨rfl, hbl⟩))
                go_roundg (l.length - (k + 1))
                case measure => rw [HM.out]; omega
                case rel => exact ⟨k + 1, _, rfl, by omega, by go_num, rfl, by rw [← HA.out]; exact hs2, by rw [← HA.out]; exact HN.out, hbel.alloc hbel.size _⟩
              · skip
                have HA : Hid (textAdd k acc (nm, en) = acc ++ nm) := by unfold Hid textAdd; simp [hk0, he0, ByteArray.append_assoc]
                have hs2 : (textAdd k acc (nm, en)).size ≤ 72 * (k + 1) := by have := textAdd_size (i := k) (acc := acc) (x := (nm, en)) HG.out; omega
                go_wp2_with (first
                            | (go_at_call 33; refine (tsymbol_any _ _ hnm).mono ?_; rintro e w' ⟨he, rfl⟩; rw [HS.out] at he; subst he)
                            | (go_at_call 29; refine (hdec _ (by exact (ht.below hbel).below ((Below.refl _ _).alloc (Nat.le_refl _) _))).mono ?_; rintro e w' ⟨rfl, hbl⟩))
                go_roundg (l.length - (k + 1))
                case measure => rw [HM.out]; omega
                case rel => exact ⟨k + 1, _, rfl, by omega, by go_num, rfl, by rw [← HA.out]; exact hs2, by rw [← HA.out]; exact HN.out, hbel.alloc hbel.size _⟩
    · have HR : Hid (textR l = (acc, 0)) := by unfold Hid; rw [← HGO.out]; exact textGo_end (by omega) acc
      obtain rfl : k = l.length := by omega
      clear hr
      go_wp2
      go_ret2
      exact ⟨by rw [HR.out]; rfl, hbel⟩
theorem text_any (v : Value) (l : List Step) (w : World) (hl : l.length ≤ 1048576) (hns : ∀ x ∈ l, x.1.size ≤ 1048576) (hr : Reads w v l) (ht : Tab w) :
    Calls Tryz.prog 15 #[v] w (TextPost l w) := by
  rcases hr with ⟨rfl, rfl | ⟨a, cap, rfl⟩⟩ | ⟨b, off, cap, rfl, h⟩
  · exact text_none none 0 w
  · exact text_none (some a) cap w
  · exact text_some b off cap l w hl hns h ht
theorem rtext_any (v : Value) (l : List Step) (w : World) (hl : l.length ≤ 1048576) (hns : ∀ x ∈ l, x.1.size ≤ 1048576) (hr : Reads w v l) :
    Calls Tryz.prog 24 #[v] w (TextPost l w) := by
  rcases hr with ⟨rfl, rfl | ⟨a, cap, rfl⟩⟩ | ⟨b, off, cap, rfl, h⟩
  · exact rtext_none none 0 w
  · exact rtext_none (some a) cap w
  · exact rtext_some b off cap l w hl hns h
end Go.Proofs.YtjohlabdjdhpfaaGreatDoor.Lk
