/-
  Walks: a path's text written: package look's Text and the document's, over one plain function.
-/
import Derived.Test.YtjohlabdjdhpfaaGreatDoorRefPath
import Derived.Lib.ItoaNum
namespace Go.Proofs.YtjohlabdjdhpfaaGreatDoor.Lk
open Go.RowKit Go.Proofs.YtjohlabdjdhpfaaGreatDoor.Kt
set_option linter.unusedSimpArgs false
set_option linter.unusedVariables false

/-- the decimal digits of a number -/
def dgt (n : Nat) : ByteArray := ⟨(Lib.decDigits n).toArray⟩
theorem dgt_last {n : Nat} (h : n < 10) : dgt n = strOfNums [48 + (n : Int)] := by
  unfold dgt; rw [Lib.decDigits, dif_pos h]
  show (⟨#[UInt8.ofNat (48 + n)]⟩ : ByteArray) = ⟨#[UInt8.ofNat (48 + (n : Int)).toNat]⟩
  have e : (48 + (n : Int)).toNat = 48 + n := by omega
  rw [e]
theorem dgt_more {n : Nat} (h : ¬ n < 10) : dgt n = dgt (n / 10) ++ strOfNums [48 + (n : Int) % 10] := by
  unfold dgt; rw [Lib.decDigits, dif_neg h]
  have e : (48 + (n : Int) % 10).toNat = 48 + n % 10 := by omega
  apply ByteArray.ext
  show (Lib.decDigits (n / 10) ++ [UInt8.ofNat (48 + n % 10)]).toArray = _
  rw [ByteArray.data_append]
  show _ = (Lib.decDigits (n / 10)).toArray ++ #[UInt8.ofNat (48 + (n : Int) % 10).toNat]
  rw [e]; simp

set_option maxHeartbeats 800000 in
theorem decimal_any (n0 : Nat) (hn0 : n0 ≤ 1000000) (w : World) :
    Calls Tryz.prog 44 #[.int .i64 n0] w fun e w' => e = .returned (.string (dgt n0)) ∧ Below w.heap.size w w' := by
  go_enter Tryz.func44, Tryz.ntmps44
  go_wp2
  go_loopw [0, 3] (fun a t wr => ∃ (n : Nat) (s : ByteArray), a = .int .i64 n ∧ n ≤ 1000000 ∧ s.size + n ≤ 1000000 ∧ t = .string s ∧ dgt n0 = dgt n ++ s ∧ Below w.heap.size w wr) (fun a _ _ => (intOf a).toNat)
  case atStart => exact ⟨n0, ⟨#[]⟩, rfl, hn0, by simp [ByteArray.size]; omega, rfl, (ByteArray.append_empty).symm, Below.refl _ _⟩
  case round =>
    obtain ⟨n, s, rfl, hn, hsz, rfl, hd, hbel⟩ := hrel
    have h1 : (strOfNums [48 + (n : Int) % 10]).size + s.size ≤ 2000001 := by rw [strOfNums_size]; simp; omega
    have HD : Hid (dgt n0 = dgt n ++ s) := hd
    clear hd
    have hone : ∀ i, i < 1 → (wr.alloc (.cells #[.int .u8 (48 + (n : Int) % 10)] 5)).cell? ⟨wr.heap.size, 0 + i, none⟩ = some (.int .u8 ([48 + (n : Int) % 10].getD i 0)) := by
      intro i hi
      obtain rfl : i = 0 := by omega
      simp
    have hconv : (convert 29 9 (.slice (some ⟨wr.heap.size, 0, none⟩) 1 1)).run Tryz.prog (wr.alloc (.cells #[.int .u8 (48 + (n : Int) % 10)] 5)) = .ok (.string (strOfNums [48 + (n : Int) % 10])) (wr.alloc (.cells #[.int .u8 (48 + (n : Int) % 10)] 5)) :=
      run_convert_bytes_arg (P := Tryz.prog) _ _ _ Tryz.underlying29 Tryz.underlying5 wr.heap.size 0 1 1 [48 + (n : Int) % 10] rfl hone _ Tryz.underlying9
    clear hone
    by_cases h10 : n < 10
    · have HL : Hid (dgt n0 = strOfNums [48 + (n : Int) % 10] ++ s) := by
        unfold Hid; rw [HD.out, dgt_last h10, show (n : Int) % 10 = n by omega]
      have e1 : (((n : Int) / 10 == 0) : Bool) = true := by simp; omega
      clear h10
      go_wp2
      go_ret
      exact ⟨by rw [HL.out]; rfl, hbel.alloc hbel.size _⟩
    · have HL : Hid (dgt n0 = dgt (n / 10) ++ (strOfNums [48 + (n : Int) % 10] ++ s)) := by
        unfold Hid; rw [HD.out, dgt_more h10, ByteArray.append_assoc]
      have e1 : (((n : Int) / 10 == 0) : Bool) = false := by simp; omega
      go_wp2
      go_roundw
      case rel => exact ⟨n / 10, _, rfl, by omega, by rw [ByteArray.size_append, strOfNums_size]; simp; omega, rfl, HL.out, hbel.alloc hbel.size _⟩
      case measure => simp [intOf]; omega

/-- a slice of steps that lies somewhere -/
def ReadsAt (w : World) (b off : Nat) (l : List Step) : Prop :=
  ∀ i (h : i < l.length), w.cell? ⟨b, off + i * 2, none⟩ = some (.string l[i].1) ∧ w.cell? ⟨b, off + i * 2 + 1, none⟩ = some (.int .i64 l[i].2)
def Reads (w : World) (v : Value) (l : List Step) : Prop :=
  (l = [] ∧ (v = .slice none 0 0 ∨ ∃ a cap, v = .slice (some a) 0 cap)) ∨ ∃ b off cap, v = .slice (some ⟨b, off, none⟩) l.length cap ∧ ReadsAt w b off l
theorem ReadsAt.below {w w' : World} {b off : Nat} {l : List Step} (h : ReadsAt w b off l) (hb : Below w.heap.size w w') : ReadsAt w' b off l := fun i hi =>
  ⟨cell_later hb (h i hi).1, cell_later hb (h i hi).2⟩

def goodStep (x : Step) : Bool := symOk x.1 && decide (-1 ≤ x.2) && decide (x.2 ≤ 65535)
def textAdd (i : Nat) (acc : ByteArray) (x : Step) : ByteArray :=
  if 0 ≤ x.2 then ((if 0 < i then acc ++ ⟨#[46]⟩ else acc) ++ x.1) ++ ⟨#[91]⟩ ++ dgt x.2.toNat ++ ⟨#[93]⟩ else (if 0 < i then acc ++ ⟨#[46]⟩ else acc) ++ x.1
def textGo : List Step → Nat → ByteArray → ByteArray × Nat
  | [], _, acc => (acc, 0)
  | x :: r, i, acc => if goodStep x = true then textGo r (i + 1) (textAdd i acc x) else (⟨#[]⟩, 210)
def textR (l : List Step) : ByteArray × Nat := textGo l 0 ⟨#[]⟩
theorem textGo_at {l : List Step} {k : Nat} (h : k < l.length) (acc : ByteArray) : textGo (l.drop k) k acc = if goodStep l[k] = true then textGo (l.drop (k + 1)) (k + 1) (textAdd k acc l[k]) else (⟨#[]⟩, 210) := by
  rw [List.drop_eq_getElem_cons h, textGo]
theorem textGo_end {l : List Step} {k : Nat} (h : l.length ≤ k) (acc : ByteArray) : textGo (l.drop k) k acc = (acc, 0) := by
  rw [List.drop_eq_nil_of_le h, textGo]
theorem dgt_size {n : Nat} (h : n ≤ 65535) : (dgt n).size ≤ 5 := by
  have h1 : ∀ m, (dgt m).size = Lib.nDigits m := fun m => by show (Lib.decDigits m).toArray.size = _; rw [List.size_toArray, Lib.decDigits_length]
  rw [h1]
  have h2 : Lib.nDigits n ≤ 5 := by
    by_cases a : n < 10
    · rw [Lib.nDigits_small a]; omega
    · rw [Lib.nDigits_big a]
      by_cases b : n / 10 < 10
      · rw [Lib.nDigits_small b]; omega
      · rw [Lib.nDigits_big b]
        by_cases c : n / 10 / 10 < 10
        · rw [Lib.nDigits_small c]; omega
        · rw [Lib.nDigits_big c]
          by_cases d : n / 10 / 10 / 10 < 10
          · rw [Lib.nDigits_small d]; omega
          · rw [Lib.nDigits_big d, Lib.nDigits_small (by omega)]; omega
  exact h2
theorem symOk_size {s : ByteArray} (h : symOk s = true) : s.size ≤ 64 := by unfold symOk at h; simp at h; exact h.1.2
theorem textAdd_size {i : Nat} {acc : ByteArray} {x : Step} (h : goodStep x = true) : (textAdd i acc x).size ≤ acc.size + 72 := by
  unfold goodStep at h; simp at h
  obtain ⟨⟨h1, h2⟩, h3⟩ := h
  have h4 := symOk_size h1
  have h5 : (dgt x.2.toNat).size ≤ 5 := dgt_size (by omega)
  have e1 : (⟨#[46]⟩ : ByteArray).size = 1 := rfl
  have e2 : (⟨#[91]⟩ : ByteArray).size = 1 := rfl
  have e3 : (⟨#[93]⟩ : ByteArray).size = 1 := rfl
  unfold textAdd
  split <;> split <;> simp only [ByteArray.size_append, e1, e2, e3] <;> omega

/-- what Text answers -/
def TextPost (l : List Step) (w : World) (e : Ending) (w' : World) : Prop := e = .returned (.tuple #[.string (textR l).1, .int .i64 (textR l).2]) ∧ Below w.heap.size w w'
theorem rtext_none (A : Option Addr) (cap : Nat) (w : World) : Calls Tryz.prog 24 #[.slice A 0 cap] w (TextPost [] w) := by
  go_enter Tryz.func24, Tryz.ntmps24
  go_wp2
  refine wp_loop_rounds 1 ?_
  rw [rounds_succ]
  go_wp2
  go_ret2
  exact ⟨rfl, Below.refl _ _⟩

set_option maxHeartbeats 1600000 in
theorem rtext_some (b off cap : Nat) (l : List Step) (w : World) (hl : l.length ≤ 1048576) (hns : ∀ x ∈ l, x.1.size ≤ 1048576) (hr : ReadsAt w b off l) :
    Calls Tryz.prog 24 #[.slice (some ⟨b, off, none⟩) l.length cap] w (TextPost l w) := by
  go_enter Tryz.func24, Tryz.ntmps24
  go_wp2
  go_loopg [4, 5] l.length (fun m t i wr => ∃ (k : Nat) (acc : ByteArray), m = l.length - k ∧ k ≤ l.length ∧ i = .int .i64 k ∧ t = .string acc ∧ acc.size ≤ 72 * k ∧ textGo (l.drop k) k acc = textR l ∧ Below w.heap.size w wr)
  case atStart => exact ⟨0, ⟨#[]⟩, rfl, Nat.zero_le _, rfl, rfl, Nat.le_refl _, rfl, Below.refl _ _⟩
  case round =>
    obtain ⟨k, acc, hmm, hk, rfl, rfl, hsz, hgo, hbel⟩ := hrel
    have HM : Hid (gk = l.length - k) := hmm
    have HGO : Hid (textGo (l.drop k) k acc = textR l) := hgo
    clear hmm hgo
    by_cases hlt : k < l.length
    · obtain ⟨c0, c1⟩ := (hr.below hbel) k hlt
      have hat := textGo_at hlt acc
      have hnm := hns l[k] (List.getElem_mem hlt)
      generalize l[k] = x at c0 c1 hat hnm
      obtain ⟨nm, en⟩ := x
      dsimp only at c0 c1 hnm
      cases hS : symOk nm with
      | false =>
        have HS : Hid (symOk nm = false) := hS
        have HR : Hid (textR l = (⟨#[]⟩, 210)) := by unfold Hid; rw [← HGO.out, hat, if_neg (by unfold goodStep; simp [hS])]
        clear hat
        go_wp2_with (first
                    | (go_at_call 43; refine (rsymbol_any _ _ hnm).mono ?_; rintro e w' ⟨he, nq, rfl⟩; rw [HS.out] at he; subst he)
                    | (go_at_call 44; refine (hdec _).mono ?_; rintro e w' ⟨rfl, hbl⟩))
        go_ret2
        exact ⟨by rw [HR.out]; rfl, below_drewN hbel _⟩
      | true =>
        have HS : Hid (symOk nm = true) := hS
        have hn64 := symOk_size hS
        by_cases h1 : en < -1
        · skip
          have HR : Hid (textR l = (⟨#[]⟩, 210)) := by unfold Hid; rw [← HGO.out, hat, if_neg (by unfold goodStep; simp; intros; omega)]
          clear hat
          go_wp2_with (first
                      | (go_at_call 43; refine (rsymbol_any _ _ hnm).mono ?_; rintro e w' ⟨he, nq, rfl⟩; rw [HS.out] at he; subst he)
                      | (go_at_call 44; refine (hdec _).mono ?_; rintro e w' ⟨rfl, hbl⟩))
          go_ret2
          exact ⟨by rw [HR.out]; rfl, below_drewN hbel _⟩
        · by_cases h2 : 65535 < en
          · skip
            have HR : Hid (textR l = (⟨#[]⟩, 210)) := by unfold Hid; rw [← HGO.out, hat, if_neg (by unfold goodStep; simp; intros; omega)]
            clear hat
            go_wp2_with (first
                        | (go_at_call 43; refine (rsymbol_any _ _ hnm).mono ?_; rintro e w' ⟨he, nq, rfl⟩; rw [HS.out] at he; subst he)
                        | (go_at_call 44; refine (hdec _).mono ?_; rintro e w' ⟨rfl, hbl⟩))
            go_ret2
            exact ⟨by rw [HR.out]; rfl, below_drewN hbel _⟩
          · have hgd : goodStep (nm, en) = true := by unfold goodStep; simp [hS]; omega
            have HG : Hid (goodStep (nm, en) = true) := hgd
            have HN : Hid (textGo (l.drop (k + 1)) (k + 1) (textAdd k acc (nm, en)) = textR l) := by unfold Hid; rw [← HGO.out, hat, if_pos hgd]
            have hdec : ∀ w : World, 0 ≤ en → Calls Tryz.prog 44 #[.int .i64 en] w fun e w' => e = .returned (.string (dgt en.toNat)) ∧ Below w.heap.size w w' := fun w h => by
              have := decimal_any en.toNat (by omega) w
              rwa [show ((en.toNat : Nat) : Int) = en by omega] at this
            clear hat hS hgd
            by_cases he0 : 0 ≤ en
            · have hdec := fun w => hdec w he0
              have hd5 : (dgt en.toNat).size ≤ 5 := dgt_size (by omega)
              by_cases hk0 : 0 < k
              · skip
                have HA : Hid (textAdd k acc (nm, en) = acc ++ ⟨#[46]⟩ ++ nm ++ ⟨#[91]⟩ ++ dgt en.toNat ++ ⟨#[93]⟩) := by unfold Hid textAdd; simp [hk0, he0]
                have hs2 : (textAdd k acc (nm, en)).size ≤ 72 * (k + 1) := by have := textAdd_size (i := k) (acc := acc) (x := (nm, en)) HG.out; omega
                go_wp2_with (first
                            | (go_at_call 43; refine (rsymbol_any _ _ hnm).mono ?_; rintro e w' ⟨he, nq, rfl⟩; rw [HS.out] at he; subst he)
                            | (go_at_call 44; refine (hdec _).mono ?_; rintro e w' ⟨rfl, hbl⟩))
                go_roundg (l.length - (k + 1))
                case measure => rw [HM.out]; omega
                case rel => exact ⟨k + 1, _, rfl, by omega, rfl, rfl, by rw [← HA.out]; exact hs2, by rw [← HA.out]; exact HN.out, (below_drewN hbel _).trans (hbl.mono (by simpa using hbel.size))⟩
              · skip
                have HA : Hid (textAdd k acc (nm, en) = acc ++ nm ++ ⟨#[91]⟩ ++ dgt en.toNat ++ ⟨#[93]⟩) := by unfold Hid textAdd; simp [hk0, he0]
                have hs2 : (textAdd k acc (nm, en)).size ≤ 72 * (k + 1) := by have := textAdd_size (i := k) (acc := acc) (x := (nm, en)) HG.out; omega
                go_wp2_with (first
                            | (go_at_call 43; refine (rsymbol_any _ _ hnm).mono ?_; rintro e w' ⟨he, nq, rfl⟩; rw [HS.out] at he; subst he)
                            | (go_at_call 44; refine (hdec _).mono ?_; rintro e w' ⟨rfl, hbl⟩))
                go_roundg (l.length - (k + 1))
                case measure => rw [HM.out]; omega
                case rel => exact ⟨k + 1, _, rfl, by omega, rfl, rfl, by rw [← HA.out]; exact hs2, by rw [← HA.out]; exact HN.out, (below_drewN hbel _).trans (hbl.mono (by simpa using hbel.size))⟩
            · by_cases hk0 : 0 < k
              · skip
                have HA : Hid (textAdd k acc (nm, en) = acc ++ ⟨#[46]⟩ ++ nm) := by unfold Hid textAdd; simp [hk0, he0]
                have hs2 : (textAdd k acc (nm, en)).size ≤ 72 * (k + 1) := by have := textAdd_size (i := k) (acc := acc) (x := (nm, en)) HG.out; omega
                go_wp2_with (first
                            | (go_at_call 43; refine (rsymbol_any _ _ hnm).mono ?_; rintro e w' ⟨he, nq, rfl⟩; rw [HS.out] at he; subst he)
                            | (go_at_call 44; refine (hdec _).mono ?_; rintro e w' ⟨rfl, hbl⟩))
                go_roundg (l.length - (k + 1))
                case measure => rw [HM.out]; omega
                case rel => exact ⟨k + 1, _, rfl, by omega, rfl, rfl, by rw [← HA.out]; exact hs2, by rw [← HA.out]; exact HN.out, below_drewN hbel _⟩
              · skip
                have HA : Hid (textAdd k acc (nm, en) = acc ++ nm) := by unfold Hid textAdd; simp [hk0, he0]
                have hs2 : (textAdd k acc (nm, en)).size ≤ 72 * (k + 1) := by have := textAdd_size (i := k) (acc := acc) (x := (nm, en)) HG.out; omega
                go_wp2_with (first
                            | (go_at_call 43; refine (rsymbol_any _ _ hnm).mono ?_; rintro e w' ⟨he, nq, rfl⟩; rw [HS.out] at he; subst he)
                            | (go_at_call 44; refine (hdec _).mono ?_; rintro e w' ⟨rfl, hbl⟩))
                go_roundg (l.length - (k + 1))
                case measure => rw [HM.out]; omega
                case rel => exact ⟨k + 1, _, rfl, by omega, rfl, rfl, by rw [← HA.out]; exact hs2, by rw [← HA.out]; exact HN.out, below_drewN hbel _⟩
    · have HR : Hid (textR l = (acc, 0)) := by unfold Hid; rw [← HGO.out]; exact textGo_end (by omega) acc
      obtain rfl : k = l.length := by omega
      clear hr
      go_wp2
      go_ret2
      exact ⟨by rw [HR.out]; rfl, hbel⟩
end Go.Proofs.YtjohlabdjdhpfaaGreatDoor.Lk
