/-
  Walks: the document's numbers of any length: digits, rows of limbs.
-/
import Derived.Test.YtijnbohjcmcfjaaGreatDoorLBig
import Derived.Test.YtijnbohjcmcfjaaGreatDoorLRows2
import Derived.Test.YtijnbohjcmcfjaaGreatDoorProg
import Derived.Deep.DeepCutAuto
import Derived.Deep.CutBlock
namespace Go.Proofs.YtijnbohjcmcfjaaGreatDoor.R3
open Go.RowKit Go.Proofs.YtijnbohjcmcfjaaGreatDoor.Kt Go.Proofs.YtijnbohjcmcfjaaGreatDoor.Lk Go.Proofs.YtijnbohjcmcfjaaGreatDoor.Rw Go.Proofs.YtijnbohjcmcfjaaGreatDoor.Bg
set_option linter.unusedSimpArgs false
set_option linter.unusedVariables false
set_option maxRecDepth 100000

theorem digit3_any (c : Nat) (w : World) : Calls Tryz.prog 73 #[.int .u8 c] w fun e w' => e = .returned (.bool (isDig c)) ∧ w = w' := by
  unfold isDig
  go_enter Tryz.func73, Tryz.ntmps73
  go_wp2
  all_goals go_ret
  all_goals exact ⟨ret_bool (by rw [Bool.eq_iff_iff]; simp; omega), rfl⟩
theorem worth3_dig (c : Nat) (hd : isDig c = true) (w : World) : Calls Tryz.prog 74 #[.int .u8 c] w fun e w' => e = .returned (.int .i64 ((c - 48 : Nat) : Int)) ∧ w = w' := by
  have hc : 48 ≤ c ∧ c ≤ 57 := by simpa [isDig] using hd
  have HD : Hid (isDig c = true) := hd
  have HE : Hid (((c - 48 : Nat) : Int) = (c : Int) - 48) := by unfold Hid; omega
  obtain ⟨h1, h2⟩ := hc
  clear hd
  go_enter Tryz.func74, Tryz.ntmps74
  go_wp2_with (go_at_call 73; refine (digit3_any _ _).mono ?_; rintro e w' ⟨he, rfl⟩; rw [HD.out] at he; subst he)
  go_ret
  exact ⟨ret_int (by rw [HE.out]), rfl⟩

/-- a slice of whole numbers that are not below 0 -/
def Ints (w : World) (v : Value) (l : List Nat) : Prop :=
  ∃ A cap, v = .slice A l.length cap ∧ l.length ≤ cap ∧ cap ≤ maxLen ∧ ∀ j (h : j < l.length), ∃ g, A = some ⟨g, 0, none⟩ ∧ g < w.heap.size ∧ w.cell? ⟨g, j, none⟩ = some (.int .i64 (l[j] : Int))
theorem Ints.below {w w' : World} {v : Value} {l : List Nat} (h : Ints w v l) (hb : Below w.heap.size w w') : Ints w' v l := by
  obtain ⟨A, cap, hv, h1, h2, h3⟩ := h
  refine ⟨A, cap, hv, h1, h2, fun j hj => ?_⟩
  obtain ⟨g, hg, hlt, hc⟩ := h3 j hj
  exact ⟨g, hg, by have := hb.size; omega, by rw [hb.cell (p := ⟨g, j, none⟩) hlt]; exact hc⟩
theorem Ints.at {w : World} {A : Option Addr} {n cap : Nat} {l : List Nat} (h : Ints w (.slice A n cap) l) {j : Nat} (hj : j < l.length) : ∃ g, A = some ⟨g, 0, none⟩ ∧ g < w.heap.size ∧ w.cell? ⟨g, j, none⟩ = some (.int .i64 (l[j] : Int)) := by
  obtain ⟨A', cap', hv, h1, h2, h3⟩ := h
  injection hv with e1 e2 e3
  subst e1
  exact h3 j hj
theorem Ints.nil (w : World) : Ints w (.slice none 0 0) [] := ⟨none, 0, rfl, Nat.le_refl _, by unfold maxLen; omega, fun j h => absurd h (by simp)⟩
def nC (l : List Nat) : List Value := l.map fun n : Nat => Value.int .i64 (n : Int)
theorem nC_snoc (l : List Nat) (x : Nat) : nC (l ++ [x]) = nC l ++ [.int .i64 (x : Int)] := by unfold nC; simp
theorem nC_length (l : List Nat) : (nC l).length = l.length := by unfold nC; simp
theorem Ints.of_row {w : World} {base : Nat} {te : TypeId} {v : Value} {l : List Nat} (h : w.ownsRow base te 1 v l.length (nC l)) : Ints w v l := by
  by_cases hl : l.length = 0
  · have : l = [] := List.eq_nil_of_length_eq_zero hl
    subst this
    rcases h.2 with ⟨rfl, _⟩ | ⟨g, cap, cur, rfl, hg, hh, hnc, hcm, hcs, htake⟩
    · exact Ints.nil w
    · exact ⟨_, cap, rfl, by simp, hcm, fun j h => absurd h (by simp)⟩
  · obtain ⟨g, cap, rfl, _, hlt, h1, h2, h3⟩ := row_shape h hl
    refine ⟨_, cap, rfl, h1, h2, fun j hj => ⟨g, rfl, hlt, h3 j _ ?_⟩⟩
    unfold nC; simp [List.getElem?_eq_getElem hj]
theorem infoI64 : (Tryz.prog.info? 3).map (fun i => (i.zero, i.size, i.bytes)) = some (some (.int .i64 0), 1, 8) := by kernel_rfl

def RowPost (s : ByteArray) (w : World) (e : Ending) (w' : World) : Prop := e = .returned (.int .i64 (digEnd s 0)) ∧ w = w'
set_option maxHeartbeats 1600000 in
theorem row3_any (s : ByteArray) (M : Int) (hM : 1048577 ≤ M) (w : World) (hm : s.size ≤ 1048576) :
    Calls Tryz.prog 49 #[.string s, .int .i64 0,   .bool false, .int .i64 M] w (RowPost s w) := by
  go_enter Tryz.func49, Tryz.ntmps49
  go_wp2
  go_loop [1, 9] (fun i n => ∃ k : Nat, i = .int .i64 k ∧ n = .int .i64 k ∧ k ≤ s.size ∧ Hid (digEnd s 0 = digEnd s k)) (fun i _ => s.size - (intOf i).toNat)
  case atStart => exact ⟨0, rfl, rfl, Nat.zero_le _, rfl⟩
  case round =>
    obtain ⟨k, rfl, rfl, hk, HK⟩ := hrel
    by_cases hlt : k < s.size
    · have hb := (gb_lt hlt).symm
      cases hd : isDig (gb s k) with
      | true =>
        have HD : Hid (isDig (gb s k) = true) := hd
        have HN : Hid (digEnd s 0 = digEnd s (k + 1)) := by unfold Hid; rw [HK.out, digEnd_go hd]
        clear hd
        go_wp2_with (go_at_call 73; refine (digit3_any _ _).mono ?_; rintro e w' ⟨he, rfl⟩; rw [HD.out] at he; subst he)
        go_round
        case rel => exact ⟨k + 1, by go_num, by go_num, by omega, HN⟩
        case measure => simp [intOf]; omega
      | false =>
        have HD : Hid (isDig (gb s k) = false) := hd
        have HN : Hid (digEnd s 0 = k) := by unfold Hid; rw [HK.out, digEnd_stop hd]
        clear hd
        go_wp2_with (go_at_call 73; refine (digit3_any _ _).mono ?_; rintro e w' ⟨he, rfl⟩; rw [HD.out] at he; subst he)
        go_ret
        exact ⟨by rw [HN.out]; rfl, rfl⟩
    · have hd : isDig (gb s k) = false := by rw [gb_ge hlt]; rfl
      have HN : Hid (digEnd s 0 = k) := by unfold Hid; rw [HK.out, digEnd_stop hd]
      clear hd
      go_wp2
      go_ret
      exact ⟨by rw [HN.out]; rfl, rfl⟩

/-- what trim answers -/
def TrimPost (l : List Nat) (w : World) (e : Ending) (w' : World) : Prop :=
  ∃ m v, e = .returned v ∧ m ≤ l.length ∧ Ints w v (l.take m) ∧ val (l.take m) = val l ∧ trimd (l.take m) ∧ w = w'
set_option maxHeartbeats 1600000 in
theorem trim3_any (v : Value) (l : List Nat) (w : World) (hm : l.length ≤ 2097152) (hv : Ints w v l) : Calls Tryz.prog 113 #[v] w (TrimPost l w) := by
  obtain ⟨A, cap, rfl, h1, h2, h3⟩ := hv
  unfold maxLen at h2
  have H3 : Hid (∀ j (h : j < l.length), ∃ g, A = some ⟨g, 0, none⟩ ∧ g < w.heap.size ∧ w.cell? ⟨g, j, none⟩ = some (.int .i64 (l[j] : Int))) := h3
  clear h3
  go_enter Tryz.func113, Tryz.ntmps113
  go_wp2
  go_loop [0] (fun v => ∃ m : Nat, v = .slice A m cap ∧ m ≤ l.length ∧ Hid (val (l.take m) = val l)) (fun v => match v with | .slice _ n _ => n | _ => 0)
  case atStart => exact ⟨l.length, rfl, Nat.le_refl _, by unfold Hid; rw [List.take_length]⟩
  case round =>
    obtain ⟨m, rfl, hml, HV⟩ := hrel
    have HI : Hid (Ints w (.slice A m cap) (l.take m)) := ⟨A, cap, by rw [List.length_take, Nat.min_eq_left hml], by rw [List.length_take, Nat.min_eq_left hml]; omega, by unfold maxLen; omega, fun j hj => by
      rw [List.length_take, Nat.min_eq_left hml] at hj
      obtain ⟨g, a, b, c⟩ := H3.out j (by omega)
      exact ⟨g, a, b, by rw [List.getElem_take]; exact c⟩⟩
    by_cases hm0 : 0 < m
    · obtain ⟨n, rfl⟩ : ∃ n, m = n + 1 := ⟨m - 1, by omega⟩
      obtain ⟨g, rfl, hg, hc⟩ := H3.out n (by omega)
      have hn1 : ((n + 1 : Nat) : Int) - 1 = (n : Int) := by omega
      by_cases hz : l[n] = 0
      · have hx : w.cell? ⟨g, n, none⟩ = some (.int .i64 0) := by rw [hc, hz]; rfl
        have HN : Hid (val (l.take n) = val l) := take_trim (by omega) hz HV.out
        clear hc hz
        go_wp2
        go_round
        case rel => exact ⟨n, by first | rfl | (simp; done) | (congr 1 <;> simp), by omega, HN⟩
        case measure => simp
      · have hx : w.cell? ⟨g, n, none⟩ = some (.int .i64 (l[n] : Int)) := hc
        have hne : (((l[n] : Nat) : Int) == 0) = false := by simp; exact hz
        have HT : Hid (trimd (l.take (n + 1))) := trimd_take (by omega) hz
        clear hc hz
        go_wp2
        go_ret
        exact ⟨n + 1, _, rfl, by omega, HI.out, HV.out, HT.out, rfl⟩
    · obtain rfl : m = 0 := by omega
      go_wp2
      go_ret
      exact ⟨0, _, rfl, Nat.zero_le _, HI.out, HV.out, trimd_nil, rfl⟩

/-- what a times 10, and a digit more, answers -/
def TimesPost (N n : Nat) (w : World) (e : Ending) (w' : World) : Prop :=
  ∃ v l, e = .returned v ∧ Ints w' v l ∧ okL l ∧ trimd l ∧ val l = N ∧ l.length ≤ n + 1 ∧ Below w.heap.size w w'
set_option maxHeartbeats 3200000 in
theorem times3_any (v : Value) (l : List Nat) (c0 : Nat) (w : World) (hm : l.length ≤ 1048576) (hc0 : c0 ≤ 9) (hv : Ints w v l) (ho : okL l) :
    Calls Tryz.prog 75 #[v, .int .i64 10, .int .i64 c0] w (TimesPost (c0 + 10 * val l) l.length w) := by
  have HV : Hid (Ints w v l) := hv
  have HO : Hid (okL l) := ho
  obtain ⟨N, hN⟩ : ∃ N, N = c0 + 10 * val l := ⟨_, rfl⟩
  rw [← hN]
  have HN : Hid (c0 + 10 * val l = N) := hN.symm
  clear hN ho
  obtain ⟨A, cap, rfl, h1, h2, _⟩ := hv
  obtain ⟨i1, hi1, hz10, hz11, hz12⟩ := info_parts infoI64
  go_enter Tryz.func75, Tryz.ntmps75
  go_wp2
  go_loopw [2, 7, 8] (fun cv bv iv wr => ∃ (i c : Nat) (b : List Nat), iv = .int .i64 i ∧ cv = .int .i64 c ∧ i ≤ l.length ∧ c ≤ 10 ∧ Hid (okL b) ∧ Hid (b.length = i) ∧ Hid (val b + 16777216 ^ i * (c + 10 * val (l.drop i)) = N) ∧ wr.ownsRow w.heap.size 3 1 bv b.length (nC b) ∧ Below w.heap.size w wr) (fun _ _ iv _ => l.length - (intOf iv).toNat)
  case atStart => exact ⟨0, c0, [], rfl, rfl, Nat.zero_le _, by omega, fun x hx => absurd hx (by simp), rfl, by unfold Hid; simpa [val] using HN.out, World.ownsRow_nil _ _ _ _, Below.refl _ _⟩
  case round => as_aux_lemma =>
    obtain ⟨i, c, b, rfl, rfl, hi, hc, HOB, HL, HVV, hown, hB⟩ := hrel
    have HOWN : Hid (wr.ownsRow w.heap.size 3 1 u7 b.length (nC b)) := hown
    clear hown
    have hbl : b.length ≤ l.length := by rw [HL.out]; exact hi
    by_cases hlt : i < l.length
    · obtain ⟨g, rfl, hg, hcell⟩ := Ints.at (HV.out.below hB) hlt
      have hx := okL_get HO.out hlt
      have HS : Hid (val (b ++ [(c + l[i] * 10) % 16777216]) + 16777216 ^ (i + 1) * ((c + l[i] * 10) / 16777216 + 10 * val (l.drop (i + 1))) = N) := step_eq b i c 10 l[i] (val (l.drop (i + 1))) N HL.out (by
        have h := HVV.out
        rwa [List.drop_eq_getElem_cons hlt, val] at h)
      generalize l[i] = x at hcell hx HS
      clear HVV
      have hcast : ((c : Int) + (x : Int) * 10) % 16777216 = (((c + x * 10) % 16777216 : Nat) : Int) := by omega
      have hcast2 : ((c : Int) + (x : Int) * 10) / 16777216 = (((c + x * 10) / 16777216 : Nat) : Int) := by omega
      have HC1 : Hid (((c : Int) + (x : Int) * 10) % 16777216 = (((c + x * 10) % 16777216 : Nat) : Int)) := hcast
      have HC2 : Hid (((c : Int) + (x : Int) * 10) / 16777216 = (((c + x * 10) / 16777216 : Nat) : Int)) := hcast2
      clear hcast hcast2
      go_wp2_with (at_builtin; refine wpList_append_own_at _ rfl _ _ 81 rfl w.heap.size 3 i1 (.int .i64 0) 1 8 Tryz.underlying81 hi1 hz10 hz11 hz12 rfl (by decide) u7 b.length (nC b) rfl (World.ownsRow.alloc HOWN.out _) ⟨wr.heap.size, 0, none⟩ 1 1 [.int .i64 (((c : Int) + (x : Int) * 10) % 16777216)] rfl rfl ?c1 ?c2 ?c3 ?c4 ?c5 ?_)
      case c1 => exact new_cells _ _ _
      case c2 => intro u hu; simp at hu; rcases hu with rfl; rfl
      case c3 => unfold maxLen; omega
      case c4 => omega
      case c5 => have := hB.size; simp; omega
      intro v' w1 hown' hgrow _ _
      have HO2 : Hid (w1.ownsRow w.heap.size 3 1 v' (b ++ [(c + x * 10) % 16777216]).length (nC (b ++ [(c + x * 10) % 16777216]))) := by
        unfold Hid
        rw [nC_snoc, List.length_append, ← HC1.out]
        exact hown'
      have HBB : Hid (Below w.heap.size w w1) := below_row ((hB.alloc hB.size _)) (by have := hB.size; simp; omega) (World.ownsRow.alloc HOWN.out _) hgrow
      clear hown' hgrow
      go_wp2
      go_roundw
      case rel => exact ⟨i + 1, (c + x * 10) / 16777216, b ++ [(c + x * 10) % 16777216], by go_num, by rw [← HC2.out], by omega, by omega, okL_snoc HOB.out (Nat.mod_lt _ (by decide)), by unfold Hid; rw [List.length_append, HL.out]; rfl, HS, HO2.out, HBB.out⟩
      case measure => simp [intOf]; omega
    · obtain rfl : i = l.length := by omega
      have HVE : Hid (val b + 16777216 ^ b.length * c = N) := by
        have h := HVV.out
        rw [List.drop_length] at h
        unfold Hid; rw [HL.out]; simpa [val] using h
      have hbn : b.length + (if c = 0 then 0 else 1) ≤ l.length + 1 := by split <;> omega
      have HBN : Hid (b.length + (if c = 0 then 0 else 1) ≤ l.length + 1) := hbn
      clear hbn HVV HL hlt hi
      go_wp2
      go_loopw [2, 7] (fun cv bv wr => ∃ (c : Nat) (b : List Nat), cv = .int .i64 c ∧ c ≤ 10 ∧ b.length ≤ l.length + 1 ∧ Hid (okL b) ∧ Hid (b.length + (if c = 0 then 0 else 1) ≤ l.length + 1) ∧ Hid (val b + 16777216 ^ b.length * c = N) ∧ wr.ownsRow w.heap.size 3 1 bv b.length (nC b) ∧ Below w.heap.size w wr) (fun cv _ _ => (intOf cv).toNat)
      case atStart => exact ⟨c, b, rfl, hc, by omega, HOB, HBN, HVE, HOWN.out, hB⟩
      case round => as_aux_lemma =>
        clear HVE HBN HOWN hB HOB hc hbl
        obtain ⟨d, e2, rfl, hd, hbl2, HOB2, HBN2, HVE2, hown2, hB2⟩ := hrel
        have HOWN2 : Hid (wr.ownsRow w.heap.size 3 1 u7 e2.length (nC e2)) := hown2
        clear hown2
        by_cases hd0 : d = 0
        · as_aux_lemma =>
          subst hd0
          have HVF : Hid (val e2 = N) := by have := HVE2.out; unfold Hid; simpa using this
          have HRI : Hid (Ints wr u7 e2) := Ints.of_row HOWN2.out
          clear HVE2 HBN2
          go_wp2_with (go_at_call 113; refine (trim3_any _ _ _ (by omega) HRI.out).mono ?_; rintro e w' ⟨m, v, rfl, hml, HR, HVV, HT, rfl⟩)
          go_ret
          exact ⟨v, e2.take m, rfl, HR, okL_take HOB2.out m, HT, by rw [HVV, HVF.out], by rw [List.length_take]; omega, hB2⟩
        · as_aux_lemma =>
          have HS2 : Hid (val (e2 ++ [d % 16777216]) + 16777216 ^ (e2 ++ [d % 16777216]).length * (d / 16777216) = N) := by
            have h := last_eq e2 e2.length d N rfl HVE2.out
            unfold Hid; rw [List.length_append]; exact h
          have hbn : e2.length + 1 ≤ l.length + 1 := by have h := HBN2.out; rw [if_neg hd0] at h; exact h
          have HQ : Hid (d / 16777216 = 0) := by unfold Hid; omega
          have hpos : (0 : Int) < (d : Int) := by omega
          have HC1 : Hid ((d : Int) % 16777216 = ((d % 16777216 : Nat) : Int)) := by unfold Hid; omega
          have HC2 : Hid ((d : Int) / 16777216 = ((d / 16777216 : Nat) : Int)) := by unfold Hid; omega
          have hle : d / 16777216 ≤ 10 := by omega
          clear HVE2 HBN2
          go_wp2_with (at_builtin; refine wpList_append_own_at _ rfl _ _ 81 rfl w.heap.size 3 i1 (.int .i64 0) 1 8 Tryz.underlying81 hi1 hz10 hz11 hz12 rfl (by decide) u7 e2.length (nC e2) rfl (World.ownsRow.alloc HOWN2.out _) ⟨wr.heap.size, 0, none⟩ 1 1 [.int .i64 ((d : Int) % 16777216)] rfl rfl ?c1 ?c2 ?c3 ?c4 ?c5 ?_)
          case c1 => exact new_cells _ _ _
          case c2 => intro u hu; simp at hu; rcases hu with rfl; rfl
          case c3 => unfold maxLen; omega
          case c4 => omega
          case c5 => have := hB2.size; simp; omega
          intro v' w1 hown' hgrow _ _
          have HO2 : Hid (w1.ownsRow w.heap.size 3 1 v' (e2 ++ [d % 16777216]).length (nC (e2 ++ [d % 16777216]))) := by
            unfold Hid
            rw [nC_snoc, List.length_append, ← HC1.out]
            exact hown'
          have HBB : Hid (Below w.heap.size w w1) := below_row ((hB2.alloc hB2.size _)) (by have := hB2.size; simp; omega) (World.ownsRow.alloc HOWN2.out _) hgrow
          clear hown' hgrow
          go_wp2
          go_roundw
          case rel => exact ⟨d / 16777216, e2 ++ [d % 16777216], by rw [← HC2.out], hle, by rw [List.length_append]; exact hbn, okL_snoc HOB2.out (Nat.mod_lt _ (by decide)), by unfold Hid; rw [List.length_append, if_pos HQ.out]; exact hbn, HS2, HO2.out, HBB.out⟩
          case measure => simp [intOf]; omega
end Go.Proofs.YtijnbohjcmcfjaaGreatDoor.R3
