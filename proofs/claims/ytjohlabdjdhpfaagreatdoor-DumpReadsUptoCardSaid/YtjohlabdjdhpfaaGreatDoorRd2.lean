/-
  A line: what it must be; the document's walk.
-/
import Derived.Test.YtjohlabdjdhpfaaGreatDoorRd1
import Derived.Test.YtjohlabdjdhpfaaGreatDoorRef3c
import Derived.Test.YtjohlabdjdhpfaaGreatDoorHex4
import Derived.Test.YtjohlabdjdhpfaaGreatDoorHex2
import Derived.Test.YtjohlabdjdhpfaaGreatDoorRegH
import Derived.Test.YtjohlabdjdhpfaaGreatDoorRefPath2
import Derived.Test.YtjohlabdjdhpfaaGreatDoorLookW4
namespace Go.Proofs.YtjohlabdjdhpfaaGreatDoor.Rd
open Go.RowKit Go.Proofs.YtjohlabdjdhpfaaGreatDoor.Kt Go.Proofs.YtjohlabdjdhpfaaGreatDoor.Lk Go.Proofs.YtjohlabdjdhpfaaGreatDoor.Rw Go.Proofs.YtjohlabdjdhpfaaGreatDoor.Ct Go.Proofs.YtjohlabdjdhpfaaGreatDoor.R3 Go.Proofs.YtjohlabdjdhpfaaGreatDoor.Hx Go.Proofs.YtjohlabdjdhpfaaGreatDoor.Rg Go.Proofs.YtjohlabdjdhpfaaGreatDoor.Bg
set_option linter.unusedSimpArgs false
set_option linter.unusedVariables false
set_option maxRecDepth 100000

/-- a hex text of bytes -/
def hexS (s : ByteArray) : ByteArray := strOfNums (hexZ s s.size)
/-- is a text '-' or a path as it is written? -/
def pathOk (q : ByteArray) : Prop := q = ⟨#[45]⟩ ∨ ((pathR q).2.1 = 0 ∧ (textR (pathR q).1).2 = 0 ∧ (textR (pathR q).1).1 = q ∧ q.size ≠ 0)
/-- a line that begins at a, of the bytes b, up to m -/
def LineYes (s : ByteArray) (a : Nat) (b : ByteArray) (m : Nat) : Prop :=
  ∃ p0 p1 p2 p3 p4, pcs s = [p0, p1, p2, p3, p4] ∧ p0 = dgt a ∧ p1 = dgt m ∧ a < m ∧ p2 ∈ kindsL ∧ pathOk p3 ∧ unhexOk p4 = true ∧ b = unhexS p4 ∧ hexS b = p4 ∧ b.size = m - a
/-- what a line's reading answers -/
def LinePost (s : ByteArray) (a : Nat) (w : World) (e : Ending) (w' : World) : Prop :=
  ((∃ b m, LineYes s a b m ∧ e = .returned (.tuple #[.string b, .int .i64 (m : Int), .bool true])) ∨ ((∀ b m, ¬ LineYes s a b m) ∧ ∃ x y, e = .returned (.tuple #[.string x, .int .i64 y, .bool false]))) ∧ Below w.heap.size w w'
theorem linePost_no {s : ByteArray} {a : Nat} {w w' : World} {x : ByteArray} {y : Int} (h : ∀ b m, ¬ LineYes s a b m) (hb : Below w.heap.size w w') : LinePost s a w (.returned (.tuple #[.string x, .int .i64 y, .bool false])) w' :=
  ⟨.inr ⟨h, x, y, rfl⟩, hb⟩
theorem linePost_yes {s : ByteArray} {a : Nat} {w w' : World} {b : ByteArray} {m : Nat} (h : LineYes s a b m) (hb : Below w.heap.size w w') : LinePost s a w (.returned (.tuple #[.string b, .int .i64 (m : Int), .bool true])) w' :=
  ⟨.inl ⟨b, m, h, rfl⟩, hb⟩
theorem splitL_le (c : UInt8) : ∀ (l : List UInt8) (x : List UInt8), x ∈ splitL c l → x.length ≤ l.length
  | [], x, h => by simp [splitL] at h; rw [h]; exact Nat.le_refl _
  | b :: r, x, h => by
    rw [splitL] at h
    split at h
    · rcases List.mem_cons.1 h with rfl | h
      · exact Nat.zero_le _
      · have := splitL_le c r x h; simp; omega
    · split at h
      · rename_i he; exact absurd he (splitL_ne c r)
      · rename_i y t he
        rcases List.mem_cons.1 h with rfl | h
        · have := splitL_le c r y (by rw [he]; exact List.mem_cons_self ..); simp; omega
        · have := splitL_le c r x (by rw [he]; exact List.mem_cons_of_mem _ h); simp; omega
theorem pcs_le {s x : ByteArray} (h : x ∈ pcs s) : x.size ≤ s.size := by
  unfold pcs at h
  obtain ⟨l, hl, rfl⟩ := List.mem_map.1 h
  have := splitL_le 32 _ l hl
  show l.toArray.size ≤ s.data.size
  simpa using this
theorem five {l : List ByteArray} (h : l.length = 5) : ∃ p0 p1 p2 p3 p4, l = [p0, p1, p2, p3, p4] := by
  match l, h with
  | [p0, p1, p2, p3, p4], _ => exact ⟨p0, p1, p2, p3, p4, rfl⟩

/-- the row of the pieces, as a condition on a world -/
structure LS (g : Nat) (p0 p1 p2 p3 p4 : ByteArray) (w0 w : World) : Prop where
  c0 : w.cell? ⟨g, 0, none⟩ = some (.string p0)
  c1 : w.cell? ⟨g, 1, none⟩ = some (.string p1)
  c2 : w.cell? ⟨g, 2, none⟩ = some (.string p2)
  c3 : w.cell? ⟨g, 3, none⟩ = some (.string p3)
  c4 : w.cell? ⟨g, 4, none⟩ = some (.string p4)
  lt : g < w.heap.size
  bel : Below w0.heap.size w0 w
theorem LS.below {g : Nat} {p0 p1 p2 p3 p4 : ByteArray} {w0 w w' : World} (h : LS g p0 p1 p2 p3 p4 w0 w) (hb : Below w.heap.size w w') : LS g p0 p1 p2 p3 p4 w0 w' :=
  ⟨by rw [hb.cell (p := ⟨g, 0, none⟩) h.lt]; exact h.c0, by rw [hb.cell (p := ⟨g, 1, none⟩) h.lt]; exact h.c1, by rw [hb.cell (p := ⟨g, 2, none⟩) h.lt]; exact h.c2,
   by rw [hb.cell (p := ⟨g, 3, none⟩) h.lt]; exact h.c3, by rw [hb.cell (p := ⟨g, 4, none⟩) h.lt]; exact h.c4, by have := hb.size; have := h.lt; omega, h.bel.trans (hb.mono h.bel.size)⟩
theorem LS.drewN {g : Nat} {p0 p1 p2 p3 p4 : ByteArray} {w0 w : World} (h : LS g p0 p1 p2 p3 p4 w0 w) (n : Nat) : LS g p0 p1 p2 p3 p4 w0 (w.drewN n) := ⟨h.c0, h.c1, h.c2, h.c3, h.c4, h.lt, below_drewN h.bel n⟩
theorem LS.drew {g : Nat} {p0 p1 p2 p3 p4 : ByteArray} {w0 w : World} (h : LS g p0 p1 p2 p3 p4 w0 w) : LS g p0 p1 p2 p3 p4 w0 w.drew := ⟨h.c0, h.c1, h.c2, h.c3, h.c4, h.lt, below_drewN h.bel 1⟩
theorem LS.of_row {w0 w : World} {v : Value} {p0 p1 p2 p3 p4 : ByteArray} (h : w.ownsRow w0.heap.size 9 1 v 5 ([p0, p1, p2, p3, p4].map Value.string)) (hb : Below w0.heap.size w0 w) :
    ∃ g cap, v = .slice (some ⟨g, 0, none⟩) 5 cap ∧ cap ≤ maxLen ∧ 5 ≤ cap ∧ LS g p0 p1 p2 p3 p4 w0 w := by
  obtain ⟨g, cap, rfl, _, hg, h1, h2, hc⟩ := row_shape h (by decide)
  exact ⟨g, cap, rfl, h2, h1, hc 0 _ rfl, hc 1 _ rfl, hc 2 _ rfl, hc 3 _ rfl, hc 4 _ rfl, hg, hb⟩

theorem int3_max (s : ByteArray) (w : World) (hm : s.size ≤ 1048576) : Calls Tryz.prog 20 #[.string s, .int .i64 4611686018427387904] w (IntPost s 4611686018427387904 w) :=
  int3_any s 4611686018427387904 w hm (Nat.le_refl _)
/-- a number's own digits are a number -/
theorem gb_app (a b : ByteArray) {i : Nat} (h : i < a.size) : gb (a ++ b) i = gb a i := by
  have h2 : i < (a ++ b).size := by rw [ByteArray.size_append]; omega
  rw [gb_lt h, gb_lt h2, ByteArray.getElem_append_left h]
theorem digVal_app (a b : ByteArray) : ∀ k, k ≤ a.size → digVal (a ++ b) k = digVal a k
  | 0, _ => rfl
  | k + 1, h => by rw [digVal, digVal, digVal_app a b k (by omega), gb_app a b (by omega)]
theorem gb_one (a : ByteArray) (c : Int) (h0 : 0 ≤ c) (h1 : c < 256) : gb (a ++ strOfNums [c]) a.size = c.toNat := by
  have h2 : a.size < (a ++ strOfNums [c]).size := by rw [ByteArray.size_append, strOfNums_size]; simp
  rw [gb_lt h2, ByteArray.getElem_append_right (Nat.le_refl _)]
  simp only [Nat.sub_self]
  show (UInt8.ofNat c.toNat).toNat = c.toNat
  simp; omega
theorem dgt_all (n : Nat) : 0 < (dgt n).size ∧ (∀ i, i < (dgt n).size → isDig (gb (dgt n) i) = true) ∧ digVal (dgt n) (dgt n).size = n := by
  induction n using Nat.strongRecOn with
  | _ n ih =>
    by_cases h : n < 10
    · have e : dgt n = ⟨#[]⟩ ++ strOfNums [48 + (n : Int)] := by rw [dgt_last h]; exact (ByteArray.empty_append).symm
      have hs : (dgt n).size = 1 := by rw [dgt_last h, strOfNums_size]; rfl
      have hg : gb (dgt n) 0 = 48 + n := by rw [e]; have := gb_one ⟨#[]⟩ (48 + (n : Int)) (by omega) (by omega); simp only [ByteArray.size] at this; rw [show (#[] : Array UInt8).size = 0 from rfl] at this; rw [this]; omega
      rw [hs]
      refine ⟨by decide, fun i hi => ?_, ?_⟩
      · obtain rfl : i = 0 := by omega
        rw [hg]; unfold isDig; simp; omega
      · show 0 * 10 + (gb (dgt n) 0 - 48) = n
        rw [hg]; omega
    · obtain ⟨h1, h2, h3⟩ := ih (n / 10) (by omega)
      have e := dgt_more h
      have hs : (dgt n).size = (dgt (n / 10)).size + 1 := by rw [e, ByteArray.size_append, strOfNums_size]; rfl
      have hg : gb (dgt n) (dgt (n / 10)).size = 48 + n % 10 := by rw [e, gb_one _ _ (by omega) (by omega)]; omega
      rw [hs]
      refine ⟨by omega, fun i hi => ?_, ?_⟩
      · by_cases hi2 : i < (dgt (n / 10)).size
        · rw [e, gb_app _ _ hi2]; exact h2 i hi2
        · obtain rfl : i = (dgt (n / 10)).size := by omega
          rw [hg]; unfold isDig; simp; omega
      · show digVal (dgt n) (dgt (n / 10)).size * 10 + (gb (dgt n) (dgt (n / 10)).size - 48) = n
        rw [hg, e, digVal_app _ _ _ (Nat.le_refl _), h3]; omega
theorem isNum_dgt (m : Nat) (M : Nat) (h : m ≤ M) : isNum (dgt m) M ∧ digVal (dgt m) (dgt m).size = m := by
  obtain ⟨h1, h2, h3⟩ := dgt_all m
  obtain ⟨_, g2, _, g4⟩ := digEnd_spec (dgt m) (dgt m).size 0 rfl (Nat.zero_le _)
  refine ⟨⟨h1, ?_, by rw [h3]; exact h⟩, h3⟩
  rcases Nat.lt_or_ge (digEnd (dgt m) 0) (dgt m).size with hl | hl
  · rw [h2 _ hl] at g4; cases g4
  · omega
theorem hexS_size (b : ByteArray) : (hexS b).size = 2 * b.size := by unfold hexS; rw [strOfNums_size, hexZ_length]
/-- a line's end is not far from its begin -/
theorem LineYes.near {s : ByteArray} {a : Nat} {b : ByteArray} {m : Nat} (h : LineYes s a b m) : a < m ∧ m ≤ a + s.size := by
  obtain ⟨x0, x1, x2, x3, x4, hx, h0, h1, h2, _, _, _, hb, hh, hz⟩ := h
  have h4 : x4.size ≤ s.size := pcs_le (by rw [hx]; simp)
  have := hexS_size b
  rw [hh] at this
  omega

/-- the document's words of the kinds -/
def KS (g : Nat) (w : World) : Prop := (∀ j, j < 6 → w.cell? ⟨g, j, none⟩ = some (.string (kindsL.getD j ByteArray.empty))) ∧ g < w.heap.size
theorem KS.new (w : World) : KS w.heap.size (w.alloc (.cells #[.string ⟨#[104, 101, 97, 100]⟩, .string ⟨#[102, 105, 101, 108, 100]⟩, .string ⟨#[112, 97, 100]⟩, .string ⟨#[100, 105, 109]⟩, .string ⟨#[108, 101, 110, 103, 116, 104]⟩, .string ⟨#[100, 97, 116, 97]⟩] 9)) := by
  refine ⟨fun j hj => ?_, by simp⟩
  refine (Blk.new _ _ _).cell j ?_
  match j, hj with
  | 0, _ => rfl
  | 1, _ => rfl
  | 2, _ => rfl
  | 3, _ => rfl
  | 4, _ => rfl
  | 5, _ => rfl
theorem kinds_take {k : Nat} (h : k < 6) : kindsL.take (k + 1) = kindsL.take k ++ [kindsL.getD k ByteArray.empty] := by
  match k, h with
  | 0, _ => rfl
  | 1, _ => rfl
  | 2, _ => rfl
  | 3, _ => rfl
  | 4, _ => rfl
  | 5, _ => rfl
noncomputable def inL (x : ByteArray) (l : List ByteArray) : Bool := @decide (x ∈ l) (Classical.propDecidable _)
theorem inL_iff {x : ByteArray} {l : List ByteArray} : inL x l = true ↔ x ∈ l := by unfold inL; exact @decide_eq_true_iff _ (Classical.propDecidable _)
theorem inL_nil (x : ByteArray) : inL x [] = false := by
  cases h : inL x [] with
  | false => rfl
  | true => have := inL_iff.1 h; simp at this
noncomputable def pathB (q : ByteArray) : Bool := @decide (pathOk q) (Classical.propDecidable _)
theorem pathB_iff {q : ByteArray} : pathB q = true ↔ pathOk q := by unfold pathB; exact @decide_eq_true_iff _ (Classical.propDecidable _)
theorem rkinds_any (w : World) : Calls Tryz.prog 22 #[] w fun e w' => e = .returned (.slice (some ⟨w.heap.size, 0, none⟩) 6 6) ∧ w' = w.alloc (.cells #[.string ⟨#[104, 101, 97, 100]⟩, .string ⟨#[102, 105, 101, 108, 100]⟩, .string ⟨#[112, 97, 100]⟩, .string ⟨#[100, 105, 109]⟩, .string ⟨#[108, 101, 110, 103, 116, 104]⟩, .string ⟨#[100, 97, 116, 97]⟩] 9) := by
  go_enter Tryz.func22, Tryz.ntmps22
  go_wp2
  go_ret
  exact ⟨rfl, rfl⟩
set_option maxHeartbeats 3200000 in
theorem rline_any (s : ByteArray) (a : Nat) (w : World) (hm : s.size ≤ 1048574) (ha : a ≤ 1099511627776) : Calls Tryz.prog 10 #[.string s, .int .i64 a] w (LinePost s a w) := by
  have HA : Hid (a ≤ 1099511627776) := ha
  go_enter Tryz.func10, Tryz.ntmps10
  go_wp2_with (go_at_call 19; fail)
  refine (cut_any s _ (by omega)).mono ?_
  rintro e w1 ⟨v, rfl, hown, hb1⟩
  by_cases h5 : (pcs s).length = 5
  · obtain ⟨p0, p1, p2, p3, p4, hp⟩ := five h5
    rw [hp] at hown
    have HP : Hid (pcs s = [p0, p1, p2, p3, p4]) := hp
    have s1 : p1.size ≤ 1048576 := Nat.le_trans (pcs_le (by rw [hp]; simp)) (by omega)
    have s3 : p3.size ≤ 1048574 := Nat.le_trans (pcs_le (by rw [hp]; simp)) hm
    have s4 : p4.size ≤ 1048576 := Nat.le_trans (pcs_le (by rw [hp]; simp)) (by omega)
    obtain ⟨g, cap, rfl, hc1, hc2, hLS⟩ := LS.of_row hown hb1
    unfold maxLen at hc1
    have L1 : Hid (LS g p0 p1 p2 p3 p4 w w1) := hLS
    have d1 := hLS.c1
    clear hown hb1 h5 hp hLS
    go_wp2_with (go_at_call 20; fail)
    refine (int3_max p1 _ s1).mono ?_
    rintro e w2 ⟨v1, c1, q1, rfl, hb2, hY, hN⟩
    have L2 : Hid (LS g p0 p1 p2 p3 p4 w w2) := L1.out.below hb2
    clear L1 hb2 d1
    by_cases hc : c1 = 0
    · have hI : isNum p1 4611686018427387904 := Classical.byContradiction fun h => hN h hc
      obtain ⟨_, hv⟩ := hY hI
      obtain ⟨m, hmm⟩ : ∃ m, m = digVal p1 p1.size := ⟨_, rfl⟩
      rw [← hmm] at hv
      subst hc
      subst hv
      have HM : Hid (m = digVal p1 p1.size) := hmm
      have HM2 : Hid (m ≤ 4611686018427387904) := by unfold Hid; rw [hmm]; exact hI.2.2
      obtain ⟨t0, ht0⟩ : ∃ t, t = dgt a := ⟨_, rfl⟩
      obtain ⟨t1, ht1⟩ : ∃ t, t = dgt m := ⟨_, rfl⟩
      have T0 : Hid (t0 = dgt a) := ht0
      have T1 : Hid (t1 = dgt m) := ht1
      have D0 : Hid (∀ w : World, Calls Tryz.prog 21 #[.int .i64 a] w fun e w' => e = .returned (.string t0) ∧ Below w.heap.size w w') := fun w => by rw [ht0]; exact decimal22_any a (by have := HA.out; omega) w
      have D1 : Hid (∀ w : World, Calls Tryz.prog 21 #[.int .i64 m] w fun e w' => e = .returned (.string t1) ∧ Below w.heap.size w w') := fun w => by rw [ht1]; exact decimal22_any m (by have := HM2.out; omega) w
      clear hI hY hN hmm ht0 ht1
      by_cases e0 : p0 = t0
      · have q0 := str_eq e0
        have q0' : (p0.toList != t0.toList) = false := by rw [bne, q0]; rfl
        by_cases e1 : p1 = t1
        · have q1 := str_eq e1
          have q1' : (p1.toList != t1.toList) = false := by rw [bne, q1]; rfl
          have HE0 : Hid (p0 = dgt a) := by unfold Hid; rw [e0]; exact T0.out
          have HE1 : Hid (p1 = dgt m) := by unfold Hid; rw [e1]; exact T1.out
          clear e0 e1
          by_cases e2 : m ≤ a
          · have HNO : Hid (∀ b m, ¬ LineYes s a b m) := by
              rintro b m' hL
              have hn := hL.near
              obtain ⟨x0, x1, x2, x3, x4, hx, h0, h1, h2, h3, h4, h5, h6, h7, h8⟩ := hL
              rw [HP.out] at hx
              injection hx with z0 hx; injection hx with z1 hx; injection hx with z2 hx; injection hx with z3 hx; injection hx with z4 hx
              have hq := (isNum_dgt m' 4611686018427387904 (by have := HA.out; omega)).2
              rw [← h1, ← z1, ← HM.out] at hq
              subst hq
              omega
            go_upto_region 5 with (fail)
            refine wp_region_planH (LS g p0 p1 p2 p3 p4 w) [(some 35, 0), (some 36, 1), (some 37, 2), (some 38, 3), (some 39, 4), (some 40, 5), (some 41, 6), (none, 7), (some 43, 8), (some 44, 9), (some 45, 10), (some 46, 11), (some 47, 12), (some 48, 13), (some 49, 14), (none, 15), (some 51, 16), (some 52, 17), (some 53, 18), (some 54, 19), (some 55, 20), (some 56, 21), (some 57, 22)] (by kernel_rfl) (by kernel_rfl) (fun _ _ d _ _ h => by cases d <;> exact h) (L2.out.drew) ?_
            repeat (first | (refine planH_yes (v := ?_) (a' := ?_) rfl rfl (by rfl) ?_ ?_ ?_; rotate_left; (intro w' hS'; have c0 := hS'.c0; have c1 := hS'.c1; clear hS'; go_simp; with_reducible rfl); rotate_left; (simp only [Act.put, List.setIfInBounds_toArray, List.set_cons_zero, List.set_cons_succ]; rfl)) | (refine planH_no (a' := ?_) rfl rfl (by rfl) ?_ ?_; rotate_left; (simp only [Act.put, List.setIfInBounds_toArray, List.set_cons_zero, List.set_cons_succ]; rfl)))
            refine planH_alone _ _ _ _ ?_
            simp only [picks, List.getElem?_cons_succ, List.getElem?_cons_zero]
            go_wp2_with (go_at_call 21; refine (D0.out _).mono ?_; rintro e w3 ⟨rfl, hb3⟩)
            have L3 : Hid (LS g p0 p1 p2 p3 p4 w w3) := L2.out.drew.below hb3
            refine ⟨L3.out, ?_⟩
            clear hb3
            repeat (first | (refine planH_yes (v := ?_) (a' := ?_) rfl rfl (by rfl) ?_ ?_ ?_; rotate_left; (intro w' hS'; have c0 := hS'.c0; have c1 := hS'.c1; clear hS'; go_simp; with_reducible rfl); rotate_left; (simp only [Act.put, List.setIfInBounds_toArray, List.set_cons_zero, List.set_cons_succ]; rfl)) | (refine planH_no (a' := ?_) rfl rfl (by rfl) ?_ ?_; rotate_left; (simp only [Act.put, List.setIfInBounds_toArray, List.set_cons_zero, List.set_cons_succ]; rfl)))
            refine planH_alone _ _ _ _ ?_
            simp only [picks, List.getElem?_cons_succ, List.getElem?_cons_zero]
            go_wp2_with (go_at_call 21; refine (D1.out _).mono ?_; rintro e w4 ⟨rfl, hb4⟩)
            have L4 : Hid (LS g p0 p1 p2 p3 p4 w w4) := L3.out.below hb4
            refine ⟨L4.out, ?_⟩
            clear hb4
            repeat (first | (refine planH_yes (v := ?_) (a' := ?_) rfl rfl (by rfl) ?_ ?_ ?_; rotate_left; (intro w' hS'; have c0 := hS'.c0; have c1 := hS'.c1; clear hS'; go_simp; with_reducible rfl); rotate_left; (simp only [Act.put, List.setIfInBounds_toArray, List.set_cons_zero, List.set_cons_succ]; rfl)) | (refine planH_no (a' := ?_) rfl rfl (by rfl) ?_ ?_; rotate_left; (simp only [Act.put, List.setIfInBounds_toArray, List.set_cons_zero, List.set_cons_succ]; rfl)))
            refine planH_done ?_
            go_wp2
            go_ret3
            exact linePost_no HNO.out L4.out.bel
          · have e2' : a < m := by omega
            go_upto_region 5 with (fail)
            refine wp_region_planH (LS g p0 p1 p2 p3 p4 w) [(some 35, 0), (some 36, 1), (some 37, 2), (some 38, 3), (some 39, 4), (some 40, 5), (some 41, 6), (none, 7), (some 43, 8), (some 44, 9), (some 45, 10), (some 46, 11), (some 47, 12), (some 48, 13), (some 49, 14), (none, 15), (some 51, 16), (some 52, 17), (some 53, 18), (some 54, 19), (some 55, 20), (some 56, 21), (some 57, 22)] (by kernel_rfl) (by kernel_rfl) (fun _ _ d _ _ h => by cases d <;> exact h) (L2.out.drew) ?_
            repeat (first | (refine planH_yes (v := ?_) (a' := ?_) rfl rfl (by rfl) ?_ ?_ ?_; rotate_left; (intro w' hS'; have c0 := hS'.c0; have c1 := hS'.c1; clear hS'; go_simp; with_reducible rfl); rotate_left; (simp only [Act.put, List.setIfInBounds_toArray, List.set_cons_zero, List.set_cons_succ]; rfl)) | (refine planH_no (a' := ?_) rfl rfl (by rfl) ?_ ?_; rotate_left; (simp only [Act.put, List.setIfInBounds_toArray, List.set_cons_zero, List.set_cons_succ]; rfl)))
            refine planH_alone _ _ _ _ ?_
            simp only [picks, List.getElem?_cons_succ, List.getElem?_cons_zero]
            go_wp2_with (go_at_call 21; refine (D0.out _).mono ?_; rintro e w3 ⟨rfl, hb3⟩)
            have L3 : Hid (LS g p0 p1 p2 p3 p4 w w3) := L2.out.drew.below hb3
            refine ⟨L3.out, ?_⟩
            clear hb3
            repeat (first | (refine planH_yes (v := ?_) (a' := ?_) rfl rfl (by rfl) ?_ ?_ ?_; rotate_left; (intro w' hS'; have c0 := hS'.c0; have c1 := hS'.c1; clear hS'; go_simp; with_reducible rfl); rotate_left; (simp only [Act.put, List.setIfInBounds_toArray, List.set_cons_zero, List.set_cons_succ]; rfl)) | (refine planH_no (a' := ?_) rfl rfl (by rfl) ?_ ?_; rotate_left; (simp only [Act.put, List.setIfInBounds_toArray, List.set_cons_zero, List.set_cons_succ]; rfl)))
            refine planH_alone _ _ _ _ ?_
            simp only [picks, List.getElem?_cons_succ, List.getElem?_cons_zero]
            go_wp2_with (go_at_call 21; refine (D1.out _).mono ?_; rintro e w4 ⟨rfl, hb4⟩)
            have L4 : Hid (LS g p0 p1 p2 p3 p4 w w4) := L3.out.below hb4
            refine ⟨L4.out, ?_⟩
            clear hb4
            repeat (first | (refine planH_yes (v := ?_) (a' := ?_) rfl rfl (by rfl) ?_ ?_ ?_; rotate_left; (intro w' hS'; have c0 := hS'.c0; have c1 := hS'.c1; clear hS'; go_simp; with_reducible rfl); rotate_left; (simp only [Act.put, List.setIfInBounds_toArray, List.set_cons_zero, List.set_cons_succ]; rfl)) | (refine planH_no (a' := ?_) rfl rfl (by rfl) ?_ ?_; rotate_left; (simp only [Act.put, List.setIfInBounds_toArray, List.set_cons_zero, List.set_cons_succ]; rfl)))
            refine planH_done ?_
            go_wp2_with (go_at_call 22; fail)
            refine (rkinds_any _).mono ?_
            rintro e w5 ⟨rfl, rfl⟩
            have L5 : Hid (LS g p0 p1 p2 p3 p4 w (w4.alloc (.cells #[.string ⟨#[104, 101, 97, 100]⟩, .string ⟨#[102, 105, 101, 108, 100]⟩, .string ⟨#[112, 97, 100]⟩, .string ⟨#[100, 105, 109]⟩, .string ⟨#[108, 101, 110, 103, 116, 104]⟩, .string ⟨#[100, 97, 116, 97]⟩] 9))) := L4.out.below ((Below.refl _ _).alloc (Nat.le_refl _) _)
            obtain ⟨gk, hgk⟩ : ∃ gk, gk = w4.heap.size := ⟨_, rfl⟩
            rw [← hgk]
            have K5 : Hid (KS gk (w4.alloc (.cells #[.string ⟨#[104, 101, 97, 100]⟩, .string ⟨#[102, 105, 101, 108, 100]⟩, .string ⟨#[112, 97, 100]⟩, .string ⟨#[100, 105, 109]⟩, .string ⟨#[108, 101, 110, 103, 116, 104]⟩, .string ⟨#[100, 97, 116, 97]⟩] 9))) := by rw [hgk]; exact KS.new w4
            clear hgk L4 L3 L2
            generalize (w4.alloc (.cells #[.string ⟨#[104, 101, 97, 100]⟩, .string ⟨#[102, 105, 101, 108, 100]⟩, .string ⟨#[112, 97, 100]⟩, .string ⟨#[100, 105, 109]⟩, .string ⟨#[108, 101, 110, 103, 116, 104]⟩, .string ⟨#[100, 97, 116, 97]⟩] 9)) = w5 at L5 K5 ⊢
            go_wp2
            go_loopw [11, 13] (fun kv iv wr => ∃ k : Nat, iv = .int .i64 k ∧ k ≤ 6 ∧ kv = .bool (inL p2 (kindsL.take k)) ∧ Hid (LS g p0 p1 p2 p3 p4 w wr) ∧ Hid (KS gk wr)) (fun _ iv _ => 6 - (intOf iv).toNat)
            case atStart => exact ⟨0, rfl, by omega, by rw [List.take_zero, inL_nil], L5, K5⟩
            case round => as_aux_lemma =>
              clear L5 K5
              obtain ⟨k, rfl, hk, rfl, HL, HK⟩ := hrel
              by_cases hlt : k < 6
              · have ck := HK.out.1 k hlt
                have c2 := HL.out.c2
                have HT : Hid (kindsL.take (k + 1) = kindsL.take k ++ [kindsL.getD k ByteArray.empty]) := kinds_take hlt
                obtain ⟨x, hx⟩ : ∃ x, x = kindsL.getD k ByteArray.empty := ⟨_, rfl⟩
                rw [← hx] at ck
                have HX : Hid (kindsL.take (k + 1) = kindsL.take k ++ [x]) := by unfold Hid; rw [hx]; exact HT.out
                clear hx HT
                obtain ⟨K, hK⟩ : ∃ K, K = inL p2 (kindsL.take k) := ⟨_, rfl⟩
                rw [← hK]
                cases K with
                | true =>
                  have HN : Hid (inL p2 (kindsL.take (k + 1)) = true) := by unfold Hid; rw [HX.out, inL_iff]; exact List.mem_append_left _ (inL_iff.1 hK.symm)
                  clear hK
                  go_wp2
                  go_big_quiet (fail)
                  go_wp2
                  go_roundw
                  case rel => exact ⟨k + 1, by go_num, by omega, by rw [HN.out], HL.out.drewN _, HK.out⟩
                  case measure => simp [intOf]; omega
                | false =>
                  have hnot : ¬ p2 ∈ kindsL.take k := fun h => by rw [inL_iff.2 h] at hK; cases hK
                  by_cases hxx : x = p2
                  · have HN : Hid (inL p2 (kindsL.take (k + 1)) = true) := by unfold Hid; rw [HX.out, hxx, inL_iff]; simp
                    have qx := str_eq hxx
                    clear hK hxx hnot
                    go_wp2
                    go_big_quiet (fail)
                    go_wp2
                    go_roundw
                    case rel => exact ⟨k + 1, by go_num, by omega, by rw [HN.out], HL.out.drewN _, HK.out⟩
                    case measure => simp [intOf]; omega
                  · have HN : Hid (inL p2 (kindsL.take (k + 1)) = false) := by
                      unfold Hid
                      cases hc : inL p2 (kindsL.take (k + 1)) with
                      | false => rfl
                      | true =>
                        have h := inL_iff.1 hc
                        rw [HX.out] at h
                        rcases List.mem_append.1 h with h | h
                        · exact absurd h hnot
                        · exact absurd (List.mem_singleton.1 h).symm hxx
                    have qx := str_ne hxx
                    clear hK hxx hnot
                    go_wp2
                    go_big_quiet (fail)
                    go_wp2
                    go_roundw
                    case rel => exact ⟨k + 1, by go_num, by omega, by rw [HN.out], HL.out.drewN _, HK.out⟩
                    case measure => simp [intOf]; omega
              · obtain rfl : k = 6 := by omega
                have HTT : Hid (kindsL.take 6 = kindsL) := rfl
                rw [HTT.out]
                obtain ⟨K, hK⟩ : ∃ K, K = inL p2 kindsL := ⟨_, rfl⟩
                have HKK : Hid (K = inL p2 kindsL) := hK
                rw [← hK]
                clear hK HTT HK
                have c3 := HL.out.c3
                obtain ⟨PB, hPB⟩ : ∃ PB, PB = pathB p3 := ⟨_, rfl⟩
                have HPB : Hid (PB = pathB p3) := hPB
                clear hPB
                go_upto_if 79 with (fail)
                go_cut [11, 14, 15, 16, 17, 18] (fun a11 a14 a15 a16 a17 a18 wx => a11 = .bool (K && PB) ∧ LS g p0 p1 p2 p3 p4 w wx)
                case first => as_aux_lemma =>
                  by_cases h3 : p3 = ⟨#[45]⟩
                  · have HY : Hid (PB = true) := by unfold Hid; rw [HPB.out, pathB_iff]; exact .inl h3
                    have q3 : (p3.toList != [45]) = false := by rw [h3, Lib.toList_data]; rfl
                    have q3'' : (p3.toList == [45]) = true := by rw [h3, Lib.toList_data]; rfl
                    clear h3 q3
                    rw [q3'']
                    clear q3''
                    go_wp2
                    go_meet
                    exact ⟨by rw [HY.out, Bool.and_true], HL.out⟩
                  · have q3' : (p3.toList != (⟨#[45]⟩ : ByteArray).toList) = true := by rw [bne, str_ne h3]; rfl
                    have q3 : (p3.toList != [45]) = true := by rw [← q3', Lib.toList_data (⟨#[45]⟩ : ByteArray)]
                    have q3'' : (p3.toList == [45]) = false := by rw [bne] at q3; simpa using q3
                    clear q3' q3
                    rw [q3'']
                    clear q3''
                    have HP3 : Hid (p3 ≠ ⟨#[45]⟩) := h3
                    clear h3
                    go_wp2_with (go_at_call 23; fail)
                    refine (rpath_any p3 _ (by omega)).mono ?_
                    rintro e w6 ⟨vp, rfl, hown6, hb6⟩
                    have L6 : Hid (LS g p0 p1 p2 p3 p4 w w6) := HL.out.below hb6
                    have HR6 : Hid (Reads w6 vp (pathR p3).1) := Reads.of_row hown6
                    have hbd := pathR_bd p3
                    have HB1 : Hid ((pathR p3).1.length ≤ 1048576) := by have := hbd.1; unfold Hid; omega
                    have HB2 : Hid (∀ x ∈ (pathR p3).1, x.1.size ≤ 1048576) := fun x hx => Nat.le_trans (hbd.2 x hx) (by omega)
                    clear hbd hown6 hb6 c3
                    go_wp2_with (go_at_call 24; fail)
                    refine (rtext_any vp (pathR p3).1 _ HB1.out HB2.out HR6.out).mono ?_
                    rintro e w7 ⟨rfl, hb7⟩
                    have L7 : Hid (LS g p0 p1 p2 p3 p4 w w7) := L6.out.below hb7
                    have c3 := L7.out.c3
                    obtain ⟨pe, hpe⟩ : ∃ x, x = (pathR p3).2.1 := ⟨_, rfl⟩
                    obtain ⟨te, hte⟩ : ∃ x, x = (textR (pathR p3).1).2 := ⟨_, rfl⟩
                    obtain ⟨tt, htt⟩ : ∃ x, x = (textR (pathR p3).1).1 := ⟨_, rfl⟩
                    have HQ : Hid (PB = true ↔ pe = 0 ∧ te = 0 ∧ tt = p3 ∧ p3.size ≠ 0) := by
                      unfold Hid
                      rw [HPB.out, pathB_iff, hpe, hte, htt]
                      exact ⟨fun h => h.resolve_left HP3.out, .inr⟩
                    rw [← hpe, ← hte, ← htt]
                    clear hpe hte htt hb7 HR6 HB1 HB2 L6 HL
                    have NOPB : ∀ {P : Prop}, (PB = true → P) → ¬ P → Hid ((K && PB) = false) := fun {P} h1 h2 => by
                      unfold Hid
                      cases hp : PB with
                      | false => exact Bool.and_false _
                      | true => exact absurd (h1 hp) h2
                    cases K with
                    | false =>
                      clear NOPB
                      go_wp2
                      go_meet
                      exact ⟨rfl, L7.out⟩
                    | true =>
                      by_cases h1 : pe = 0
                      · by_cases h2 : te = 0
                        · by_cases h3 : tt = p3
                          · have x3 := str_eq h3
                            by_cases h4 : p3.size = 0
                            · have HF := NOPB (P := p3.size ≠ 0) (fun h => (HQ.out.1 h).2.2.2) (fun h => h h4)
                              have he : tt = ⟨#[]⟩ := by rw [h3]; exact empty_of_size h4
                              have he1 : tt.toList.isEmpty = true := by rw [he, Lib.toList_data]; rfl
                              have he2 : (tt.toList != []) = false := by rw [he, Lib.toList_data]; rfl
                              have he3 : (tt.toList == []) = true := by rw [he, Lib.toList_data]; rfl
                              clear NOPB h3 h4 he
                              subst h1 h2
                              go_wp2
                              go_meet
                              exact ⟨by rw [HF.out], L7.out⟩
                            · have HY : Hid (PB = true) := HQ.out.2 ⟨h1, h2, h3, h4⟩
                              have he1 : tt.toList.isEmpty = false := isEmpty_false (by rw [h3]; exact h4)
                              have he2 : (tt.toList != []) = true := by
                                cases hl : tt.toList with
                                | nil => rw [hl] at he1; cases he1
                                | cons => rfl
                              have he3 : (tt.toList == []) = false := by rw [bne] at he2; simpa using he2
                              clear NOPB
                              subst h1 h2
                              clear h3 h4
                              go_wp2
                              go_meet
                              exact ⟨by rw [HY.out]; rfl, L7.out⟩
                          · have HF := NOPB (P := tt = p3) (fun h => (HQ.out.1 h).2.2.1) h3
                            have x3 := str_ne h3
                            clear NOPB h3
                            subst h1 h2
                            go_wp2
                            go_meet
                            exact ⟨by rw [HF.out], L7.out⟩
                        · have HF := NOPB (P := te = 0) (fun h => (HQ.out.1 h).2.1) h2
                          have x2 : (((te : Nat) : Int) == 0) = false := by rw [beq_eq_false_iff_ne]; omega
                          clear NOPB h2
                          subst h1
                          go_wp2
                          go_meet
                          exact ⟨by rw [HF.out], L7.out⟩
                      · have HF := NOPB (P := pe = 0) (fun h => (HQ.out.1 h).1) h1
                        have x2 : (((pe : Nat) : Int) == 0) = false := by rw [beq_eq_false_iff_ne]; omega
                        clear NOPB h1
                        go_wp2
                        go_meet
                        exact ⟨by rw [HF.out], L7.out⟩
                case rest =>
                obtain ⟨rfl, L8⟩ := hcut
                have HL8 : Hid (LS g p0 p1 p2 p3 p4 w wc) := L8
                clear L8
                obtain ⟨KB, hKB⟩ : ∃ KB, KB = (K && PB) := ⟨_, rfl⟩
                have HKB : Hid (KB = true ↔ p2 ∈ kindsL ∧ pathOk p3) := by
                  unfold Hid
                  rw [hKB, Bool.and_eq_true, HKK.out, HPB.out, inL_iff, pathB_iff]
                rw [← hKB]
                clear hKB HKK HPB HL c3
                have c4 := HL8.out.c4
                go_wp2_with (go_at_call 25; fail)
                refine (runhex_any p4 _ s4).mono ?_
                rintro e w9 ⟨v, c, q, rfl, hb9, hvs, hy, hn⟩
                have L9 : Hid (LS g p0 p1 p2 p3 p4 w w9) := HL8.out.below hb9
                have HYY : Hid (unhexOk p4 = true → c = 0 ∧ v = unhexS p4) := hy
                have HNN : Hid (unhexOk p4 = false → c ≠ 0) := hn
                clear HL8 hb9 hy hn c4
                go_wp2_with (go_at_call 26; fail)
                refine (rhex_any v _ (by omega)).mono ?_
                rintro e w10 ⟨rfl, hb10⟩
                have L10 : Hid (LS g p0 p1 p2 p3 p4 w w10) := L9.out.below hb10
                have c4 := L10.out.c4
                obtain ⟨t4, ht4⟩ : ∃ t, t = hexS v := ⟨_, rfl⟩
                have HT4 : Hid (t4 = hexS v) := ht4
                have ht5 : strOfNums (hexZ v v.size) = t4 := ht4.symm
                rw [ht5]
                clear ht4 ht5 L9 hb10
                have ha2 : (a : Int) ≤ 1099511627776 := by omega
                have hw : IntKind.i64.wrap ((m : Int) - (a : Int)) = (m : Int) - (a : Int) := IntWalk.i64_in _ (by have := HM2.out; omega)
                cases KB with
                | false =>
                  have HNO : Hid (∀ b m, ¬ LineYes s a b m) := by
                    rintro b m' hL
                    have hn := hL.near
                    obtain ⟨x0, x1, x2, x3, x4, hx, h0, h1, h2, h3, h4, h5, h6, h7, h8⟩ := hL
                    rw [HP.out] at hx
                    injection hx with z0 hx; injection hx with z1 hx; injection hx with z2 hx; injection hx with z3 hx; injection hx with z4 hx
                    have hq := (isNum_dgt m' 4611686018427387904 (by have := HA.out; omega)).2
                    rw [← h1, ← z1, ← HM.out] at hq
                    subst hq
                    subst z2 z3 z4
                    have := HKB.out.2 ⟨h3, h4⟩
                    cases this
                  go_wp2
                  go_ret3
                  exact linePost_no HNO.out L10.out.bel
                | true =>
                  have HK2 := HKB.out.1 rfl
                  by_cases hc : c = 0
                  · have hu : unhexOk p4 = true := by
                      cases h : unhexOk p4 with
                      | true => rfl
                      | false => exact absurd hc (HNN.out h)
                    have HV : Hid (v = unhexS p4) := (HYY.out hu).2
                    have HUU : Hid (unhexOk p4 = true) := hu
                    subst hc
                    clear hu
                    by_cases g4 : t4 = p4
                    · have x4 := str_eq g4
                      by_cases hz : v.size = m - a
                      · have HLY : Hid (LineYes s a v m) := ⟨p0, p1, p2, p3, p4, HP.out, HE0.out, HE1.out, e2', HK2.1, HK2.2, HUU.out, HV.out, by rw [← HT4.out, g4], hz⟩
                        have hz2 : (((v.size : Nat) : Int) == (m : Int) - (a : Int)) = true := by rw [beq_iff_eq]; omega
                        clear g4 hz HK2
                        go_wp2
                        go_ret3
                        exact linePost_yes HLY.out L10.out.bel
                      · have HNO : Hid (∀ b m, ¬ LineYes s a b m) := by
                          rintro b m' hL
                          have hn := hL.near
                          obtain ⟨x0, x1, x2, x3, x4, hx, h0, h1, h2, h3, h4, h5, h6, h7, h8⟩ := hL
                          rw [HP.out] at hx
                          injection hx with z0 hx; injection hx with z1 hx; injection hx with z2 hx; injection hx with z3 hx; injection hx with z4 hx
                          have hq := (isNum_dgt m' 4611686018427387904 (by have := HA.out; omega)).2
                          rw [← h1, ← z1, ← HM.out] at hq
                          subst hq
                          subst z2 z3 z4
                          apply hz
                          rw [HV.out, ← h6]; exact h8
                        have hz2 : (((v.size : Nat) : Int) == (m : Int) - (a : Int)) = false := by rw [beq_eq_false_iff_ne]; omega
                        clear g4 hz HK2
                        go_wp2
                        go_ret3
                        exact linePost_no HNO.out L10.out.bel
                    · have HNO : Hid (∀ b m, ¬ LineYes s a b m) := by
                        rintro b m' hL
                        have hn := hL.near
                        obtain ⟨x0, x1, x2, x3, x4, hx, h0, h1, h2, h3, h4, h5, h6, h7, h8⟩ := hL
                        rw [HP.out] at hx
                        injection hx with z0 hx; injection hx with z1 hx; injection hx with z2 hx; injection hx with z3 hx; injection hx with z4 hx
                        have hq := (isNum_dgt m' 4611686018427387904 (by have := HA.out; omega)).2
                        rw [← h1, ← z1, ← HM.out] at hq
                        subst hq
                        subst z2 z3 z4
                        apply g4
                        rw [HT4.out, HV.out, ← h6]; exact h7
                      have x4 := str_ne g4
                      clear g4 HK2
                      go_wp2
                      go_ret3
                      exact linePost_no HNO.out L10.out.bel
                  · have HNO : Hid (∀ b m, ¬ LineYes s a b m) := by
                      rintro b m' hL
                      have hn := hL.near
                      obtain ⟨x0, x1, x2, x3, x4, hx, h0, h1, h2, h3, h4, h5, h6, h7, h8⟩ := hL
                      rw [HP.out] at hx
                      injection hx with z0 hx; injection hx with z1 hx; injection hx with z2 hx; injection hx with z3 hx; injection hx with z4 hx
                      have hq := (isNum_dgt m' 4611686018427387904 (by have := HA.out; omega)).2
                      rw [← h1, ← z1, ← HM.out] at hq
                      subst hq
                      subst z2 z3 z4
                      exact hc (HYY.out h5).1
                    have hc2 : (c == 0) = false := by rw [beq_eq_false_iff_ne]; exact hc
                    clear hc HK2
                    go_wp2
                    go_ret3
                    exact linePost_no HNO.out L10.out.bel
        · have HNO : Hid (∀ b m, ¬ LineYes s a b m) := by
            rintro b m' hL
            have hn := hL.near
            obtain ⟨x0, x1, x2, x3, x4, hx, h0, h1, h2, _⟩ := hL
            rw [HP.out] at hx
            injection hx with z0 hx; injection hx with z1 hx
            have hq := (isNum_dgt m' 4611686018427387904 (by have := HA.out; omega)).2
            rw [← h1, ← z1, ← HM.out] at hq
            subst hq
            exact e1 (by rw [T1.out, z1, h1])
          have q1 := str_ne e1
          have q1' : (p1.toList != t1.toList) = true := by rw [bne, q1]; rfl
          clear e0 e1
          go_upto_region 5 with (fail)
          refine wp_region_planH (LS g p0 p1 p2 p3 p4 w) [(some 35, 0), (some 36, 1), (some 37, 2), (some 38, 3), (some 39, 4), (some 40, 5), (some 41, 6), (none, 7), (some 43, 8), (some 44, 9), (some 45, 10), (some 46, 11), (some 47, 12), (some 48, 13), (some 49, 14), (none, 15), (some 51, 16), (some 52, 17), (some 53, 18), (some 54, 19), (some 55, 20), (some 56, 21), (some 57, 22)] (by kernel_rfl) (by kernel_rfl) (fun _ _ d _ _ h => by cases d <;> exact h) (L2.out.drew) ?_
          repeat (first | (refine planH_yes (v := ?_) (a' := ?_) rfl rfl (by rfl) ?_ ?_ ?_; rotate_left; (intro w' hS'; have c0 := hS'.c0; have c1 := hS'.c1; clear hS'; go_simp; with_reducible rfl); rotate_left; (simp only [Act.put, List.setIfInBounds_toArray, List.set_cons_zero, List.set_cons_succ]; rfl)) | (refine planH_no (a' := ?_) rfl rfl (by rfl) ?_ ?_; rotate_left; (simp only [Act.put, List.setIfInBounds_toArray, List.set_cons_zero, List.set_cons_succ]; rfl)))
          refine planH_alone _ _ _ _ ?_
          simp only [picks, List.getElem?_cons_succ, List.getElem?_cons_zero]
          go_wp2_with (go_at_call 21; refine (D0.out _).mono ?_; rintro e w3 ⟨rfl, hb3⟩)
          have L3 : Hid (LS g p0 p1 p2 p3 p4 w w3) := L2.out.drew.below hb3
          refine ⟨L3.out, ?_⟩
          clear hb3
          repeat (first | (refine planH_yes (v := ?_) (a' := ?_) rfl rfl (by rfl) ?_ ?_ ?_; rotate_left; (intro w' hS'; have c0 := hS'.c0; have c1 := hS'.c1; clear hS'; go_simp; with_reducible rfl); rotate_left; (simp only [Act.put, List.setIfInBounds_toArray, List.set_cons_zero, List.set_cons_succ]; rfl)) | (refine planH_no (a' := ?_) rfl rfl (by rfl) ?_ ?_; rotate_left; (simp only [Act.put, List.setIfInBounds_toArray, List.set_cons_zero, List.set_cons_succ]; rfl)))
          refine planH_alone _ _ _ _ ?_
          simp only [picks, List.getElem?_cons_succ, List.getElem?_cons_zero]
          go_wp2_with (go_at_call 21; refine (D1.out _).mono ?_; rintro e w4 ⟨rfl, hb4⟩)
          have L4 : Hid (LS g p0 p1 p2 p3 p4 w w4) := L3.out.below hb4
          refine ⟨L4.out, ?_⟩
          clear hb4
          repeat (first | (refine planH_yes (v := ?_) (a' := ?_) rfl rfl (by rfl) ?_ ?_ ?_; rotate_left; (intro w' hS'; have c0 := hS'.c0; have c1 := hS'.c1; clear hS'; go_simp; with_reducible rfl); rotate_left; (simp only [Act.put, List.setIfInBounds_toArray, List.set_cons_zero, List.set_cons_succ]; rfl)) | (refine planH_no (a' := ?_) rfl rfl (by rfl) ?_ ?_; rotate_left; (simp only [Act.put, List.setIfInBounds_toArray, List.set_cons_zero, List.set_cons_succ]; rfl)))
          refine planH_done ?_
          go_wp2
          go_ret3
          exact linePost_no HNO.out L4.out.bel
      · have HNO : Hid (∀ b m, ¬ LineYes s a b m) := by
          rintro b m' hL
          have hn := hL.near
          obtain ⟨x0, x1, x2, x3, x4, hx, h0, h1, h2, _⟩ := hL
          rw [HP.out] at hx
          injection hx with z0 hx; injection hx with z1 hx
          have hq := (isNum_dgt m' 4611686018427387904 (by have := HA.out; omega)).2
          rw [← h1, ← z1, ← HM.out] at hq
          subst hq
          exact e0 (by rw [T0.out, z0, h0])
        have q0 := str_ne e0
        have q0' : (p0.toList != t0.toList) = true := by rw [bne, q0]; rfl
        clear e0
        go_upto_region 5 with (fail)
        refine wp_region_planH (LS g p0 p1 p2 p3 p4 w) [(some 35, 0), (some 36, 1), (some 37, 2), (some 38, 3), (some 39, 4), (some 40, 5), (some 41, 6), (none, 7), (some 43, 8), (some 44, 9), (some 45, 10), (some 46, 11), (some 47, 12), (some 48, 13), (some 49, 14), (none, 15), (some 51, 16), (some 52, 17), (some 53, 18), (some 54, 19), (some 55, 20), (some 56, 21), (some 57, 22)] (by kernel_rfl) (by kernel_rfl) (fun _ _ d _ _ h => by cases d <;> exact h) (L2.out.drew) ?_
        repeat (first | (refine planH_yes (v := ?_) (a' := ?_) rfl rfl (by rfl) ?_ ?_ ?_; rotate_left; (intro w' hS'; have c0 := hS'.c0; have c1 := hS'.c1; clear hS'; go_simp; with_reducible rfl); rotate_left; (simp only [Act.put, List.setIfInBounds_toArray, List.set_cons_zero, List.set_cons_succ]; rfl)) | (refine planH_no (a' := ?_) rfl rfl (by rfl) ?_ ?_; rotate_left; (simp only [Act.put, List.setIfInBounds_toArray, List.set_cons_zero, List.set_cons_succ]; rfl)))
        refine planH_alone _ _ _ _ ?_
        simp only [picks, List.getElem?_cons_succ, List.getElem?_cons_zero]
        go_wp2_with (go_at_call 21; refine (D0.out _).mono ?_; rintro e w3 ⟨rfl, hb3⟩)
        have L3 : Hid (LS g p0 p1 p2 p3 p4 w w3) := L2.out.drew.below hb3
        refine ⟨L3.out, ?_⟩
        clear hb3
        repeat (first | (refine planH_yes (v := ?_) (a' := ?_) rfl rfl (by rfl) ?_ ?_ ?_; rotate_left; (intro w' hS'; have c0 := hS'.c0; have c1 := hS'.c1; clear hS'; go_simp; with_reducible rfl); rotate_left; (simp only [Act.put, List.setIfInBounds_toArray, List.set_cons_zero, List.set_cons_succ]; rfl)) | (refine planH_no (a' := ?_) rfl rfl (by rfl) ?_ ?_; rotate_left; (simp only [Act.put, List.setIfInBounds_toArray, List.set_cons_zero, List.set_cons_succ]; rfl)))
        refine planH_alone _ _ _ _ ?_
        simp only [picks, List.getElem?_cons_succ, List.getElem?_cons_zero]
        go_wp2
        have L4 : Hid (LS g p0 p1 p2 p3 p4 w w3) := L3.out
        refine ⟨L4.out, ?_⟩
        repeat (first | (refine planH_yes (v := ?_) (a' := ?_) rfl rfl (by rfl) ?_ ?_ ?_; rotate_left; (intro w' hS'; have c0 := hS'.c0; have c1 := hS'.c1; clear hS'; go_simp; with_reducible rfl); rotate_left; (simp only [Act.put, List.setIfInBounds_toArray, List.set_cons_zero, List.set_cons_succ]; rfl)) | (refine planH_no (a' := ?_) rfl rfl (by rfl) ?_ ?_; rotate_left; (simp only [Act.put, List.setIfInBounds_toArray, List.set_cons_zero, List.set_cons_succ]; rfl)))
        refine planH_done ?_
        go_wp2
        go_ret3
        exact linePost_no HNO.out L4.out.bel
    · have HNO : Hid (∀ b m, ¬ LineYes s a b m) := by
        rintro b m hL
        have hn := hL.near
        obtain ⟨x0, x1, x2, x3, x4, hx, h0, h1, _⟩ := hL
        rw [HP.out] at hx
        injection hx with e0 hx; injection hx with e1 hx
        have hq := (isNum_dgt m 4611686018427387904 (by have := HA.out; omega)).1
        rw [← h1, ← e1] at hq
        exact hc (hY hq).1
      have hcn : (c1 == 0) = false := by simpa using hc
      have hcn2 : (c1 != 0) = true := by simpa using hc
      clear hc hY hN
      go_wp2
      go_big_quiet (fail)
      go_wp2
      go_ret3
      exact linePost_no HNO.out (below_drewN L2.out.bel _)
  · have HNO : Hid (∀ b m, ¬ LineYes s a b m) := by
      rintro b m ⟨x0, x1, x2, x3, x4, hx, _⟩
      rw [hx] at h5; exact h5 rfl
    have hl := pcs_length s
    have hne : (((pcs s).length : Int) == 5) = false := by simp; omega
    have hne2 : (((pcs s).length : Int) != 5) = true := by simp; omega
    rcases hown.2 with ⟨rfl, h0⟩ | ⟨g, cap, cur, rfl, _⟩
    · exact absurd h0 (by rw [pcs_len]; omega)
    · clear hown h5
      go_wp2
      go_ret3
      exact linePost_no HNO.out hb1
end Go.Proofs.YtjohlabdjdhpfaaGreatDoor.Rd
