/-
  Walks: number.Parse at the types of whole numbers.
-/
import Derived.Test.YtijnbohjcmcfjaaGreatDoorLNum3
import Derived.Test.YtijnbohjcmcfjaaGreatDoorLSplit
import Derived.Test.YtijnbohjcmcfjaaGreatDoorLSc10
namespace Go.Proofs.YtijnbohjcmcfjaaGreatDoor.Nu
open Go.RowKit Go.Proofs.YtijnbohjcmcfjaaGreatDoor.Kt Go.Proofs.YtijnbohjcmcfjaaGreatDoor.Lk
set_option linter.unusedSimpArgs false
set_option linter.unusedVariables false
set_option maxRecDepth 100000

theorem sizeOf_pos {p : Nat} (hp : isInt p) : 0 < sizeOf p := by
  obtain ⟨h1, h8⟩ := hp
  have : ∀ q, q < 9 → 1 ≤ q → 0 < sizeOf q := by decide
  exact this p (by omega) h1
theorem isPrim_any (p : Nat) (hp : isInt p) (w : World) (h : Sizes w) : Calls Tryz.prog 44 #[.int .i64 p] w fun e w' => e = .returned (.bool true) ∧ Below w.heap.size w w' := by
  have hs := sizeOf_pos hp
  go_enter Tryz.func44, Tryz.ntmps44
  go_wp2_with (go_at_call 62; fail)
  refine (size_any p hp _ h).mono ?_
  rintro e w1 ⟨rfl, hb⟩
  go_wp2
  go_ret
  exact ⟨ret_bool (by simp), hb⟩
theorem kindOf_any (p : Nat) (hp : isInt p) (w : World) : Calls Tryz.prog 64 #[.int .i64 p] w fun e w' => e = .returned (.agg #[.func (.func 99) #[] #[], .func (.func 100) #[] #[]]) ∧ Below w.heap.size w w' := by
  obtain ⟨h1, h8⟩ := hp
  have d0 : (((p : Nat) : Int) == 0) = false := by simp; omega
  have d9 : (((p : Nat) : Int) == 9) = false := by simp; omega
  have d10 : (((p : Nat) : Int) == 10) = false := by simp; omega
  go_enter Tryz.func64, Tryz.ntmps64
  go_wp2
  refine ret_cellG (cs := #[.func (.func 99) #[] #[], .func (.func 100) #[] #[]]) (t := 94) rfl Tryz.underlying94 rfl (by kernel_rfl) rfl rfl ?_ ⟨rfl, (Below.refl _ _).alloc (Nat.le_refl _) _⟩
  exact Blk.new _ _ _
theorem parse_any (p : Nat) (hp : isInt p) (s : ByteArray) (w : World) (h : Sizes w) (hm : s.size ≤ 1099511627776) :
    Calls Tryz.prog 84 #[.int .i64 p, .string s] w fun e w' => e = .returned (pwV (pwOf p s)) ∧ Below w.heap.size w w' := by
  go_enter Tryz.func84, Tryz.ntmps84
  go_wp2_with (go_at_call 44; fail)
  refine (isPrim_any p hp _ h).mono ?_
  rintro e w1 ⟨rfl, b1⟩
  have h1 := h.below b1
  go_wp2_with (go_at_call 64; fail)
  refine (kindOf_any p hp _).mono ?_
  rintro e w2 ⟨rfl, b2⟩
  have h2 := h1.below b2
  have hfd : ∀ w : World, (Instr.field 94 (.agg #[.func (.func 99) #[] #[], .func (.func 100) #[] #[]]) 0).run Tryz.prog w = .ok (.func (.func 99) #[] #[]) w := fun _ => by kernel_rfl
  go_wp2_with (go_at_call 99; fail)
  clear hfd
  refine (parseWhole_any p hp s _ h2 hm).mono ?_
  rintro e w3 ⟨rfl, b3⟩
  have hb := (b1.trans (b2.mono b1.size)).trans (b3.mono (b1.trans (b2.mono b1.size)).size)
  unfold pwV
  go_wp2
  go_ret3
  exact ⟨rfl, hb⟩

end Go.Proofs.YtijnbohjcmcfjaaGreatDoor.Nu
/-
  Walks: package number's decimal: a word's digits, written from the last to the first into an array.
-/
namespace Go.Proofs.YtijnbohjcmcfjaaGreatDoor.Sc
open Go.RowKit Go.Proofs.YtijnbohjcmcfjaaGreatDoor.Kt Go.Proofs.YtijnbohjcmcfjaaGreatDoor.Lk
open Go.Proofs.YtijnbohjcmcfjaaGreatDoor.Nu (dgt)
set_option linter.unusedSimpArgs false
set_option linter.unusedVariables false
set_option maxRecDepth 100000

theorem str_cons (a : Int) (t : List Int) : strOfNums (a :: t) = strOfNums [a] ++ strOfNums t := by
  apply L_inj
  rw [L_app]; rfl
/-- the array behind some digits -/
structure DecAt (g i : Nat) (t : List Int) (w : World) : Prop where
  cells : ∃ cs : Array Value, cs.size = 20 ∧ Blk w g cs 191 ∧ ∀ j, j < t.length → cs[i + j]? = some (.int .u8 (t.getD j 0))
  len : t.length + i = 20
theorem DecAt.free {g i : Nat} {t : List Int} {w : World} (h : DecAt g i t w) (j : Nat) : w.frozen? ⟨g, j, none⟩ = false := by
  obtain ⟨cs, _, hb, _⟩ := h.cells
  exact hb.free j
theorem DecAt.old {g i : Nat} {t : List Int} {w : World} (h : DecAt g i t w) (j : Nat) (hj : j < 20) : ∃ u, w.cell? ⟨g, j, none⟩ = some u := by
  obtain ⟨cs, hs, hb, _⟩ := h.cells
  exact ⟨cs[j], hb.cell j (by simp [hs, hj])⟩
theorem DecAt.put {g i : Nat} {t : List Int} {w : World} (h : DecAt g (i + 1) t w) (x : Int) : DecAt g i (x :: t) (w.setCell ⟨g, i, none⟩ (.int .u8 x)) := by
  obtain ⟨cs, hs, hb, hc⟩ := h.cells
  have hl := h.len
  refine ⟨⟨cs.setIfInBounds i (.int .u8 x), by simpa using hs, hb.set i _, fun j hj => ?_⟩, by rw [List.length_cons]; omega⟩
  cases j with
  | zero =>
    rw [Nat.add_zero, Array.getElem?_setIfInBounds_self_of_lt (by omega)]; rfl
  | succ j =>
    have := hc j (by simpa using hj)
    rw [Array.getElem?_setIfInBounds_ne (by omega)]
    rw [show i + (j + 1) = i + 1 + j by omega, this]
    simp
theorem DecAt.cell {g i : Nat} {t : List Int} {w : World} (h : DecAt g i t w) (j : Nat) (hj : j < t.length) : w.cell? ⟨g, i + j, none⟩ = some (.int .u8 (t.getD j 0)) := by
  obtain ⟨cs, hs, hb, hc⟩ := h.cells
  exact hb.cell _ (hc j hj)

/-- the array from a place on -/
theorem slice20 (g k : Nat) (hk : k < 20) (w : World) : (Instr.sliceAt 191 (.pointer (some ⟨g, 0, none⟩)) (some (.int .i64 (k : Int))) none none).run Tryz.prog w = .ok (.slice (some ⟨g, k, none⟩) (20 - k) (20 - k)) w := by
  have hal : Tryz.prog.arrayLen 191 = 20 := by kernel_rfl
  have hsz : (Go.sizeOf (Tryz.prog.elem 191)).run Tryz.prog w = .ok 1 w := by kernel_rfl
  rw [run_sliceAt_array_l w 191 ⟨g, 0, none⟩ (by kernel_rfl) .i64 (k : Int) (by omega) (by rw [hal]; omega), hsz, hal]
  simp only [Result.andThen, slicedAt, Int.toNat_natCast]
  rw [if_neg (by omega), Nat.mul_one]
  have : (⟨g, 0, none⟩ : Addr).add k = ⟨g, k, none⟩ := by unfold Addr.add; split <;> simp_all
  rw [this]
theorem below_set' {w wr : World} {i : Nat} {u : Value} (h : Below w.heap.size w wr) : Below w.heap.size w (wr.setCell ⟨w.heap.size, i, none⟩ u) := h.setCell (p := ⟨w.heap.size, i, none⟩) (Nat.le_refl _) _
set_option maxHeartbeats 1600000 in
theorem decimalW_any (n0 : Nat) (hn0 : n0 < 18446744073709551616) (w : World) :
    Calls Tryz.prog 131 #[.int .u64 n0] w fun e w' => e = .returned (.string (dgt n0)) ∧ Below w.heap.size w w' := by
  go_enter Tryz.func131, Tryz.ntmps131
  go_wp2
  go_loopg [0, 4] 20 (fun m a b wr => ∃ (n i : Nat) (t : List Int), m = i ∧ a = .int .u64 n ∧ b = .int .i64 i ∧ n < 10 ^ i ∧ (0 < n ∨ i = 20) ∧ n < 18446744073709551616 ∧ DecAt w.heap.size i t wr ∧ dgt n0 = dgt n ++ strOfNums t ∧ Below w.heap.size w wr)
  case atStart =>
    refine ⟨n0, 20, [], rfl, rfl, rfl, by omega, .inr rfl, hn0, ⟨⟨_, ?_, Blk.new _ _ _, fun j hj => by simp at hj⟩, rfl⟩, ?_, (Below.refl _ _).alloc (Nat.le_refl _) _⟩
    · rfl
    · apply L_inj; rw [L_app]; simp [L, strOfNums_data]
  case round =>
    obtain ⟨n, i, t, hm, rfl, rfl, hn, hni, hn64, hD, hd, hB⟩ := hrel
    have hi0 : i ≠ 0 := by rintro rfl; omega
    obtain ⟨k, rfl⟩ : ∃ k, i = k + 1 := ⟨i - 1, by omega⟩
    have hlen := hD.len
    obtain ⟨uo, huo⟩ := hD.old k (by omega)
    have hfz := hD.free k
    have HM : Hid (gk = k + 1) := hm
    have HD1 : Hid (DecAt w.heap.size k ((48 + (n : Int) % 10) :: t) (wr.setCell ⟨w.heap.size, k, none⟩ (.int .u8 (48 + (n : Int) % 10)))) := hD.put _
    have HB1 : Hid (Below w.heap.size w (wr.setCell ⟨w.heap.size, k, none⟩ (.int .u8 (48 + (n : Int) % 10)))) := below_set' hB
    have hk20 : k < 20 := by omega
    have HL : Hid (t.length + (k + 1) = 20) := hlen
    have HN : Hid (n < 10 ^ (k + 1)) := hn
    have HDG : Hid (dgt n0 = dgt n ++ strOfNums t) := hd
    clear hm hn hni hD hd hlen hB
    by_cases h10 : n < 10
    · have HR : Hid (dgt n0 = strOfNums ((48 + (n : Int) % 10) :: t)) := by
        unfold Hid; rw [HDG.out, Nu.dgt_last h10, str_cons (48 + (n : Int) % 10) t, show (n : Int) % 10 = n by omega]
      have e1 : (((n : Int) / 10 == 0) : Bool) = true := by simp; omega
      have hcv : (convert 72 9 (.slice (some ⟨w.heap.size, k, none⟩) (20 - k) (20 - k))).run Tryz.prog (wr.setCell ⟨w.heap.size, k, none⟩ (.int .u8 (48 + (n : Int) % 10))) = .ok (.string (strOfNums ((48 + (n : Int) % 10) :: t))) (wr.setCell ⟨w.heap.size, k, none⟩ (.int .u8 (48 + (n : Int) % 10))) :=
        run_convert_bytes_arg (P := Tryz.prog) _ _ _ Tryz.underlying72 Tryz.underlying5 w.heap.size k (20 - k) (20 - k) ((48 + (n : Int) % 10) :: t) (by rw [List.length_cons]; have := HL.out; omega) (fun i hi => HD1.out.cell i (by rw [List.length_cons]; have := HL.out; omega)) _ Tryz.underlying9
      have hsl := slice20 w.heap.size k hk20 (wr.setCell ⟨w.heap.size, k, none⟩ (.int .u8 (48 + (n : Int) % 10)))
      clear h10
      go_wp2
      go_ret
      refine ⟨?_, HB1.out⟩
      rw [HR.out]
      first | rfl | simp
    · have e1 : (((n : Int) / 10 == 0) : Bool) = false := by rw [beq_eq_false_iff_ne]; omega
      have HR : Hid (dgt n0 = dgt (n / 10) ++ strOfNums ((48 + (n : Int) % 10) :: t)) := by
        unfold Hid; rw [HDG.out, Nu.dgt_more h10, ByteArray.append_assoc, str_cons (48 + (n : Int) % 10) t]
      have HP : Hid (n / 10 < 10 ^ k) := by
        have := HN.out
        rw [Nat.pow_succ] at this
        unfold Hid
        omega
      go_wp2
      go_roundg k
      case measure => rw [HM.out]; omega
      case rel => exact ⟨n / 10, k, _, rfl, rfl, by go_num, HP.out, .inl (by omega), by omega, HD1.out, HR.out, HB1.out⟩
end Go.Proofs.YtijnbohjcmcfjaaGreatDoor.Sc
/-
  Walks: package number's Print of a word of the widest type.
-/
namespace Go.Proofs.YtijnbohjcmcfjaaGreatDoor.Sc
open Go.RowKit Go.Proofs.YtijnbohjcmcfjaaGreatDoor.Kt Go.Proofs.YtijnbohjcmcfjaaGreatDoor.Lk
open Go.Proofs.YtijnbohjcmcfjaaGreatDoor.Nu (dgt Sizes isInt)
set_option linter.unusedSimpArgs false
set_option linter.unusedVariables false
set_option maxRecDepth 100000

theorem int8 : isInt 8 := by unfold isInt; omega
theorem printWhole_any (n : Nat) (hn : n < 18446744073709551616) (w : World) (h : Sizes w) :
    Calls Tryz.prog 100 #[.int .i64 8, .int .u64 n] w fun e w' => e = .returned (.string (dgt n)) ∧ Below w.heap.size w w' := by
  go_enter Tryz.func100, Tryz.ntmps100
  go_wp2_with (go_at_call 152; fail)
  have hs : Calls Tryz.prog 152 #[.int .i64 8] w fun e w' => e = .returned (.bool false) ∧ Below w.heap.size w w' := Nu.signed_any 8 int8 w h
  refine hs.mono ?_
  rintro e w1 ⟨rfl, hb1⟩
  clear hs
  go_wp2_with (go_at_call 131; refine (decimalW_any n hn _).mono ?_; rintro e w2 ⟨rfl, hb2⟩)
  go_ret
  exact ⟨rfl, hb1.trans (hb2.mono hb1.size)⟩
theorem print_any (n : Nat) (hn : n < 18446744073709551616) (w : World) (h : Sizes w) :
    Calls Tryz.prog 45 #[.int .i64 8, .int .u64 n] w fun e w' => e = .returned (.tuple #[.string (dgt n), .int .i64 0]) ∧ Below w.heap.size w w' := by
  have hfit : Nu.fitsOf 8 n = true := by
    have hb : 2 ^ (8 * Nu.sizeOf 8) = 18446744073709551616 := by decide
    have hs : Nu.signedOf 8 = false := by decide
    unfold Nu.fitsOf Nu.wordOf
    simp only [hb, hs]
    rw [if_neg (by simp), Nat.mod_eq_of_lt hn]
    simp
  have HF : Hid (Nu.fitsOf 8 n = true) := hfit
  clear hfit
  go_enter Tryz.func45, Tryz.ntmps45
  go_wp2_with (go_at_call 44; fail)
  refine (Nu.isPrim_any 8 int8 _ h).mono ?_
  rintro e w1 ⟨rfl, b1⟩
  have h1 := h.below b1
  go_wp2_with (go_at_call 63; fail)
  refine (Nu.fits_any 8 int8 n hn _ h1).mono ?_
  rintro e w2 ⟨he, b2⟩
  rw [HF.out] at he
  subst he
  have h2 := h1.below b2
  go_wp2_with (go_at_call 64; fail)
  refine (Nu.kindOf_any 8 int8 _).mono ?_
  rintro e w3 ⟨rfl, b3⟩
  have h3 := h2.below b3
  have hfd : ∀ w : World, (Instr.field 94 (.agg #[.func (.func 99) #[] #[], .func (.func 100) #[] #[]]) 1).run Tryz.prog w = .ok (.func (.func 100) #[] #[]) w := fun _ => by kernel_rfl
  go_wp2_with (go_at_call 100; fail)
  clear hfd
  refine (printWhole_any n hn _ h3).mono ?_
  rintro e w4 ⟨rfl, b4⟩
  have hb := (b1.trans (b2.mono b1.size)).trans (b3.mono (b1.trans (b2.mono b1.size)).size)
  have hb' := hb.trans (b4.mono hb.size)
  go_wp2
  go_ret2
  exact ⟨rfl, hb'⟩
end Go.Proofs.YtijnbohjcmcfjaaGreatDoor.Sc
/-
  Walks: package number's Int: a number up to a bound.
-/
namespace Go.Proofs.YtijnbohjcmcfjaaGreatDoor.Sc
open Go.RowKit Go.Proofs.YtijnbohjcmcfjaaGreatDoor.Kt Go.Proofs.YtijnbohjcmcfjaaGreatDoor.Lk
open Go.Proofs.YtijnbohjcmcfjaaGreatDoor.Nu (digEnd magN worthI)
set_option linter.unusedSimpArgs false
set_option linter.unusedVariables false
set_option maxRecDepth 100000

/-- a number and an error and a place, as a call answers them -/
def triV (x : Nat × Nat × Nat) : Value := .tuple #[.int .i64 (x.1 : Int), .int .i64 (x.2.1 : Int), .int .i64 (x.2.2 : Int)]
set_option maxHeartbeats 1600000 in
theorem int_any (s : ByteArray) (w : World) (hm : s.size ≤ 268435456) :
    Calls Tryz.prog 59 #[.string s, .int .i64 4294967295] w fun e w' => e = .returned (triV (intF s 4294967295)) ∧ Below w.heap.size w w' := by
  have hle := Nu.digEnd_le s false 0 (Nat.zero_le _)
  have hall := Nu.digEnd_all s false 0
  obtain ⟨d, hd⟩ : ∃ d, d = digEnd s false 0 := ⟨_, rfl⟩
  rw [← hd] at hle hall
  have HD : Hid (d = digEnd s false 0) := hd
  go_enter Tryz.func59, Tryz.ntmps59
  go_wp2_with (go_at_call 85; fail)
  refine (Nu.digitsFrom_any s 0 false _ (Nat.zero_le _) (by omega)).mono ?_
  rintro e w1 ⟨rfl, rfl⟩
  rw [← HD.out]
  clear hd
  by_cases h0 : d = 0
  · have HR : Hid (intF s 4294967295 = (0, 30, d)) := by unfold Hid intF; rw [← HD.out, if_pos (.inl h0)]
    have e0 : (((d : Nat) : Int) == 0) = true := by simp; omega
    clear hall hle h0
    go_wp2
    go_ret3
    exact ⟨by rw [HR.out]; rfl, Below.refl _ _⟩
  · have e0 : (((d : Nat) : Int) == 0) = false := by rw [beq_eq_false_iff_ne]; omega
    by_cases hlt : d < s.size
    · have HR : Hid (intF s 4294967295 = (0, 30, d)) := by unfold Hid intF; rw [← HD.out, if_pos (.inr hlt)]
      go_wp2
      go_ret3
      exact ⟨by rw [HR.out]; rfl, Below.refl _ _⟩
    · have hds : d = s.size := by omega
      have HG : Hid (∀ k, k < s.size → 0 ≤ worthI (gb s k)) := fun k hk => Nu.worth_of_digAt (hall k (Nat.zero_le _) (by omega))
      have HZ : Hid (¬ (d = 0 ∨ d < s.size)) := by unfold Hid; omega
      have c9 : decide (d < s.size) = false := by simp; omega
      clear hall hlt hds hle h0
      cases hg : magN s 10 0 0 with
      | none =>
        have HR : Hid (intF s 4294967295 = (0, 31, 0)) := by unfold Hid intF; rw [← HD.out, if_neg HZ.out, hg]
        have HV : Hid (Nu.magV (magN s 10 0 0) = .tuple #[.int .u64 0, .bool false]) := by unfold Hid; rw [hg]; rfl
        clear hg
        go_wp2_with (go_at_call 86; refine (Nu.magnitude_any s 10 (.inl rfl) _ (by omega) HG.out).mono ?_; rintro e w' ⟨he, rfl⟩; rw [HV.out] at he; subst he)
        go_ret3
        exact ⟨by rw [HR.out]; rfl, Below.refl _ _⟩
      | some v =>
        have hv := Nu.magN_lt s 10 (.inl rfl) 0 0 (by omega) hg
        have HV : Hid (Nu.magV (magN s 10 0 0) = .tuple #[.int .u64 (v : Int), .bool true]) := by unfold Hid; rw [hg]; rfl
        have HM : Hid (intF s 4294967295 = if 4294967295 < v then (0, 31, 0) else (v, 0, 0)) := by unfold Hid intF; rw [← HD.out, if_neg HZ.out, hg]
        clear hg
        by_cases hbig : 4294967295 < v
        · have HR : Hid (intF s 4294967295 = (0, 31, 0)) := by unfold Hid; rw [HM.out]; exact if_pos hbig
          clear HM
          have c1 : (4294967295 : Int) < (v : Int) := by omega
          go_wp2_with (go_at_call 86; refine (Nu.magnitude_any s 10 (.inl rfl) _ (by omega) HG.out).mono ?_; rintro e w' ⟨he, rfl⟩; rw [HV.out] at he; subst he)
          go_ret3
          exact ⟨by rw [HR.out]; rfl, Below.refl _ _⟩
        · have HR : Hid (intF s 4294967295 = (v, 0, 0)) := by unfold Hid; rw [HM.out]; exact if_neg hbig
          clear HM
          have c1 : ¬ (4294967295 : Int) < (v : Int) := by omega
          go_wp2_with (go_at_call 86; refine (Nu.magnitude_any s 10 (.inl rfl) _ (by omega) HG.out).mono ?_; rintro e w' ⟨he, rfl⟩; rw [HV.out] at he; subst he)
          go_ret3
          exact ⟨by rw [HR.out]; rfl, Below.refl _ _⟩
end Go.Proofs.YtijnbohjcmcfjaaGreatDoor.Sc
