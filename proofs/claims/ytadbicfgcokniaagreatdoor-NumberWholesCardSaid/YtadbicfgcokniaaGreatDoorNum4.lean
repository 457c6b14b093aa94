/-
  Walks: number.Parse at the types of whole numbers.
-/
import Derived.Test.YtadbicfgcokniaaGreatDoorNum3
import Derived.Test.YtadbicfgcokniaaGreatDoorNum5
namespace Go.Proofs.YtadbicfgcokniaaGreatDoor.Nu
open Go.RowKit Go.Proofs.YtadbicfgcokniaaGreatDoor.Kt Go.Proofs.YtadbicfgcokniaaGreatDoor.Lk
set_option linter.unusedSimpArgs false
set_option linter.unusedVariables false
set_option maxRecDepth 100000

theorem sizeOf_pos {p : Nat} (hp : isInt p) : 0 < sizeOf p := by
  obtain ⟨h1, h8⟩ := hp
  have : ∀ q, q < 9 → 1 ≤ q → 0 < sizeOf q := by decide
  exact this p (by omega) h1
theorem isPrim_any (p : Nat) (hp : isInt p) (w : World) (h : Sizes w) : Calls Tryz.prog 7 #[.int .i64 p] w fun e w' => e = .returned (.bool true) ∧ Below w.heap.size w w' := by
  have hs := sizeOf_pos hp
  go_enter Tryz.func7, Tryz.ntmps7
  go_wp2_with (go_at_call 9; fail)
  refine (size_any p hp _ h).mono ?_
  rintro e w1 ⟨rfl, hb⟩
  go_wp2
  go_ret
  exact ⟨ret_bool (by simp), hb⟩
theorem kindOf_any (p : Nat) (hp : isInt p) (w : World) : Calls Tryz.prog 8 #[.int .i64 p] w fun e w' => e = .returned (.agg #[.func (.func 14) #[] #[], .func (.func 15) #[] #[]]) ∧ Below w.heap.size w w' := by
  obtain ⟨h1, h8⟩ := hp
  have d0 : (((p : Nat) : Int) == 0) = false := by simp; omega
  have d9 : (((p : Nat) : Int) == 9) = false := by simp; omega
  have d10 : (((p : Nat) : Int) == 10) = false := by simp; omega
  go_enter Tryz.func8, Tryz.ntmps8
  go_wp2
  refine ret_cellG (cs := #[.func (.func 14) #[] #[], .func (.func 15) #[] #[]]) (t := 34) rfl Tryz.underlying34 rfl (by kernel_rfl) rfl rfl ?_ ⟨rfl, (Below.refl _ _).alloc (Nat.le_refl _) _⟩
  exact Blk.new _ _ _
theorem parse_any (p : Nat) (hp : isInt p) (s : ByteArray) (w : World) (h : Sizes w) (hm : s.size ≤ 1099511627776) :
    Calls Tryz.prog 6 #[.int .i64 p, .string s] w fun e w' => e = .returned (pwV (pwOf p s)) ∧ Below w.heap.size w w' := by
  go_enter Tryz.func6, Tryz.ntmps6
  go_wp2_with (go_at_call 7; fail)
  refine (isPrim_any p hp _ h).mono ?_
  rintro e w1 ⟨rfl, b1⟩
  have h1 := h.below b1
  go_wp2_with (go_at_call 8; fail)
  refine (kindOf_any p hp _).mono ?_
  rintro e w2 ⟨rfl, b2⟩
  have h2 := h1.below b2
  have hfd : ∀ w : World, (Instr.field 34 (.agg #[.func (.func 14) #[] #[], .func (.func 15) #[] #[]]) 0).run Tryz.prog w = .ok (.func (.func 14) #[] #[]) w := fun _ => by kernel_rfl
  go_wp2_with (go_at_call 14; fail)
  clear hfd
  refine (parseWhole_any p hp s _ h2 hm).mono ?_
  rintro e w3 ⟨rfl, b3⟩
  have hb := (b1.trans (b2.mono b1.size)).trans (b3.mono (b1.trans (b2.mono b1.size)).size)
  unfold pwV
  go_wp2
  go_ret3
  exact ⟨rfl, hb⟩

def widthOf (k : Nat) : Nat := 8 * sizeOf k
theorem width_any (k : Nat) (hk : isInt k) (w : World) : Calls Tryz.prog 5 #[.int .i64 k] w fun e w' => e = .returned (.int .i64 (widthOf k)) ∧ w = w' := by
  obtain ⟨h1, h8⟩ := hk
  rcases Nat.lt_or_ge k 2 with h | _
  · obtain rfl : k = 1 := by omega
    clear h1 h8 h
    go_enter Tryz.func5, Tryz.ntmps5
    go_wp2
    go_ret
    exact ⟨rfl, rfl⟩
  rcases Nat.lt_or_ge k 3 with h | _
  · obtain rfl : k = 2 := by omega
    clear h1 h8 h
    go_enter Tryz.func5, Tryz.ntmps5
    go_wp2
    go_ret
    exact ⟨rfl, rfl⟩
  rcases Nat.lt_or_ge k 4 with h | _
  · obtain rfl : k = 3 := by omega
    clear h1 h8 h
    go_enter Tryz.func5, Tryz.ntmps5
    go_wp2
    go_ret
    exact ⟨rfl, rfl⟩
  rcases Nat.lt_or_ge k 5 with h | _
  · obtain rfl : k = 4 := by omega
    clear h1 h8 h
    go_enter Tryz.func5, Tryz.ntmps5
    go_wp2
    go_ret
    exact ⟨rfl, rfl⟩
  rcases Nat.lt_or_ge k 6 with h | _
  · obtain rfl : k = 5 := by omega
    clear h1 h8 h
    go_enter Tryz.func5, Tryz.ntmps5
    go_wp2
    go_ret
    exact ⟨rfl, rfl⟩
  rcases Nat.lt_or_ge k 7 with h | _
  · obtain rfl : k = 6 := by omega
    clear h1 h8 h
    go_enter Tryz.func5, Tryz.ntmps5
    go_wp2
    go_ret
    exact ⟨rfl, rfl⟩
  rcases Nat.lt_or_ge k 8 with h | _
  · obtain rfl : k = 7 := by omega
    clear h1 h8 h
    go_enter Tryz.func5, Tryz.ntmps5
    go_wp2
    go_ret
    exact ⟨rfl, rfl⟩
  obtain rfl : k = 8 := by omega
  go_enter Tryz.func5, Tryz.ntmps5
  go_wp2
  go_ret
  exact ⟨rfl, rfl⟩

set_option maxHeartbeats 1600000 in
theorem decimal_any (n0 : Nat) (hn0 : n0 < 2 ^ 64) (w : World) : Calls Tryz.prog 4 #[.int .u64 n0] w fun e w' => e = .returned (.string (dgt n0)) ∧ Below w.heap.size w w' := by
  have HZ : Hid ((dgt n0).size ≤ 20) := dgt_size n0 hn0
  go_enter Tryz.func4, Tryz.ntmps4
  go_wp2
  go_loopw [0, 3] (fun a t wr => ∃ (n : Nat) (s : ByteArray), a = .int .u64 n ∧ n < 2 ^ 64 ∧ s.size ≤ 20 ∧ t = .string s ∧ dgt n0 = dgt n ++ s ∧ Below w.heap.size w wr) (fun a _ _ => (intOf a).toNat)
  case atStart => exact ⟨n0, ⟨#[]⟩, rfl, hn0, by decide, rfl, (ByteArray.append_empty).symm, Below.refl _ _⟩
  case round =>
    obtain ⟨n, s, rfl, hn, hsz, rfl, hd, hbel⟩ := hrel
    have hwr : IntKind.u64.wrap ((n : Int) / 10) = (n : Int) / 10 := by rw [IntKind.wrap_u64]; omega
    have HN : Hid (n < 2 ^ 64) := hn
    clear hn
    have h1 : (strOfNums [48 + (n : Int) % 10]).size + s.size ≤ 2000001 := by rw [strOfNums_size]; simp; omega
    have HD : Hid (dgt n0 = dgt n ++ s) := hd
    clear hd
    have hone : ∀ i, i < 1 → (wr.alloc (.cells #[.int .u8 (48 + (n : Int) % 10)] 5)).cell? ⟨wr.heap.size, 0 + i, none⟩ = some (.int .u8 ([48 + (n : Int) % 10].getD i 0)) := by
      intro i hi
      obtain rfl : i = 0 := by omega
      simp
    have hconv : (convert 30 9 (.slice (some ⟨wr.heap.size, 0, none⟩) 1 1)).run Tryz.prog (wr.alloc (.cells #[.int .u8 (48 + (n : Int) % 10)] 5)) = .ok (.string (strOfNums [48 + (n : Int) % 10])) (wr.alloc (.cells #[.int .u8 (48 + (n : Int) % 10)] 5)) :=
      run_convert_bytes_arg (P := Tryz.prog) _ _ _ Tryz.underlying30 Tryz.underlying5 wr.heap.size 0 1 1 [48 + (n : Int) % 10] rfl hone _ Tryz.underlying9
    clear hone
    by_cases h10 : n < 10
    · have HL : Hid (dgt n0 = strOfNums [48 + (n : Int) % 10] ++ s) := by
        unfold Hid; rw [HD.out, dgt_last h10, show (n : Int) % 10 = n by omega]
      have e1 : (((n : Int) / 10 == 0) : Bool) = true := by simp; omega
      clear h10
      go_wp2
      go_ret
      exact ⟨by rw [HL.out]; rfl, hbel.alloc hbel.size _⟩
    · have HL : Hid (dgt n0 = dgt (n / 10) ++ (strOfNums [48 + (n : Int) % 10] ++ s)) := by
        unfold Hid; rw [HD.out, dgt_more h10, ByteArray.append_assoc]
      have HS : Hid ((strOfNums [48 + (n : Int) % 10] ++ s).size ≤ 20) := by
        have h2 := HZ.out
        rw [HL.out, ByteArray.size_append] at h2
        unfold Hid; omega
      have e1 : (((n : Int) / 10 == 0) : Bool) = false := by simp; omega
      go_wp2
      go_roundw
      case rel => exact ⟨n / 10, _, rfl, (by have := HN.out; omega), HS.out, rfl, HL.out, hbel.alloc hbel.size _⟩
      case measure => simp [intOf]; omega
end Go.Proofs.YtadbicfgcokniaaGreatDoor.Nu
