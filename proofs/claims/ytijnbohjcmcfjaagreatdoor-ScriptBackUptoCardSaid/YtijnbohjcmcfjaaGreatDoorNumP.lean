/-
  Walks: number.Parse at the types of whole numbers.
-/
import Derived.Test.YtijnbohjcmcfjaaGreatDoorNum3
namespace Go.Proofs.YtijnbohjcmcfjaaGreatDoor.Nu
open Go.RowKit Go.Proofs.YtijnbohjcmcfjaaGreatDoor.Kt Go.Proofs.YtijnbohjcmcfjaaGreatDoor.Lk
set_option linter.unusedSimpArgs false
set_option linter.unusedVariables false
set_option maxRecDepth 100000

theorem sizeOf_pos {p : Nat} (hp : isInt p) : 0 < sizeOf p := by
  obtain ⟨h1, h8⟩ := hp
  have : ∀ q, q < 9 → 1 ≤ q → 0 < sizeOf q := by decide
  exact this p (by omega) h1
theorem isPrim_any (p : Nat) (hp : isInt p) (w : World) (h : Sizes w) : Calls Tryz.prog 44 #[.int .i64 p] w fun e w' => e = .returned (.bool true) ∧ Below w.heap.size w w' := by
  have hs := sizeOf_pos hp
  go_enter Tryz.func44, Tryz.ntmps44
  go_wp2_with (go_at_call 62; fail)
  refine (size_any p hp _ h).mono ?_
  rintro e w1 ⟨rfl, hb⟩
  go_wp2
  go_ret
  exact ⟨ret_bool (by simp), hb⟩
theorem kindOf_any (p : Nat) (hp : isInt p) (w : World) : Calls Tryz.prog 64 #[.int .i64 p] w fun e w' => e = .returned (.agg #[.func (.func 99) #[] #[], .func (.func 100) #[] #[]]) ∧ Below w.heap.size w w' := by
  obtain ⟨h1, h8⟩ := hp
  have d0 : (((p : Nat) : Int) == 0) = false := by simp; omega
  have d9 : (((p : Nat) : Int) == 9) = false := by simp; omega
  have d10 : (((p : Nat) : Int) == 10) = false := by simp; omega
  go_enter Tryz.func64, Tryz.ntmps64
  go_wp2
  refine ret_cellG (cs := #[.func (.func 99) #[] #[], .func (.func 100) #[] #[]]) (t := 94) rfl Tryz.underlying94 rfl (by kernel_rfl) rfl rfl ?_ ⟨rfl, (Below.refl _ _).alloc (Nat.le_refl _) _⟩
  exact Blk.new _ _ _
theorem parse_any (p : Nat) (hp : isInt p) (s : ByteArray) (w : World) (h : Sizes w) (hm : s.size ≤ 1099511627776) :
    Calls Tryz.prog 84 #[.int .i64 p, .string s] w fun e w' => e = .returned (pwV (pwOf p s)) ∧ Below w.heap.size w w' := by
  go_enter Tryz.func84, Tryz.ntmps84
  go_wp2_with (go_at_call 44; fail)
  refine (isPrim_any p hp _ h).mono ?_
  rintro e w1 ⟨rfl, b1⟩
  have h1 := h.below b1
  go_wp2_with (go_at_call 64; fail)
  refine (kindOf_any p hp _).mono ?_
  rintro e w2 ⟨rfl, b2⟩
  have h2 := h1.below b2
  have hfd : ∀ w : World, (Instr.field 94 (.agg #[.func (.func 99) #[] #[], .func (.func 100) #[] #[]]) 0).run Tryz.prog w = .ok (.func (.func 99) #[] #[]) w := fun _ => by kernel_rfl
  go_wp2_with (go_at_call 99; fail)
  clear hfd
  refine (parseWhole_any p hp s _ h2 hm).mono ?_
  rintro e w3 ⟨rfl, b3⟩
  have hb := (b1.trans (b2.mono b1.size)).trans (b3.mono (b1.trans (b2.mono b1.size)).size)
  unfold pwV
  go_wp2
  go_ret3
  exact ⟨rfl, hb⟩

end Go.Proofs.YtijnbohjcmcfjaaGreatDoor.Nu
