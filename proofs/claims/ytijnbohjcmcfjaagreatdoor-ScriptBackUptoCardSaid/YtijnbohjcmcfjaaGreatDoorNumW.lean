/-
  Walks: package number's Print of a word of the widest type.
-/
import Derived.Test.YtijnbohjcmcfjaaGreatDoorNumD
namespace Go.Proofs.YtijnbohjcmcfjaaGreatDoor.Sc
open Go.RowKit Go.Proofs.YtijnbohjcmcfjaaGreatDoor.Kt Go.Proofs.YtijnbohjcmcfjaaGreatDoor.Lk
open Go.Proofs.YtijnbohjcmcfjaaGreatDoor.Nu (dgt Sizes isInt)
set_option linter.unusedSimpArgs false
set_option linter.unusedVariables false
set_option maxRecDepth 100000

theorem int8 : isInt 8 := by unfold isInt; omega
theorem printWhole_any (n : Nat) (hn : n < 18446744073709551616) (w : World) (h : Sizes w) :
    Calls Tryz.prog 100 #[.int .i64 8, .int .u64 n] w fun e w' => e = .returned (.string (dgt n)) ∧ Below w.heap.size w w' := by
  go_enter Tryz.func100, Tryz.ntmps100
  go_wp2_with (go_at_call 152; fail)
  have hs : Calls Tryz.prog 152 #[.int .i64 8] w fun e w' => e = .returned (.bool false) ∧ Below w.heap.size w w' := Nu.signed_any 8 int8 w h
  refine hs.mono ?_
  rintro e w1 ⟨rfl, hb1⟩
  clear hs
  go_wp2_with (go_at_call 131; refine (decimalW_any n hn _).mono ?_; rintro e w2 ⟨rfl, hb2⟩)
  go_ret
  exact ⟨rfl, hb1.trans (hb2.mono hb1.size)⟩
theorem print_any (n : Nat) (hn : n < 18446744073709551616) (w : World) (h : Sizes w) :
    Calls Tryz.prog 45 #[.int .i64 8, .int .u64 n] w fun e w' => e = .returned (.tuple #[.string (dgt n), .int .i64 0]) ∧ Below w.heap.size w w' := by
  have hfit : Nu.fitsOf 8 n = true := by
    have hb : 2 ^ (8 * Nu.sizeOf 8) = 18446744073709551616 := by decide
    have hs : Nu.signedOf 8 = false := by decide
    unfold Nu.fitsOf Nu.wordOf
    simp only [hb, hs]
    rw [if_neg (by simp), Nat.mod_eq_of_lt hn]
    simp
  have HF : Hid (Nu.fitsOf 8 n = true) := hfit
  clear hfit
  go_enter Tryz.func45, Tryz.ntmps45
  go_wp2_with (go_at_call 44; fail)
  refine (Nu.isPrim_any 8 int8 _ h).mono ?_
  rintro e w1 ⟨rfl, b1⟩
  have h1 := h.below b1
  go_wp2_with (go_at_call 63; fail)
  refine (Nu.fits_any 8 int8 n hn _ h1).mono ?_
  rintro e w2 ⟨he, b2⟩
  rw [HF.out] at he
  subst he
  have h2 := h1.below b2
  go_wp2_with (go_at_call 64; fail)
  refine (Nu.kindOf_any 8 int8 _).mono ?_
  rintro e w3 ⟨rfl, b3⟩
  have h3 := h2.below b3
  have hfd : ∀ w : World, (Instr.field 94 (.agg #[.func (.func 99) #[] #[], .func (.func 100) #[] #[]]) 1).run Tryz.prog w = .ok (.func (.func 100) #[] #[]) w := fun _ => by kernel_rfl
  go_wp2_with (go_at_call 100; fail)
  clear hfd
  refine (printWhole_any n hn _ h3).mono ?_
  rintro e w4 ⟨rfl, b4⟩
  have hb := (b1.trans (b2.mono b1.size)).trans (b3.mono (b1.trans (b2.mono b1.size)).size)
  have hb' := hb.trans (b4.mono hb.size)
  go_wp2
  go_ret2
  exact ⟨rfl, hb'⟩
end Go.Proofs.YtijnbohjcmcfjaaGreatDoor.Sc
