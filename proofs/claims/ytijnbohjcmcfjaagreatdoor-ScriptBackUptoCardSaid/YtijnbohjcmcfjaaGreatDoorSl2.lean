/-
  The law on scripts read and printed: its walk.
-/
import Derived.Test.YtijnbohjcmcfjaaGreatDoorSl1
namespace Go.Proofs.YtijnbohjcmcfjaaGreatDoor.Sc
open Go.RowKit Go.Proofs.YtijnbohjcmcfjaaGreatDoor.Kt Go.Proofs.YtijnbohjcmcfjaaGreatDoor.Lk Go.Proofs.YtijnbohjcmcfjaaGreatDoor.Sp Go.Proofs.YtijnbohjcmcfjaaGreatDoor.Rw Go.Proofs.YtijnbohjcmcfjaaGreatDoor.Rg
open Go.Proofs.YtijnbohjcmcfjaaGreatDoor.Nu (dgt Sizes isInt pwOf)
set_option linter.unusedSimpArgs false
set_option linter.unusedVariables false
set_option maxRecDepth 100000

theorem print_callany (c : CallP) (v : Value) (w : World) (hw : WA w v c.words) (hws : ∀ n ∈ c.words, n < 2 ^ 64) (hl : c.words.length ≤ 1048577) (hn : c.name.size ≤ 268435456) (ht : c.text.size ≤ 67108864) (he : EnvS w) :
    Calls Tryz.prog 7 #[.agg (callV c v)] w (PrintPost c w) := by
  obtain ⟨kd, nm, ws, ct, tx⟩ := c
  dsimp only at hw hws hl hn ht
  by_cases h2 : kd = 2
  · subst h2
    obtain ⟨A, cap, rfl⟩ := hw.len
    exact print_next nm ws ct tx A cap w hl hn
  · by_cases hr : kd < 0 ∨ 3 < kd
    · obtain ⟨A, cap, rfl⟩ := hw.len
      exact print_kind kd hr nm ws ct tx A cap w
    · have hk : kd = 0 ∨ kd = 1 ∨ kd = 3 := by omega
      rcases hk with rfl | rfl | rfl
      · exact print_field nm ws ct tx v w hw hws hl hn ht he
      · exact print_group nm ws ct tx v w hw hws hl hn ht he
      · exact print_data nm ws ct tx v w hw hws hl hn ht he
theorem print_cases (c : CallP) : (printF c).2 = 0 ∨ printF c = (⟨#[]⟩, 250) := by
  unfold printF
  repeat' split
  all_goals first | exact .inl rfl | exact .inr rfl
theorem parse_is (s : ByteArray) (w : World) (hm : s.size ≤ 268435456) (he : EnvS w) {kd ct : Int} {nm tx : ByteArray} {ws : List Nat} {er p : Nat} (h : parseF s = (⟨kd, nm, ws, ct, tx⟩, er, p)) :
    Calls Tryz.prog 5 #[.string s] w fun e w' => ∃ A cap, e = .returned (.tuple #[.agg #[.int .i64 kd, .string nm, .slice A ws.length cap, .int .i64 ct, .string tx], .int .i64 (er : Int), .int .i64 (p : Int)]) ∧ w'.ownsRow w.heap.size 30 1 (.slice A ws.length cap) ws.length (wordsV ws) ∧ Below w.heap.size w w' :=
  (parse_any s w hm he).mono fun e w' ⟨v, h1, h2, h3⟩ => by
    rw [h] at h1 h2
    obtain ⟨A, cap, rfl⟩ := row_is h2
    exact ⟨A, cap, h1, h2, h3⟩
def litS : ByteArray := ⟨#[102, 105, 101, 108, 100, 32, 112, 114, 105, 99, 101, 32, 49, 48, 48, 44, 53]⟩
def litN : ByteArray := ⟨#[112, 114, 105, 99, 101]⟩
def litC : CallP := ⟨0, litN, [100, 5], 0, ⟨#[]⟩⟩
theorem lit_fine : Fine litC := by
  right
  refine ⟨litN, by decide, .inl ⟨[100, 5], rfl, ?_⟩⟩
  intro n hn
  simp at hn
  omega
theorem lit_parse : parseF litS = (litC, 0, 0) := by
  refine parse_writ lit_fine (k1 := 0) (k2 := 0) ?_
  show L litS = _
  kernel_rfl
end Go.Proofs.YtijnbohjcmcfjaaGreatDoor.Sc
