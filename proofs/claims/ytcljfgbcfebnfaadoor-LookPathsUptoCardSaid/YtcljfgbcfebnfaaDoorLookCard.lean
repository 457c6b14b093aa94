/-
  PROVED: stencillaw21.LookPaths, the second form: where what it reads is of bulk at most 1048576, the call returns true and its arguments read as they did. (Conditions: that bulk; the library's tables as the program's text lays them.)
-/
import Derived.Test.YtcljfgbcfebnfaaDoorCards
import Derived.Test.YtcljfgbcfebnfaaDoorTie
import Derived.Test.YtcljfgbcfebnfaaDoorLookOpen
import Derived.OpenShut
import Derived.Deep.DeepHandedRow
import Derived.Lib.LaidTab
import Derived.Carry
import Derived.Stop.LaidErr
namespace Go.Proofs.YtcljfgbcfebnfaaDoor.Lk
open Go.ChangeShapes Go.WideShapes Go.ChangeAt Go.RowKit
open Go.ChangeMaps (open_string shut_string)
set_option linter.unusedVariables false

theorem pathGo_len (s : ByteArray) (k : Nat) (acc : List Step) (hk : k ≤ s.size) : (pathGo s k acc).1.length ≤ acc.length + (s.size - k) + 1 := by
  induction hm : s.size - k using Nat.strongRecOn generalizing k acc with
  | _ m ih =>
    cases hok : stepOk s k with
    | false => rw [pathGo_bad hok]; simp
    | true =>
      by_cases he : stepEnd s k = s.size
      · rw [pathGo_done hok he]; simp; try omega
      · by_cases hd : gb s (stepEnd s k) = 46
        · have h1 : stepEnd s k < s.size := lt_of_gb (by omega)
          have h2 := stepEnd_ge s k
          rw [← pathGo_next hok hd]
          have := ih (s.size - (stepEnd s k + 1)) (by omega) (stepEnd s k + 1) (acc ++ [(stepName s k, stepEntry s k)]) (by omega) rfl
          simp only [List.length_append, List.length_cons, List.length_nil] at this
          omega
        · rw [pathGo_odd hok he hd]; simp
theorem pathR_len (s : ByteArray) : (pathR s).1.length ≤ s.size + 1 := by
  unfold pathR
  split
  · simp
  · have := pathGo_len s 0 [] (Nat.zero_le _)
    simp at this; exact this

theorem ownKnob' : ownKnob Tryd.prog.godebug = none := by kernel_rfl
theorem laidOut' : laidOutB Tryd.prog = true := by kernel_rfl
theorem gTabType : (Tryd.prog.globals[0]?).map (·.type) = some 77 := by kernel_rfl
theorem tab_of {W : World} (h : laidMetH Tryd.prog Rows.lookPathsUptoRow.laid W) : Tab W := by
  have h' : laidMet Tryd.prog Rows.lookPathsUptoRow.laid W := h
  exact Lib.tabIs_of_head (rest := []) gTab gTabType Tryd.underlying77 Tryd.underlying60 (by kernel_rfl) (by kernel_rfl) (laidMet.tail (laidMet.tail h'))

theorem contract (H : Type) (enc : TypeId × Value → H) (W : World) (base : Nat) (args : Array Value) (ds gs : List (DataW H)) (before : List MemPlace)
    (hval : ∀ (j : Nat) t v, Tryd.f3.params[j]? = some t → args[j]? = some v → Value.okWide Tryd.prog W .any base t v)
    (hW : DataW.Whole enc Tryd.prog Tryd.f3.params.toList Rows.lookPathsSpec.vars false W args.toList ds gs before) (hL : laidMetH Tryd.prog Rows.lookPathsUptoRow.laid W)
    (hk : Rows.uptoSmall H (ds ++ gs) = true) :
    Calls Tryd.prog 3 args W fun e W' => ∃ v, e = .returned v ∧ Rows.lookPathsSpec.post enc Tryd.prog Tryd.f3 false true false false W args v W' := by
  have hW' := hW
  obtain ⟨p, q, hA0, hV, rfl, hfz, hnd⟩ := hW
  have hA : DataW.TrodAll enc Tryd.prog W 0 (fun _ => true) true Tryd.f3.params.toList args.toList ds p := hA0
  rw [Tryd.params3] at hA hval
  obtain ⟨v0, v1, d0, d1, p0, p1, rfl, rfl, rfl, h0, h1⟩ := trodAll_two hA
  obtain ⟨rfl, rfl⟩ := trodVars_none hV
  have h0k := h0
  have h1k := h1
  obtain ⟨s, rfl, rfl, rfl, hmax⟩ := open_string Tryd.underlying9 (hval 0 9 v0 rfl rfl) h0
  obtain ⟨a0, len0, cap0, hv1⟩ := okWide_slice Tryd.underlying22 (hval 1 22 v1 rfl rfl)
  obtain ⟨A, cap, l, rfl, hr, hl, hns⟩ := open_path h1 ⟨a0, len0, cap0, hv1⟩
  clear hA0
  simp only [List.append_nil] at hW' hk
  have hb : Rows.uptoBulkAll [DataW.lit (H := H) (.string s.data.toList), d1] ≤ 1048576 := of_decide_eq_true hk
  simp only [Rows.uptoBulkAll, Rows.uptoBulk] at hb
  have hs : s.data.toList.length = s.size := by rw [Array.length_toList]; rfl
  have hps := pathR_len s
  have hlt1 : ∀ x ∈ p1, x.block < W.heap.size := fun x hx => by simpa using hW'.lt x (by simp [hx])
  refine (law_any s A cap l W (by omega) (by omega) (fun x hx => by have := hns x hx; omega) hr (tab_of hL) (by omega)).mono fun e W' ⟨he, hbel⟩ => ?_
  subst he
  exact ⟨_, rfl, _, _, _, [], [] ++ p1, [], hW', trodAll_mk1 (shut_bool Tryd.underlying4 true), trodAll_mk2 (shut_string Tryd.underlying9 hmax) (Below.trod laidOut' (by kernel_rfl) (of_decide_eq_true (by kernel_rfl)) h1k hbel hlt1), rfl, hbel.frame _, fun h => by cases h⟩

/-- A WORLD FOR THE WITNESS: the settled one, the three tables holding what their initialisers lay. -/
def putTab (h : Array Obj) (g : Nat) (cs : Array Value) : Array Obj := h.modify g fun
  | .cells _ t frozen => .cells cs t frozen
  | o => o
def t32 : Array Value := #[.int .u8 0, .int .u8 1, .int .u8 28, .int .u8 2, .int .u8 29, .int .u8 14, .int .u8 24, .int .u8 3, .int .u8 30, .int .u8 22, .int .u8 20, .int .u8 15, .int .u8 25, .int .u8 17, .int .u8 4, .int .u8 8, .int .u8 31, .int .u8 27, .int .u8 13, .int .u8 23, .int .u8 21, .int .u8 19, .int .u8 16, .int .u8 7, .int .u8 26, .int .u8 12, .int .u8 18, .int .u8 6, .int .u8 11, .int .u8 5, .int .u8 10, .int .u8 9]
def t64 : Array Value := #[.int .u8 0, .int .u8 1, .int .u8 56, .int .u8 2, .int .u8 57, .int .u8 49, .int .u8 28, .int .u8 3, .int .u8 61, .int .u8 58, .int .u8 42, .int .u8 50, .int .u8 38, .int .u8 29, .int .u8 17, .int .u8 4, .int .u8 62, .int .u8 47, .int .u8 59, .int .u8 36, .int .u8 45, .int .u8 43, .int .u8 51, .int .u8 22, .int .u8 53, .int .u8 39, .int .u8 33, .int .u8 30, .int .u8 24, .int .u8 18, .int .u8 12, .int .u8 5, .int .u8 63, .int .u8 55, .int .u8 48, .int .u8 27, .int .u8 60, .int .u8 41, .int .u8 37, .int .u8 16, .int .u8 46, .int .u8 35, .int .u8 44, .int .u8 21, .int .u8 52, .int .u8 32, .int .u8 23, .int .u8 11, .int .u8 54, .int .u8 26, .int .u8 40, .int .u8 15, .int .u8 34, .int .u8 20, .int .u8 31, .int .u8 10, .int .u8 25, .int .u8 14, .int .u8 19, .int .u8 9, .int .u8 13, .int .u8 8, .int .u8 7, .int .u8 6]
noncomputable def laidWorld (os : Os) : World :=
  { World.holding Tryd.prog os ⟨#[], #[], []⟩ with heap := putTab (putTab (putTab (World.holding Tryd.prog os ⟨#[], #[], []⟩).heap 0 (Lib.pow10Tab.map (Value.int .u64)).toArray) 1 t32) 2 t64 }
theorem laid_met (os : Os) : laidMet Tryd.prog Rows.lookPathsUptoRow.laid ((laidWorld os).forCall (fun _ _ => 0) ⟨#[], #[.string .empty, .slice none 0 0], []⟩).memory :=
  laidMet_of_run' 8 (by kernel_rfl) (by kernel_rfl)
theorem reads (os : Os) {H : Type} (enc : TypeId × Value → H) : ∃ places, DataW.whole enc Tryd.prog ((laidWorld os).forCall (fun _ _ => 0) ⟨#[], #[.string .empty, .slice none 0 0], []⟩).memory Tryd.f3.params.toList Rows.lookPathsSpec.vars false #[Value.string .empty, .slice none 0 0].toList 8 = some ([.lit (.string []), .nil], [], places) :=
  ⟨[], by kernel_rfl⟩

set_option maxRecDepth 100000 in
theorem liftedUpto (os : Os) (started : os.Started) (H : Type) (enc : TypeId × Value → H) (F : Stop.Interp) :
    ReturnsInHanded {} Tryd.checked os 3 .any ((Rows.OpenSpec.upto Rows.lookPathsSpec).preRow enc Tryd.prog Tryd.f3 Rows.lookPathsUptoRow.domain false Rows.lookPathsUptoRow.laid) (((Rows.OpenSpec.upto Rows.lookPathsSpec).at F).post enc Tryd.prog Tryd.f3 false true false false) := by
  obtain ⟨places, hx⟩ := reads os enc
  refine returnsInHanded_of_row (C := Tryd.checked) (s := Rows.OpenSpec.upto Rows.lookPathsSpec) ownKnob' started (by kernel_rfl) Tryd.func3
    (witness_row_at (enc := enc) (C := Tryd.checked) false (laidWorld os) #[.string .empty, .slice none 0 0] rfl (by kernel_rfl) (by kernel_rfl) (by kernel_rfl)
      (OpenSpec.preRow_of_cond 8 hx (by kernel_rfl) (fun k hk => by cases hk; kernel_rfl) (by kernel_rfl) (laid_met os))) ?_
  intro W base args ds gs before hval hW _ hcond _ hL _ _
  exact contract H enc W base args ds gs before hval hW hL (hcond _ rfl)

theorem saidUpto : Rows.LookPathsUptoSaid :=
  OpenClaim.holds_of_cond 3 Tryd.f3 rfl rfl rfl rfl rfl rfl rfl ⟨rfl, rfl, rfl, rfl, rfl⟩ rfl rfl rfl rfl rfl (by kernel_rfl) Tryd.func3 (by kernel_rfl)
    (of_decide_eq_true (by kernel_rfl)) (by unfold Func.isWrapper; first | (rw [if_pos (by decide +kernel)]; kernel_rfl) | (rw [if_neg (by decide +kernel)]; exact ⟨rfl, rfl⟩))
    (fun os started H enc _ F => by rw [OpenClaim.pre_eq_preRow]; exact liftedUpto os started H enc F)

theorem plain (f : FuncId) (fn : Func) (hf : Tryd.pinned.checked.prog.funcNamed "stencil/stencillaw21.LookPaths" = some f) (hfn : Tryd.pinned.checked.prog.funcs[f]? = some fn) :
    false = Tryd.pinned.checked.prog.looks [] ∧ ∀ (j : Nat) t, fn.params[j]? = some t → Tryd.pinned.checked.prog.wantsStandIn t = false := by
  obtain rfl : f = 3 := Option.some.inj ((show Tryd.prog.funcNamed "stencil/stencillaw21.LookPaths" = some 3 by kernel_rfl).symm.trans hf) |>.symm
  obtain rfl : fn = Tryd.f3 := (Option.some.inj (Tryd.func3.symm.trans hfn)).symm
  refine ⟨by kernel_rfl, fun j t ht => ?_⟩
  rw [Tryd.params3] at ht
  have h : t = 9 ∨ t = 22 := by simpa using Array.mem_of_getElem? ht
  rcases h with rfl | rfl
  · exact (show Tryd.prog.wantsStandIn 9 = false by kernel_rfl)
  · exact (show Tryd.prog.wantsStandIn 22 = false by kernel_rfl)
end Go.Proofs.YtcljfgbcfebnfaaDoor.Lk
namespace Go.Proofs.YtcljfgbcfebnfaaDoor
theorem lookPathsUpto_card : Rows.LookPathsUptoCardSaid :=
  Claim7.holds_tied_plain_at .later [] _ _ _ _ Lk.saidUpto (fun _ h => by cases h) (by kernel_rfl) (fun _ h => by cases h) lookPathsUpto_row_tie rfl ⟨rfl, rfl⟩ (by kernel_rfl) rfl Lk.plain (by kernel_rfl)
#print axioms lookPathsUpto_card
end Go.Proofs.YtcljfgbcfebnfaaDoor
