/-
  PROVED: stencillaw22.DumpReads, the second form: where what it reads is of bulk at most 1048576, the call returns true and its argument reads as it did. (Conditions: that bulk; the package-level variables hold what the program's text lays.)
-/
import Derived.Test.YtjohlabdjdhpfaaGreatDoorCards
import Derived.Test.YtjohlabdjdhpfaaGreatDoorTie
import Derived.Test.YtjohlabdjdhpfaaGreatDoorRdLaw
import Derived.ProofKit
import Derived.Deep.Slices
import Derived.OpenShut
import Derived.Deep.DeepHandedRow
import Derived.Lib.LaidTab
import Derived.Carry
import Derived.Lay
import Derived.Stop.LaidErr
import Derived.Shelf.Vars
import Derived.ChangeSame
namespace Go.Proofs.YtjohlabdjdhpfaaGreatDoor.Rd
open Go.ChangeShapes Go.WideShapes Go.ChangeAt Go.RowKit Go.Proofs.YtjohlabdjdhpfaaGreatDoor.Kt Go.Proofs.YtjohlabdjdhpfaaGreatDoor.Lk Go.Deep
set_option linter.unusedVariables false
set_option maxRecDepth 100000

theorem bulk_texts {H : Type} (L : List ByteArray) : Rows.uptoBulkAll (L.map fun s => (DataW.lit (H := H) (.string s.data.toList))) = sumL L + L.length := by
  induction L with
  | nil => rfl
  | cons s r ih =>
    simp only [List.map_cons, Rows.uptoBulkAll, Rows.uptoBulk, ih, sumL_cons, List.length_cons]
    have : s.data.toList.length = s.size := by rw [Array.length_toList]; rfl
    omega

/-- a row of texts that came in -/
theorem open_texts {H : Type} {enc : TypeId × Value → H} {w : World} {spare : Nat → Bool} {held : Bool} {v : Value} {d : DataW H} {p : List MemPlace}
    (h : DataW.Trod enc Tryz.prog w 0 spare held 22 v d p) (hok : ∃ (A : Option Addr) (n c : Nat), v = .slice A n c) :
    ∃ l : List ByteArray, RA w v l ∧ sumL l + l.length + 1 ≤ Rows.uptoBulk d := by
  obtain ⟨A0, n0, c0, rfl⟩ := hok
  obtain ⟨fuel, hf⟩ := h
  have hC : Tryz.prog.cellsOf 9 = 1 := by kernel_rfl
  rcases open_slice Tryz.underlying22 (by simpa [Value.cells] using hf) with ⟨hcs, hx⟩ | ⟨a, len, cap, m, n, D, Pl, hcs, hb, hl, hm, hmm, hx, hi⟩
  · simp only [List.cons.injEq, and_true] at hcs
    simp only [Prod.mk.injEq] at hx
    obtain ⟨rfl, -⟩ := hx
    rw [hcs]
    exact ⟨[], .inl ⟨rfl, rfl⟩, by simp [Rows.uptoBulk, sumL]⟩
  · simp only [List.cons.injEq, and_true] at hcs
    rw [hcs]
    simp only [Prod.mk.injEq] at hx
    obtain ⟨rfl, -⟩ := hx
    rw [hC] at hi
    have hlen : len ≤ m := by rw [hmm]; split <;> omega
    have key : ∀ i, i < len → ∃ x : ByteArray, w.cell? (a.add i) = some (.string x) ∧ D i = .lit (.string x.data.toList) := by
      intro i hil
      obtain ⟨cs', hc, ht'⟩ := hi i (by omega)
      obtain ⟨s, e0, hx0, _⟩ := DataW.trod_string Tryz.underlying9 ht'
      obtain ⟨_, hcl, hat⟩ := World.cells?_some hc
      have h0 := hat 0 (by omega)
      rw [e0] at h0
      simp only [Prod.mk.injEq] at hx0
      refine ⟨s, ?_, hx0.1⟩
      rw [Nat.mul_one] at h0
      simpa [Addr.add] using h0
    obtain ⟨f, hfx⟩ := choose_lt (α := ByteArray) (p := fun i x => w.cell? (a.add i) = some (.string x) ∧ D i = .lit (.string x.data.toList)) key
    have hll : ((List.range len).map f).length = len := by simp
    have hD : (List.range len).map D = ((List.range len).map f).map fun s => (DataW.lit (H := H) (.string s.data.toList)) := by
      rw [List.map_map]
      refine List.map_congr_left fun i hi => ?_
      exact (hfx i (List.mem_range.1 hi)).2
    refine ⟨(List.range len).map f, ?_, ?_⟩
    · by_cases h0 : len = 0
      · subst h0; exact .inr (.inl ⟨a, cap, rfl, rfl⟩)
      · have hsp : a.spot = none := by
          have h1 := (hfx 0 (by omega)).1
          rw [show a.add 0 = a from by unfold Addr.add; simp] at h1
          unfold World.cell? at h1
          split at h1
          · cases hs : a.spot with
            | none => rfl
            | some q => rw [hs] at h1; simp at h1
          · cases h1
        obtain ⟨b, off, sp⟩ := a
        dsimp only at hsp
        subst hsp
        refine .inr (.inr ⟨b, off, cap, by rw [hll], fun i hil => ?_⟩)
        have hil' : i < len := by simpa using hil
        have := (hfx i hil').1
        rw [show (⟨b, off, none⟩ : Addr).add i = ⟨b, off + i, none⟩ from by unfold Addr.add; split <;> simp_all] at this
        simp only [List.getElem_map, List.getElem_range]
        exact this
    · simp only [Rows.uptoBulk, hD]
      rw [bulk_texts]
      omega

theorem ownKnob' : ownKnob Tryz.prog.godebug = none := by kernel_rfl
theorem laidOut' : laidOutB Tryz.prog = true := by kernel_rfl
theorem gTabType : (Tryz.prog.globals[6]?).map (·.type) = some 147 := by kernel_rfl
/-- a variable of an interface's type holds an interface's value -/
theorem iface_of_head {W : World} {n : String} {d : DataW Unit} {rest : List (String × DataW Unit)} {g : Nat} {ti : TypeId} {ms : Array (String × TypeId)}
    (hg : Tryz.prog.globalNamed n = some g) (ht : (Tryz.prog.globals[g]?).map (·.type) = some ti) (hi : Tryz.prog.underlying ti = some (.interface ms)) (h : laidMet Tryz.prog ((n, d) :: rest) W) : ErrAt W g := by
  obtain ⟨ps, ⟨g', t', cs, fuel, p, q, hg', ht', hvar, hd, _, _⟩, _⟩ := h
  obtain rfl := Option.some.inj (hg.symm.trans hg')
  obtain rfl := Option.some.inj (ht.symm.trans ht')
  have hc := World.var?_cell hg hvar 0
  obtain ⟨l⟩ := cs
  cases fuel with
  | zero => simp [DataW.trod] at hd
  | succ fuel =>
    match l, hd with
    | [], hd => simp [DataW.trod, hi] at hd
    | [v], hd =>
      refine ⟨v, by simpa using hc, ?_⟩
      cases v <;> simp [DataW.trod, hi] at hd ⊢
    | a :: b :: r, hd => simp [DataW.trod, hi] at hd
/-- an array of texts holds the texts that are listed -/
theorem texts_of_head {W : World} {n : String} {rest : List (String × DataW Unit)} {g : Nat} {t : TypeId} (ls : List ByteArray)
    (hg : Tryz.prog.globalNamed n = some g) (hty : (Tryz.prog.globals[g]?).map (·.type) = some t) (ht : Tryz.prog.underlying t = some (.array ls.length 9)) (hct : Tryz.prog.cellsOf t = ls.length)
    (h : laidMet Tryz.prog ((n, .agg (ls.map fun s => .lit (.string s.data.toList))) :: rest) W) : ∀ j, j < ls.length → W.cell? ⟨g, j, none⟩ = some (.string (ls.getD j ByteArray.empty)) := by
  have hce : Tryz.prog.cellsOf 9 = 1 := by kernel_rfl
  obtain ⟨ps, ⟨g', t', cs, fuel, p, q, hg', ht', hvar, hd, _, _⟩, _⟩ := h
  obtain rfl := Option.some.inj (hg.symm.trans hg')
  obtain rfl := Option.some.inj (hty.symm.trans ht')
  intro j hj
  have hc := World.var?_cell hg hvar j
  rw [hc]
  cases fuel with
  | zero => simp [DataW.trod] at hd
  | succ fuel =>
    simp only [DataW.trod, ht, hce, hct, Nat.mul_one] at hd
    split at hd
    · rename_i hl
      obtain ⟨xs, hm, hx⟩ := Option.map_eq_some_iff.1 hd
      have hxs : xs.map (·.1) = ls.map fun s => (DataW.lit (.string s.data.toList) : DataW Unit) := by
        have := congrArg Prod.fst hx
        simpa using this
      obtain ⟨b, hb, hf⟩ := Lib.mapM_at hm j j (by simp [hj])
      obtain ⟨s, hcs, rfl, _⟩ := DataW.trod_string Tryz.underlying9 hf
      have h1 : cs.toList[j]? = some (.string s) := by
        have := congrArg (·[0]?) hcs
        simpa [List.getElem?_take, List.getElem?_drop] using this
      have h2 : (xs.map (·.1))[j]? = some (DataW.lit (.string s.data.toList) : DataW Unit) := by simp [hb]
      rw [hxs] at h2
      simp only [List.getElem?_map, Option.map_eq_some_iff, DataW.lit.injEq, Lit.string.injEq] at h2
      obtain ⟨s', hs', e⟩ := h2
      have e' : s' = s := ByteArray.ext (Array.toList_inj.1 e)
      subst e'
      have : cs[j]? = some (.string s') := by simpa using h1
      rw [this, List.getD, hs']
      rfl
    · cases hd

theorem gE : Tryz.prog.globalNamed "strconv.ErrSyntax" = some 2 := by kernel_rfl
theorem gR : Tryz.prog.globalNamed "strconv.ErrRange" = some 3 := by kernel_rfl
theorem gK : Tryz.prog.globalNamed "stencil/dump.kinds" = some 0 := by kernel_rfl
theorem gET : (Tryz.prog.globals[2]?).map (·.type) = some 35 := by kernel_rfl
theorem gRT : (Tryz.prog.globals[3]?).map (·.type) = some 35 := by kernel_rfl
theorem gKT : (Tryz.prog.globals[0]?).map (·.type) = some 43 := by kernel_rfl
theorem env_of {W : World} (h : laidMetH Tryz.prog Rows.dumpReadsUptoRow.laid W) (hs : W.ShapedOpen Tryz.prog) : Env W := by
  have h0 : laidMet Tryz.prog Rows.dumpReadsUptoRow.laid W := h
  have h2 := laidMet.tail (laidMet.tail h0)
  have h4 := laidMet.tail (laidMet.tail h2)
  have h5 := laidMet.tail h4
  have h6 := laidMet.tail h5
  refine ⟨Lib.tabIs_of_head gTab gTabType Tryz.underlying147 Tryz.underlying76 (by kernel_rfl) (by kernel_rfl) h2, ?_, iface_of_head gE gET Tryz.underlying35 h5, iface_of_head gR gRT Tryz.underlying35 h4, ?_⟩
  · exact Go.Proofs.cell_of_shapedOpen_int hs (t := 3) (zero := #[.int .i64 0]) (by decide) (by kernel_rfl) rfl (by kernel_rfl) (by kernel_rfl) Tryz.underlying3
  · exact texts_of_head kindsL gK gKT Tryz.underlying43 (by kernel_rfl) h6

theorem contract (H : Type) (enc : TypeId × Value → H) (W : World) (base : Nat) (args : Array Value) (ds gs : List (DataW H)) (before : List MemPlace)
    (hval : ∀ (j : Nat) t v, Tryz.f3.params[j]? = some t → args[j]? = some v → Value.okWide Tryz.prog W .any base t v)
    (hW : DataW.Whole enc Tryz.prog Tryz.f3.params.toList Rows.dumpReadsSpec.vars false W args.toList ds gs before) (hL : laidMetH Tryz.prog Rows.dumpReadsUptoRow.laid W) (hsh : W.ShapedOpen Tryz.prog)
    (hk : Rows.uptoSmall H (ds ++ gs) = true) :
    Calls Tryz.prog 3 args W fun e W' => ∃ v, e = .returned v ∧ Rows.dumpReadsSpec.post enc Tryz.prog Tryz.f3 false true false false W args v W' := by
  have hW' := hW
  obtain ⟨p, q, hA0, hV, rfl, hfz, hnd⟩ := hW
  have hA : DataW.TrodAll enc Tryz.prog W 0 (fun _ => true) true Tryz.f3.params.toList args.toList ds p := hA0
  rw [Tryz.params3] at hA hval
  obtain ⟨v0, d0, rfl, rfl, h0⟩ := trodAll_one hA
  obtain ⟨rfl, rfl⟩ := trodVars_none hV
  have h0k := h0
  obtain ⟨a0, len0, cap0, hv0⟩ := okWide_slice Tryz.underlying22 (hval 0 22 v0 rfl rfl)
  obtain ⟨l, hr, hl⟩ := open_texts h0 ⟨a0, len0, cap0, hv0⟩
  clear hA0
  simp only [List.append_nil] at hW' hk
  have hb : Rows.uptoBulkAll [d0] ≤ 1048576 := of_decide_eq_true hk
  simp only [Rows.uptoBulkAll] at hb
  have hz : sumL l ≤ 1048574 ∨ l = [] := by
    cases l with
    | nil => exact .inr rfl
    | cons s r => left; simp only [List.length_cons] at hl; omega
  have hz' : sumL l ≤ 1048574 := by
    rcases hz with h | rfl
    · exact h
    · exact Nat.zero_le _
  have hlt1 : ∀ x ∈ p, x.block < W.heap.size := fun x hx => by simpa using hW'.lt x (by simp [hx])
  refine (law_any v0 l W (by omega) hz' hr (env_of hL hsh)).mono fun e W' ⟨he, hbel⟩ => ?_
  subst he
  exact ⟨_, rfl, _, _, _, [], p, [], hW', trodAll_mk1 (shut_bool Tryz.underlying4 true), trodAll_mk1 (Below.trod laidOut' (by kernel_rfl) (of_decide_eq_true (by kernel_rfl)) h0k hbel hlt1), rfl, hbel.frame _, fun h => by cases h⟩

/-- A WORLD FOR THE WITNESS: every listed variable laid. -/
noncomputable def wit (os : Os) : World := World.laidAll Tryz.prog os Rows.dumpReadsUptoRow.laid
theorem laid_met (os : Os) : laidMet Tryz.prog Rows.dumpReadsUptoRow.laid ((wit os).forCall (fun _ _ => 0) ⟨#[], #[.slice none 0 0], []⟩).memory :=
  laidMet_laidAll _ (by kernel_rfl) (by kernel_rfl)
theorem reads (os : Os) {H : Type} (enc : TypeId × Value → H) : ∃ places, DataW.whole enc Tryz.prog ((wit os).forCall (fun _ _ => 0) ⟨#[], #[.slice none 0 0], []⟩).memory Tryz.f3.params.toList Rows.dumpReadsSpec.vars false #[Value.slice none 0 0].toList 8 = some ([.nil], [], places) :=
  ⟨[], by kernel_rfl⟩

theorem liftedUpto (os : Os) (started : os.Started) (H : Type) (enc : TypeId × Value → H) (F : Stop.Interp) :
    ReturnsInHanded {} Tryz.checked os 3 .any ((Rows.OpenSpec.upto Rows.dumpReadsSpec).preRow enc Tryz.prog Tryz.f3 Rows.dumpReadsUptoRow.domain false Rows.dumpReadsUptoRow.laid) (((Rows.OpenSpec.upto Rows.dumpReadsSpec).at F).post enc Tryz.prog Tryz.f3 false true false false) := by
  obtain ⟨places, hx⟩ := reads os enc
  refine returnsInHanded_of_row (C := Tryz.checked) (s := Rows.OpenSpec.upto Rows.dumpReadsSpec) ownKnob' started (by kernel_rfl) Tryz.func3
    ⟨wit os, fun _ _ => 0, ⟨#[], #[.slice none 0 0], []⟩, World.laidAll_os _ _ _, World.shaped_of_ZipB (by kernel_rfl) (by kernel_rfl), rfl, (Input.okWide_of_okWideB (by kernel_rfl)).2,
      OpenSpec.preRow_of_cond 8 hx (by kernel_rfl) (fun k hk => by cases hk; kernel_rfl) (by kernel_rfl) (laid_met os), by
      simp only [Assume.holds]
      exact ⟨by simp, by simp, fun _ => Modest.zero, by simp, by simp⟩⟩ ?_
  intro W base args ds gs before hval hW _ hcond _ hL hsh _
  exact contract H enc W base args ds gs before hval hW hL hsh (hcond _ rfl)

theorem saidUpto : Rows.DumpReadsUptoSaid :=
  OpenClaim.holds_of_cond 3 Tryz.f3 rfl rfl rfl rfl rfl rfl rfl ⟨rfl, rfl, rfl, rfl, rfl⟩ rfl rfl rfl rfl rfl (by kernel_rfl) Tryz.func3 (by kernel_rfl)
    (of_decide_eq_true (by kernel_rfl)) (by unfold Func.isWrapper; first | (rw [if_pos (by decide +kernel)]; kernel_rfl) | (rw [if_neg (by decide +kernel)]; exact ⟨rfl, rfl⟩))
    (fun os started H enc _ F => by rw [OpenClaim.pre_eq_preRow]; exact liftedUpto os started H enc F)

theorem plain (f : FuncId) (fn : Func) (hf : Tryz.pinned.checked.prog.funcNamed "stencil/stencillaw22.DumpReads" = some f) (hfn : Tryz.pinned.checked.prog.funcs[f]? = some fn) :
    true = Tryz.pinned.checked.prog.looks [] ∧ ∀ (j : Nat) t, fn.params[j]? = some t → Tryz.pinned.checked.prog.wantsStandIn t = false := by
  obtain rfl : f = 3 := Option.some.inj ((show Tryz.prog.funcNamed "stencil/stencillaw22.DumpReads" = some 3 by kernel_rfl).symm.trans hf) |>.symm
  obtain rfl : fn = Tryz.f3 := (Option.some.inj (Tryz.func3.symm.trans hfn)).symm
  refine ⟨by kernel_rfl, fun j t ht => ?_⟩
  rw [Tryz.params3] at ht
  have h : t = 22 := by simpa using Array.mem_of_getElem? ht
  rcases h with rfl
  exact (show Tryz.prog.wantsStandIn 22 = false by kernel_rfl)
end Go.Proofs.YtjohlabdjdhpfaaGreatDoor.Rd
namespace Go.Proofs.YtjohlabdjdhpfaaGreatDoor
theorem dumpReadsUpto_card : Rows.DumpReadsUptoCardSaid :=
  Claim7.holds_tied_plain_at .later [] _ _ _ _ Rd.saidUpto (fun _ h => by cases h) (by kernel_rfl) (fun _ h => by cases h) dumpReadsUpto_row_tie rfl ⟨rfl, rfl⟩ (by kernel_rfl) rfl Rd.plain (by kernel_rfl)
#print axioms dumpReadsUpto_card
end Go.Proofs.YtjohlabdjdhpfaaGreatDoor
