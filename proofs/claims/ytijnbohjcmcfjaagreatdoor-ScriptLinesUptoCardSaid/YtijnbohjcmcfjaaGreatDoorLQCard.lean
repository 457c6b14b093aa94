/-
  PROVED: stencillaw25.ScriptLines, the second form: where what it reads is of bulk at most 1048576, the call returns true and its arguments read as they did. (Conditions: that bulk; the package-level variables hold what the program's text lays.)
-/
import Derived.Test.YtijnbohjcmcfjaaGreatDoorCards
import Derived.Test.YtijnbohjcmcfjaaGreatDoorTie
import Derived.Test.YtijnbohjcmcfjaaGreatDoorLQq
import Derived.Test.YtijnbohjcmcfjaaGreatDoorLQFacts
import Derived.ProofKit
import Derived.Deep.Slices
import Derived.Deep.Fields
import Derived.Lib.SmallJoins
import Derived.OpenShut
import Derived.Deep.DeepHandedRow
import Derived.Lib.LaidTab
import Derived.Carry
import Derived.Lay
import Derived.Stop.LaidErr
import Derived.Shelf.Vars
import Derived.ChangeSame
namespace Go.Proofs.YtijnbohjcmcfjaaGreatDoor.Sc
open Go.ChangeMaps (open_string shut_string)
open Go.Joins Go.ChangeShapes Go.WideShapes Go.ChangeAt Go.RowKit Go.Proofs.YtijnbohjcmcfjaaGreatDoor.Kt Go.Proofs.YtijnbohjcmcfjaaGreatDoor.Lk Go.Proofs.YtijnbohjcmcfjaaGreatDoor.Nu Go.Deep
set_option linter.unusedVariables false
set_option maxRecDepth 100000

section
variable {H : Type} {enc : TypeId × Value → H} {P : Program} {w : World} {base : Nat} {spare : Nat → Bool} {held : Bool}
/-- a struct of five cells that came in -/
theorem open_five {r : Reach} {b0 : Nat} {t : TypeId} {f0 f1 f2 f3 f4 : Field} {v : Value} {d : DataW H} {p : List MemPlace} (hs : P.underlying t = some (.struct #[f0, f1, f2, f3, f4])) (hone : oneCellFields P #[f0, f1, f2, f3, f4] = true) (hC : P.cellsOf t = 5)
    (hv : Value.okWide P w r b0 t v) (h : DataW.Trod enc P w base spare held t v d p) :
    ∃ (v0 v1 v2 v3 v4 : Value) (y0 y1 y2 y3 y4 : DataW H × List MemPlace) (n : Nat), v = .agg #[v0, v1, v2, v3, v4] ∧ d = .agg [y0.1, y1.1, y2.1, y3.1, y4.1] ∧
      DataW.trod enc P w base spare held n f0.type [v0] = some y0 ∧ DataW.trod enc P w base spare held n f1.type [v1] = some y1 ∧ DataW.trod enc P w base spare held n f2.type [v2] = some y2 ∧ DataW.trod enc P w base spare held n f3.type [v3] = some y3 ∧ DataW.trod enc P w base spare held n f4.type [v4] = some y4 := by
  obtain ⟨cs, rfl, hsz⟩ := okWide_struct hs hv
  obtain ⟨l⟩ := cs
  match l, hsz.trans hC with
  | [c0, c1, c2, c3, c4], _ =>
    obtain ⟨fuel, hf⟩ := h
    obtain ⟨xs, n, _, hx, _, hlen, hg⟩ := DataW.trod_struct hs hf
    obtain ⟨o0, k0⟩ := hone_of hone 0 f0 rfl
    obtain ⟨o1, k1⟩ := hone_of hone 1 f1 rfl
    obtain ⟨o2, k2⟩ := hone_of hone 2 f2 rfl
    obtain ⟨o3, k3⟩ := hone_of hone 3 f3 rfl
    obtain ⟨o4, k4⟩ := hone_of hone 4 f4 rfl
    match xs, hlen with
    | [y0, y1, y2, y3, y4], _ =>
      simp only [Prod.mk.injEq] at hx
      exact ⟨c0, c1, c2, c3, c4, y0, y1, y2, y3, y4, n, rfl, by simpa using hx.1, by simpa [Value.cells, o0, k0] using hg 0 f0 rfl, by simpa [Value.cells, o1, k1] using hg 1 f1 rfl, by simpa [Value.cells, o2, k2] using hg 2 f2 rfl, by simpa [Value.cells, o3, k3] using hg 3 f3 rfl, by simpa [Value.cells, o4, k4] using hg 4 f4 rfl⟩
end
theorem bounds_u64 {n : Int} (h : (Lit.int .u64 n).wf = true) : 0 ≤ n ∧ n < 18446744073709551616 := by
  have h1 : IntKind.u64.min ≤ n ∧ n ≤ IntKind.u64.max := by simpa [Lit.wf] using h
  have e1 : IntKind.u64.min = 0 := by decide
  have e2 : IntKind.u64.max = 18446744073709551615 := by decide
  rw [e1, e2] at h1
  omega
theorem bulk_words {H : Type} (L : List Nat) : Rows.uptoBulkAll (L.map fun (n : Nat) => (DataW.lit (H := H) (.int .u64 (n : Int)))) = L.length := by
  induction L with
  | nil => rfl
  | cons s r ih =>
    simp only [List.map_cons, Rows.uptoBulkAll, Rows.uptoBulk, ih, List.length_cons]
    omega
/-- a row of words that came in -/
theorem open_words {H : Type} {enc : TypeId × Value → H} {w : World} {spare : Nat → Bool} {held : Bool} {fuel : Nat} {v : Value} {y : DataW H × List MemPlace}
    (h : DataW.trod enc Tryz.prog w 0 spare held fuel 23 [v] = some y) :
    ∃ l : List Nat, WA w v l ∧ (∀ n ∈ l, n < 2 ^ 64) ∧ l.length + 1 ≤ Rows.uptoBulk y.1 := by
  have hC : Tryz.prog.cellsOf 30 = 1 := by kernel_rfl
  rcases open_slice Tryz.underlying23 h with ⟨hcs, hx⟩ | ⟨a, len, cap, m, n, D, Pl, hcs, hb, hl, hm, hmm, hx, hi⟩
  · simp only [List.cons.injEq, and_true] at hcs
    subst hx
    rw [hcs]
    exact ⟨[], .inl ⟨rfl, rfl⟩, by simp, by simp [Rows.uptoBulk]⟩
  · simp only [List.cons.injEq, and_true] at hcs
    rw [hcs]
    subst hx
    rw [hC] at hi
    have hlen : len ≤ m := by rw [hmm]; split <;> omega
    have key : ∀ i, i < len → ∃ x : Nat, w.cell? (a.add i) = some (.int .u64 (x : Int)) ∧ D i = .lit (.int .u64 (x : Int)) ∧ x < 2 ^ 64 := by
      intro i hil
      obtain ⟨cs', hc, ht'⟩ := hi i (by omega)
      obtain ⟨z, e0, hx0, hwf⟩ := DataW.trod_int Tryz.underlying30 ht'
      obtain ⟨_, hcl, hat⟩ := World.cells?_some hc
      have h0 := hat 0 (by omega)
      rw [e0] at h0
      simp only [Prod.mk.injEq] at hx0
      have hz := bounds_u64 hwf
      have ez : ((z.toNat : Nat) : Int) = z := by omega
      refine ⟨z.toNat, ?_, by rw [ez]; exact hx0.1, by omega⟩
      rw [Nat.mul_one] at h0
      rw [ez]
      simpa [Addr.add] using h0
    obtain ⟨f, hfx⟩ := choose_lt (α := Nat) (p := fun i x => w.cell? (a.add i) = some (.int .u64 (x : Int)) ∧ D i = .lit (.int .u64 (x : Int)) ∧ x < 2 ^ 64) key
    have hll : ((List.range len).map f).length = len := by simp
    have hD : (List.range len).map D = ((List.range len).map f).map fun (n : Nat) => (DataW.lit (H := H) (.int .u64 (n : Int))) := by
      rw [List.map_map]
      refine List.map_congr_left fun i hi => ?_
      exact (hfx i (List.mem_range.1 hi)).2.1
    refine ⟨(List.range len).map f, ?_, ?_, ?_⟩
    · by_cases h0 : len = 0
      · subst h0; exact .inr (.inl ⟨a, cap, rfl, rfl⟩)
      · have hsp : a.spot = none := by
          have h1 := (hfx 0 (by omega)).1
          rw [show a.add 0 = a from by unfold Addr.add; simp] at h1
          unfold World.cell? at h1
          split at h1
          · cases hs : a.spot with
            | none => rfl
            | some q => rw [hs] at h1; simp at h1
          · cases h1
        obtain ⟨b, off, sp⟩ := a
        dsimp only at hsp
        subst hsp
        refine .inr (.inr ⟨b, off, cap, by rw [hll], fun i hil => ?_⟩)
        have hil' : i < len := by simpa using hil
        have := (hfx i hil').1
        rw [show (⟨b, off, none⟩ : Addr).add i = ⟨b, off + i, none⟩ from by unfold Addr.add; split <;> simp_all] at this
        simp only [List.getElem_map, List.getElem_range]
        exact this
    · intro n hn
      obtain ⟨i, hi, rfl⟩ := List.mem_map.1 hn
      exact (hfx i (List.mem_range.1 hi)).2.2
    · simp only [Rows.uptoBulk, hD]
      rw [bulk_words]
      omega

theorem ownKnob' : ownKnob Tryz.prog.godebug = none := by kernel_rfl
theorem laidOut' : laidOutB Tryz.prog = true := by kernel_rfl
theorem gTabType : (Tryz.prog.globals[0]?).map (·.type) = some 150 := by kernel_rfl
theorem gSizeType : (Tryz.prog.globals[1]?).map (·.type) = some 155 := by kernel_rfl
theorem env_of {W : World} (h : laidMetH Tryz.prog Rows.scriptLinesUptoRow.laid W) (hs : W.ShapedOpen Tryz.prog) : EnvS W := by
  have h0 : laidMet Tryz.prog Rows.scriptLinesUptoRow.laid W := h
  have h8 := laidMet.tail (laidMet.tail (laidMet.tail (laidMet.tail (laidMet.tail (laidMet.tail (laidMet.tail (laidMet.tail h0)))))))
  have h12 := laidMet.tail (laidMet.tail (laidMet.tail (laidMet.tail h8)))
  refine ⟨Lib.tabIs_of_head gSizes gSizeType Tryz.underlying155 Tryz.underlying3 (by kernel_rfl) (by kernel_rfl) h12, ?_, Lib.tabIs_of_head gTab gTabType Tryz.underlying150 Tryz.underlying30 (by kernel_rfl) (by kernel_rfl) h8⟩
  exact Go.Proofs.cell_of_shapedOpen_int hs (t := 3) (zero := #[.int .i64 0]) (by decide) (by kernel_rfl) rfl (by kernel_rfl) (by kernel_rfl) Tryz.underlying3

theorem bounds_i64 {n : Int} (h : (Lit.int .i64 n).wf = true) : -9223372036854775808 ≤ n ∧ n ≤ 9223372036854775807 := by
  have h1 : IntKind.i64.min ≤ n ∧ n ≤ IntKind.i64.max := by simpa [Lit.wf] using h
  have e1 : IntKind.i64.min = -9223372036854775808 := by decide
  have e2 : IntKind.i64.max = 9223372036854775807 := by decide
  rw [e1, e2] at h1
  exact h1
theorem contract (H : Type) (enc : TypeId × Value → H) (W : World) (base : Nat) (args : Array Value) (ds gs : List (DataW H)) (before : List MemPlace)
    (hval : ∀ (j : Nat) t v, Tryz.f4.params[j]? = some t → args[j]? = some v → Value.okWide Tryz.prog W .any base t v)
    (hW : DataW.Whole enc Tryz.prog Tryz.f4.params.toList Rows.scriptLinesSpec.vars false W args.toList ds gs before) (hL : laidMetH Tryz.prog Rows.scriptLinesUptoRow.laid W) (hsh : W.ShapedOpen Tryz.prog)
    (hk : Rows.uptoSmall H (ds ++ gs) = true) :
    Calls Tryz.prog 4 args W fun e W' => ∃ v, e = .returned v ∧ Rows.scriptLinesSpec.post enc Tryz.prog Tryz.f4 false true false false W args v W' := by
  have hW' := hW
  obtain ⟨p, q, hA0, hV, rfl, hfz, hnd⟩ := hW
  have hA : DataW.TrodAll enc Tryz.prog W 0 (fun _ => true) true Tryz.f4.params.toList args.toList ds p := hA0
  rw [Tryz.params4] at hA hval
  obtain ⟨v0, v1, v2, v3, d0, d1, d2, d3, p0, p1, p2, p3, rfl, rfl, rfl, h0, h1, h2, h3⟩ := trodAll_four hA
  obtain ⟨rfl, rfl⟩ := trodVars_none hV
  have h1k := h1
  have h2k := h2
  obtain ⟨s, rfl, rfl, rfl, hs0⟩ := open_string Tryz.underlying9 (hval 0 9 v0 rfl rfl) h0
  obtain ⟨u0, u1, u2, u3, u4, y0, y1, y2, y3, y4, fuel, rfl, rfl, t0, t1, t2, t3, t4⟩ := open_five Tryz.underlying25 (by kernel_rfl) (by kernel_rfl) (hval 1 25 v1 rfl rfl) h1
  obtain ⟨kd, e0, hx0, _⟩ := DataW.trod_int Tryz.underlying22 t0
  obtain ⟨nm, e1, hx1, _⟩ := DataW.trod_string Tryz.underlying9 t1
  obtain ⟨ws, hr, hws, hwl⟩ := open_words t2
  obtain ⟨ct, e3, hx3, _⟩ := DataW.trod_int Tryz.underlying3 t3
  obtain ⟨tx, e4, hx4, _⟩ := DataW.trod_string Tryz.underlying9 t4
  simp only [List.cons.injEq, and_true] at e0 e1 e3 e4
  subst e0; subst e1; subst e3; subst e4
  obtain ⟨a0, a1, a2, z0, z1, z2, fuel2, rfl, rfl, _, k0, k1, k2⟩ := Joins.open_agg3 Tryz.underlying36 (by kernel_rfl) (by kernel_rfl) (hval 2 36 v2 rfl rfl) h2
  obtain ⟨tw, htr, htws, htwl⟩ := open_words k0
  obtain ⟨tct, f1, gx1, hwf1⟩ := DataW.trod_int Tryz.underlying3 k1
  obtain ⟨ttx, f2, gx2, _⟩ := DataW.trod_string Tryz.underlying9 k2
  simp only [List.cons.injEq, and_true] at f1 f2
  subst f1; subst f2
  obtain ⟨er, rfl, rfl, rfl, hwf3⟩ := open_int Tryz.underlying26 (hval 3 26 v3 rfl rfl) h3
  have b1 := bounds_i64 hwf1
  have b3 := bounds_i64 hwf3
  clear hA0
  simp only [List.append_nil] at hW' hk
  have hb : Rows.uptoBulkAll [DataW.lit (.string s.data.toList), DataW.agg [y0.1, y1.1, y2.1, y3.1, y4.1], DataW.agg [z0.1, z1.1, z2.1], DataW.lit (.int .i64 er)] ≤ 1048576 := of_decide_eq_true hk
  simp only [Rows.uptoBulkAll, Rows.uptoBulk, hx1, hx4, gx2] at hb
  have hlen : ∀ b : ByteArray, b.data.toList.length = b.size := fun b => by rw [Array.length_toList]; rfl
  rw [hlen, hlen, hlen, hlen] at hb
  have hlt1 : ∀ x ∈ p1, x.block < W.heap.size := fun x hx => by simpa using hW'.lt x (by simp [hx])
  have hlt2 : ∀ x ∈ p2, x.block < W.heap.size := fun x hx => by simpa using hW'.lt x (by simp [hx])
  refine (lines_any s kd ct nm tx ws u2 tct ttx tw a0 er W (by omega) hr hws (by omega) (by omega) (by omega) htr htws (by omega) (by omega) b3.1 b3.2 b1.1 b1.2 (env_of hL hsh)).mono fun e W' ⟨he, hbel⟩ => ?_
  subst he
  refine ⟨_, rfl, _, _, _, [], _, [], hW', trodAll_mk1 (shut_bool Tryz.underlying4 true), trodAll_mk4 (shut_string Tryz.underlying9 hs0) (Below.trod laidOut' (by kernel_rfl) (of_decide_eq_true (by kernel_rfl)) h1k hbel hlt1) (Below.trod laidOut' (by kernel_rfl) (of_decide_eq_true (by kernel_rfl)) h2k hbel hlt2) (shut_int Tryz.underlying26 hwf3), rfl, hbel.frame _, fun h => by cases h⟩

/-- A WORLD FOR THE WITNESS: every listed variable laid. -/
noncomputable def wit (os : Os) : World := World.laidAll Tryz.prog os Rows.scriptLinesUptoRow.laid
theorem laid_met (os : Os) : laidMet Tryz.prog Rows.scriptLinesUptoRow.laid ((wit os).forCall (fun _ _ => 0) ⟨#[], #[.string ⟨#[]⟩, .agg #[.int .i64 0, .string ⟨#[]⟩, .slice none 0 0, .int .i64 0, .string ⟨#[]⟩], .agg #[.slice none 0 0, .int .i64 0, .string ⟨#[]⟩], .int .i64 0], []⟩).memory :=
  laidMet_laidAll _ (by kernel_rfl) (by kernel_rfl)
theorem reads (os : Os) {H : Type} (enc : TypeId × Value → H) : ∃ places, DataW.whole enc Tryz.prog ((wit os).forCall (fun _ _ => 0) ⟨#[], #[.string ⟨#[]⟩, .agg #[.int .i64 0, .string ⟨#[]⟩, .slice none 0 0, .int .i64 0, .string ⟨#[]⟩], .agg #[.slice none 0 0, .int .i64 0, .string ⟨#[]⟩], .int .i64 0], []⟩).memory Tryz.f4.params.toList Rows.scriptLinesSpec.vars false #[Value.string ⟨#[]⟩, .agg #[.int .i64 0, .string ⟨#[]⟩, .slice none 0 0, .int .i64 0, .string ⟨#[]⟩], .agg #[.slice none 0 0, .int .i64 0, .string ⟨#[]⟩], .int .i64 0].toList 8 = some ([.lit (.string []), .agg [.lit (.int .i64 0), .lit (.string []), .nil, .lit (.int .i64 0), .lit (.string [])], .agg [.nil, .lit (.int .i64 0), .lit (.string [])], .lit (.int .i64 0)], [], places) :=
  ⟨[], by kernel_rfl⟩

theorem liftedUpto (os : Os) (started : os.Started) (H : Type) (enc : TypeId × Value → H) (F : Stop.Interp) :
    ReturnsInHanded {} Tryz.checked os 4 .any ((Rows.OpenSpec.upto Rows.scriptLinesSpec).preRow enc Tryz.prog Tryz.f4 Rows.scriptLinesUptoRow.domain false Rows.scriptLinesUptoRow.laid) (((Rows.OpenSpec.upto Rows.scriptLinesSpec).at F).post enc Tryz.prog Tryz.f4 false true false false) := by
  obtain ⟨places, hx⟩ := reads os enc
  refine returnsInHanded_of_row (C := Tryz.checked) (s := Rows.OpenSpec.upto Rows.scriptLinesSpec) ownKnob' started (by kernel_rfl) Tryz.func4
    ⟨wit os, fun _ _ => 0, ⟨#[], #[.string ⟨#[]⟩, .agg #[.int .i64 0, .string ⟨#[]⟩, .slice none 0 0, .int .i64 0, .string ⟨#[]⟩], .agg #[.slice none 0 0, .int .i64 0, .string ⟨#[]⟩], .int .i64 0], []⟩, World.laidAll_os _ _ _, World.shaped_of_ZipB (by kernel_rfl) (by kernel_rfl), rfl, (Input.okWide_of_okWideB (by kernel_rfl)).2,
      OpenSpec.preRow_of_cond 8 hx (by kernel_rfl) (fun k hk => by cases hk; kernel_rfl) (by kernel_rfl) (laid_met os), by
      simp only [Assume.holds]
      exact ⟨by simp, by simp, fun _ => Modest.zero, by simp, by simp⟩⟩ ?_
  intro W base args ds gs before hval hW _ hcond _ hL hsh _
  exact contract H enc W base args ds gs before hval hW hL hsh (hcond _ rfl)

theorem saidUpto : Rows.ScriptLinesUptoSaid :=
  OpenClaim.holds_of_cond 4 Tryz.f4 rfl rfl rfl rfl rfl rfl rfl ⟨rfl, rfl, rfl, rfl, rfl⟩ rfl rfl rfl rfl rfl (by kernel_rfl) Tryz.func4 linesFacts linesInst linesWrap
    (fun os started H enc _ F => by rw [OpenClaim.pre_eq_preRow]; exact liftedUpto os started H enc F)

theorem plain (f : FuncId) (fn : Func) (hf : Tryz.pinned.checked.prog.funcNamed "stencil/stencillaw25.ScriptLines" = some f) (hfn : Tryz.pinned.checked.prog.funcs[f]? = some fn) :
    true = Tryz.pinned.checked.prog.looks [] ∧ ∀ (j : Nat) t, fn.params[j]? = some t → Tryz.pinned.checked.prog.wantsStandIn t = false := by
  obtain rfl : f = 4 := Option.some.inj ((show Tryz.prog.funcNamed "stencil/stencillaw25.ScriptLines" = some 4 by kernel_rfl).symm.trans hf) |>.symm
  obtain rfl : fn = Tryz.f4 := (Option.some.inj (Tryz.func4.symm.trans hfn)).symm
  refine ⟨by kernel_rfl, fun j t ht => ?_⟩
  rw [Tryz.params4] at ht
  have h : t = 9 ∨ t = 25 ∨ t = 36 ∨ t = 26 := by simpa using Array.mem_of_getElem? ht
  rcases h with rfl | rfl | rfl | rfl
  · exact (show Tryz.prog.wantsStandIn 9 = false by kernel_rfl)
  · exact (show Tryz.prog.wantsStandIn 25 = false by kernel_rfl)
  · exact (show Tryz.prog.wantsStandIn 36 = false by kernel_rfl)
  · exact (show Tryz.prog.wantsStandIn 26 = false by kernel_rfl)
end Go.Proofs.YtijnbohjcmcfjaaGreatDoor.Sc
namespace Go.Proofs.YtijnbohjcmcfjaaGreatDoor
theorem scriptLinesUpto_card : Rows.ScriptLinesUptoCardSaid :=
  Claim7.holds_tied_plain_at .later [] _ _ _ _ Sc.saidUpto (fun _ h => by cases h) (by kernel_rfl) (fun _ h => by cases h) scriptLinesUpto_row_tie rfl ⟨rfl, rfl⟩ (by kernel_rfl) rfl Sc.plain (by kernel_rfl)
#print axioms scriptLinesUpto_card
end Go.Proofs.YtijnbohjcmcfjaaGreatDoor
