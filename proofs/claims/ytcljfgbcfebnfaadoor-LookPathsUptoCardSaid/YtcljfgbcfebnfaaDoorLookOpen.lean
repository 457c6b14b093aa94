/-
  A path that came in, opened: the steps that it reads as, and how many letters they have.
-/
import Derived.Test.YtcljfgbcfebnfaaDoorLookLaw
import Derived.Test.YtcljfgbcfebnfaaDoorRows
import Derived.ProofKit
import Derived.Deep.Slices
import Derived.Deep.Fields
import Derived.ChangeSame
namespace Go.Proofs.YtcljfgbcfebnfaaDoor.Lk
open Go.RowKit Go.Proofs.YtcljfgbcfebnfaaDoor.Kt Go.ChangeShapes Go.WideShapes Go.Deep
set_option linter.unusedSimpArgs false
set_option linter.unusedVariables false

section
variable {H : Type} {enc : TypeId × Value → H} {P : Program} {w : World} {base : Nat} {spare : Nat → Bool} {held : Bool}
theorem open_slice_fields {t e : TypeId} {fs : Array Field} {fuel : Nat} {cs : List Value} {x : DataW H × List MemPlace} (ht : P.underlying t = some (.slice e)) (he : P.underlying e = some (.struct fs))
    (hone : oneCellFields P fs = true) (hC : P.cellsOf e = fs.size) (h : DataW.trod enc P w base spare held fuel t cs = some x) :
    (cs = [.slice none 0 0] ∧ x = (.nil, [])) ∨
    ∃ (a : Addr) (len cap m : Nat) (D : Nat → DataW H) (Pl : Nat → List MemPlace), cs = [.slice (some a) len cap] ∧ base ≤ a.block ∧ len ≤ cap ∧ cap ≤ maxLen ∧ m = (if spare a.block then cap else len) ∧
      x = (.slice ((List.range len).map D) ((List.range (m - len)).map fun j => D (len + j)), MemPlace.row a (m * fs.size) ++ (List.range m).flatMap Pl) ∧
      ∀ i, i < m → ∃ (ys : List (DataW H × List MemPlace)) (n : Nat), D i = .agg (ys.map (·.1)) ∧ Pl i = ys.flatMap (·.2) ∧ ys.length = fs.size ∧
        ∀ (j : Nat) (f : Field), fs[j]? = some f → ∃ (v : Value) (y : DataW H × List MemPlace), w.cell? (a.add (i * fs.size + j)) = some v ∧ ys[j]? = some y ∧ DataW.trod enc P w base spare held n f.type [v] = some y := by
  rcases open_slice ht h with h0 | ⟨a, len, cap, m, n, D, Pl, hcs, hb, hl, hm, hmm, hx, hi⟩
  · exact .inl h0
  · refine .inr ⟨a, len, cap, m, D, Pl, hcs, hb, hl, hm, hmm, by rw [hC] at hx; exact hx, fun i him => ?_⟩
    obtain ⟨cs', hc, ht'⟩ := hi i him
    rw [hC] at hc
    obtain ⟨ys, n', hn', hy, hlen, hyl, hf⟩ := DataW.trod_struct he ht'
    obtain ⟨_, hcl, hat⟩ := World.cells?_some hc
    simp only [Prod.mk.injEq] at hy
    refine ⟨ys, n', hy.1, hy.2, hyl, fun j f hj => ?_⟩
    obtain ⟨ho, hk⟩ := hone_of hone j f hj
    have hjl : j < fs.size := (Array.getElem?_eq_some_iff.1 hj).1
    have hcell := hat j hjl
    have hv : cs'[j]? = some (cs'[j]'(by omega)) := List.getElem?_eq_getElem (by omega)
    have h1 := hf j f hj
    rw [ho, hk] at h1
    have hone' : (cs'.drop j).take 1 = [cs'[j]'(by omega)] := by
      rw [List.drop_eq_getElem_cons (by omega)]
      rfl
    rw [hone'] at h1
    have hys : ys[j]? = some (ys[j]'(by omega)) := List.getElem?_eq_getElem (by omega)
    refine ⟨_, _, ?_, hys, h1.trans hys⟩
    rw [← Go.Deep.add_add, hcell, hv]
end

theorem one_le {H : Type} (d : DataW H) : 1 ≤ Rows.uptoBulk d := by
  cases d with
  | lit l => cases l <;> simp [Rows.uptoBulk]
  | nil => simp [Rows.uptoBulk]
  | ptr d => simp [Rows.uptoBulk]
  | slice elems spare => simp [Rows.uptoBulk]
  | agg parts => simp [Rows.uptoBulk]
  | iface t d => simp [Rows.uptoBulk]
  | map entries => simp [Rows.uptoBulk]
  | held h => simp [Rows.uptoBulk]
theorem part_le {H : Type} {d : DataW H} {l : List (DataW H)} (h : d ∈ l) : Rows.uptoBulk d ≤ Rows.uptoBulkAll l := by
  induction l with
  | nil => cases h
  | cons x r ih =>
    simp only [Rows.uptoBulkAll]
    cases List.mem_cons.1 h with
    | inl e => subst e; omega
    | inr e => have := ih e; omega
theorem length_le {H : Type} (l : List (DataW H)) : l.length ≤ Rows.uptoBulkAll l := by
  induction l with
  | nil => simp [Rows.uptoBulkAll]
  | cons x r ih => have := one_le x; simp only [Rows.uptoBulkAll, List.length_cons]; omega

/-- a path that came in -/
theorem open_path {H : Type} {enc : TypeId × Value → H} {w : World} {spare : Nat → Bool} {held : Bool} {v : Value} {d : DataW H} {p : List MemPlace}
    (h : DataW.Trod enc Tryd.prog w 0 spare held 22 v d p) (hok : ∃ (A : Option Addr) (n c : Nat), v = .slice A n c) :
    ∃ (A : Option Addr) (cap : Nat) (l : List Step), v = .slice A l.length cap ∧ Reads w v l ∧ l.length ≤ Rows.uptoBulk d ∧ ∀ x ∈ l, x.1.size ≤ Rows.uptoBulk d := by
  obtain ⟨A0, n0, c0, rfl⟩ := hok
  obtain ⟨fuel, hf⟩ := h
  rcases open_slice_fields Tryd.underlying22 Tryd.underlying46 (by kernel_rfl) (by kernel_rfl) (by simpa [Value.cells] using hf) with ⟨hcs, hx⟩ | ⟨a, len, cap, m, D, Pl, hcs, hb, hl, hm, hmm, hx, hi⟩
  · simp only [List.cons.injEq, and_true] at hcs
    rw [hcs]
    exact ⟨none, 0, [], rfl, .inl ⟨rfl, .inl rfl⟩, Nat.zero_le _, fun x hx => by cases hx⟩
  · simp only [List.cons.injEq, and_true] at hcs
    rw [hcs]
    simp only [Prod.mk.injEq] at hx
    obtain ⟨rfl, -⟩ := hx
    have hlen : len ≤ m := by rw [hmm]; split <;> omega
    have key : ∀ i, i < len → ∃ x : Step, w.cell? (a.add (i * 2)) = some (.string x.1) ∧ w.cell? (a.add (i * 2 + 1)) = some (.int .i64 x.2) ∧ D i = .agg [.lit (.string x.1.data.toList), .lit (.int .i64 x.2)] := by
      intro i hil
      obtain ⟨ys, n, hD, hP, hyl, hfl⟩ := hi i (by omega)
      obtain ⟨v0, y0, hc0, hy0, ht0⟩ := hfl 0 _ rfl
      obtain ⟨v1, y1, hc1, hy1, ht1⟩ := hfl 1 _ rfl
      have hys : ys = [y0, y1] := by
        match ys, hyl with
        | [z0, z1], _ => simp at hy0 hy1; rw [hy0, hy1]
      obtain ⟨s, e0, hx0⟩ := DataW.trod_string Tryd.underlying9 ht0
      obtain ⟨z, e1, hx1, _⟩ := DataW.trod_int Tryd.underlying3 ht1
      simp at e0 e1
      subst e0
      subst e1
      refine ⟨(s, z), by simpa using hc0, hc1, ?_⟩
      rw [hD, hys]
      simp [hx0, hx1]
    obtain ⟨f, hfx⟩ := choose_lt (α := Step) (p := fun i x => w.cell? (a.add (i * 2)) = some (.string x.1) ∧ w.cell? (a.add (i * 2 + 1)) = some (.int .i64 x.2) ∧ D i = .agg [.lit (.string x.1.data.toList), .lit (.int .i64 x.2)]) key
    have hll : ((List.range len).map f).length = len := by simp
    refine ⟨some a, cap, (List.range len).map f, by rw [hll], ?_, ?_, ?_⟩
    · rw [show Value.slice (some a) len cap = Value.slice (some a) ((List.range len).map f).length cap by rw [hll]]
      by_cases h0 : len = 0
      · subst h0; exact .inl ⟨rfl, .inr ⟨a, cap, rfl⟩⟩
      · have hsp : a.spot = none := by
          have h1 := (hfx 0 (by omega)).1
          rw [Nat.zero_mul, show a.add 0 = a from by unfold Addr.add; simp] at h1
          unfold World.cell? at h1
          split at h1
          · cases hs : a.spot with
            | none => rfl
            | some q => rw [hs] at h1; simp at h1
          · cases h1
        obtain ⟨b, off, sp⟩ := a
        dsimp only at hsp
        subst hsp
        refine .inr ⟨b, off, cap, rfl, fun i hil => ?_⟩
        have hil' : i < len := by simpa using hil
        have := hfx i hil'
        have ea : ∀ k, (⟨b, off, none⟩ : Addr).add k = ⟨b, off + k, none⟩ := fun k => by unfold Addr.add; split <;> simp_all
        rw [ea, ea] at this
        simp only [List.getElem_map, List.getElem_range]
        exact ⟨this.1, by rw [Nat.add_assoc]; exact this.2.1⟩
    · rw [hll]
      simp only [Rows.uptoBulk]
      have := length_le ((List.range len).map D)
      simp at this
      omega
    · intro x hxm
      obtain ⟨i, hir, rfl⟩ := List.mem_map.1 hxm
      have hil := List.mem_range.1 hir
      have hD := (hfx i hil).2.2
      have hp : Rows.uptoBulk (D i) ≤ Rows.uptoBulkAll ((List.range len).map D) := part_le (List.mem_map.2 ⟨i, hir, rfl⟩)
      rw [hD] at hp
      simp only [Rows.uptoBulk, Rows.uptoBulkAll] at hp ⊢
      have hsz : (f i).1.size = (f i).1.data.toList.length := by rw [Array.length_toList]; rfl
      omega
end Go.Proofs.YtcljfgbcfebnfaaDoor.Lk
