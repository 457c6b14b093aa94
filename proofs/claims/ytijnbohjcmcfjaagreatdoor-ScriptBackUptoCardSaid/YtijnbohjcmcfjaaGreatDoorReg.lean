/-
  A region that draws its order, walked by a plan: operations that touch no memory are taken first, wherever they may come up; what is left comes up one by one and is walked as a list. Plain laws over the kit's own words.
-/
import Derived.Orders
import Derived.Tactics
import Derived.RowKit
namespace Go.Proofs.YtijnbohjcmcfjaaGreatDoor.Rg
open Go Go.RowKit
set_option linter.unusedSimpArgs false
set_option linter.unusedVariables false

section
variable {P : Program} {ops : Array Oper} {Q : Exit → Act → World → Prop}

/-- does a plan fit the region? (some slot, i): i, which writes that slot, may be taken first; (none, i): i alone may come up -/
def planGo (ops : Array Oper) : List (Option Tmp × Nat) → Array Bool → Bool
  | [], l => (Region.ready .any ops l).isEmpty
  | (some N, i) :: r, l => Region.free .any ops l i && (Region.ready .any ops l).contains i && planGo ops r (l.setIfInBounds i true)
  | (none, i) :: r, l => decide (Region.ready .any ops l = [i]) && planGo ops r (l.setIfInBounds i true)
def planOk (ops : Array Oper) (p : List (Option Tmp × Nat)) : Bool := Region.noSelect ops && decide (p.length = ops.size) && planGo ops p (Array.replicate ops.size false)

def wpPlan (P : Program) (ops : Array Oper) (Q : Exit → Act → World → Prop) : List (Option Tmp × Nat) → Act → World → Prop
  | [], a, w => Q .normal a w
  | (some N, i) :: r, a, w => ∃ o v, ops[i]? = some o ∧ o.dst = some N ∧ Yields P ops o v a ∧ wpPlan P ops Q r (a.put (some N) v) w
  | (none, i) :: r, a, w => wpOp P ops Q i (wpPlan P ops Q r) a w

theorem wpAny_of_plan (hs : Region.noSelect ops = true) (hQ : ∀ c a d v w, Q (.panic c) (Act.put a d v) w → Q (.panic c) a w) :
    ∀ (p : List (Option Tmp × Nat)) (l : Array Bool) (a : Act) (w : World), planGo ops p l = true → wpPlan P ops Q p a w → wpAny P .any ops Q p.length l a w
  | [], l, a, w, hp, h => ⟨by simpa [planGo] using hp, h⟩
  | (some N, i) :: r, l, a, w, hp, h => by
    simp only [planGo, Bool.and_eq_true] at hp
    obtain ⟨⟨h1, h2⟩, h3⟩ := hp
    obtain ⟨o, v, hi, hN, hy, hr⟩ := h
    rw [← hN] at hr
    exact wpAny_take hi hs h1 h2 (fun c a w hh => hQ c a _ _ w hh) hy (wpAny_of_plan hs hQ r _ _ w h3 hr)
  | (none, i) :: r, l, a, w, hp, h => by
    simp only [planGo, Bool.and_eq_true, decide_eq_true_eq] at hp
    obtain ⟨h1, h3⟩ := hp
    refine wpAny_all h1 (by simp) fun j hj => ?_
    have : j = i := by simpa using hj
    subst this
    exact wpOp_mono (fun a' w' h' => wpAny_of_plan hs hQ r _ a' w' h3 h') h

theorem wp_region_plan {id : Nat} {a : Act} {w : World} {l : List Oper} (p : List (Option Tmp × Nat)) (hm : P.follows .mixedOrders = true) (hB : planOk l.toArray p = true)
    (hQ : ∀ c a d v w, Q (.panic c) (Act.put a d v) w → Q (.panic c) a w) (h : wpPlan P l.toArray Q p a w.drew) : (Code.region id l.toArray true).wp P Q a w := by
  simp only [planOk, Bool.and_eq_true, decide_eq_true_eq] at hB
  obtain ⟨⟨h1, h2⟩, h3⟩ := hB
  refine wp_region_any hm ?_
  have H := wpAny_of_plan h1 hQ p _ _ _ h3 h
  rw [h2] at H
  exact H

theorem plan_pure {i : Nat} {N : Tmp} {r : List (Option Tmp × Nat)} {o : Oper} {v : Value} {a : Act} {w : World} (hi : ops[i]? = some o) (hN : o.dst = some N) (hy : Yields P ops o v a) {a' : Act} (ha : a.put (some N) v = a')
    (h : wpPlan P ops Q r a' w) : wpPlan P ops Q ((some N, i) :: r) a w := by
  subst ha
  exact ⟨o, v, hi, hN, hy, h⟩
/-- what is left, as a list -/
def picks (ops : List Oper) : List (Option Tmp × Nat) → List Oper
  | [] => []
  | (_, i) :: r => match ops[i]? with | some o => o :: picks ops r | none => picks ops r
def lastly : List (Option Tmp × Nat) → Bool
  | [] => true
  | (b, _) :: r => b.isNone && lastly r
theorem plan_seq {l : List Oper} : ∀ (p : List (Option Tmp × Nat)) (a : Act) (w : World), lastly p = true → wpList P l.toArray Q (picks l p) a w → wpPlan P l.toArray Q p a w
  | [], a, w, _, h => h
  | (some N, i) :: r, a, w, hl, h => by simp [lastly] at hl
  | (none, i) :: r, a, w, hl, h => by
    have hl' : lastly r = true := by simpa [lastly] using hl
    unfold wpPlan wpOp
    unfold picks at h
    cases ho : l[i]? with
    | none =>
      rw [ho] at h
      simp only [List.getElem?_toArray, ho]
      exact plan_seq r a w hl' h
    | some o =>
      rw [ho] at h
      simp only [List.getElem?_toArray, ho]
      simp only [wpList] at h
      split
      · rename_i hw
        rw [if_pos hw] at h
        rcases h with h | h
        · exact .inl (Oper.wp_mono (fun a' w' h' => plan_seq r a' w' hl' h') h)
        · exact .inr h
      · rename_i hw
        rw [if_neg hw] at h
        exact plan_seq r _ w hl' h
/-- one operation that alone may come up -/
theorem plan_alone {l : List Oper} (i : Nat) (r : List (Option Tmp × Nat)) (a : Act) (w : World) (h : wpList P l.toArray (Exit.then (wpPlan P l.toArray Q r) Q) (picks l [(none, i)]) a w) : wpPlan P l.toArray Q ((none, i) :: r) a w := by
  unfold wpPlan wpOp
  unfold picks at h
  cases ho : l[i]? with
  | none =>
    rw [ho] at h
    simp only [List.getElem?_toArray, ho]
    exact h
  | some o =>
    rw [ho] at h
    simp only [List.getElem?_toArray, ho]
    simp only [wpList, picks] at h
    split
    · rename_i hw
      rw [if_pos hw] at h
      rcases h with h | h
      · refine .inl ?_
        unfold Oper.wp at *
        generalize (execOp a.eval o).run P w = res at *
        exact h
      · exact .inr h
    · rename_i hw
      rw [if_neg hw] at h
      exact h
end
end Go.Proofs.YtijnbohjcmcfjaaGreatDoor.Rg
