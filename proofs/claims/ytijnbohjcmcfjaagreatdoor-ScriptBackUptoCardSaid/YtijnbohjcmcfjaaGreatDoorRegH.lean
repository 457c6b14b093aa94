/-
  Plans for a region that draws its order and reads memory beside calls: a condition S on the world holds at its begin and behind each operation that is carried out; what yields in every world that meets S may be taken first.
-/
import Derived.Test.YtijnbohjcmcfjaaGreatDoorReg
import Derived.OrdersHeld
namespace Go.Proofs.YtijnbohjcmcfjaaGreatDoor.Rg
open Go Go.RowKit
set_option linter.unusedSimpArgs false
set_option linter.unusedVariables false
section
variable {P : Program} {ops : Array Oper} {Q : Exit → Act → World → Prop} {S : World → Prop}

def wpPlanH (P : Program) (ops : Array Oper) (Q : Exit → Act → World → Prop) (S : World → Prop) : List (Option Tmp × Nat) → Act → World → Prop
  | [], a, w => Q .normal a w
  | (some N, i) :: r, a, w => ∃ o v, ops[i]? = some o ∧ o.dst = some N ∧ YieldsIf P ops S o v a ∧ wpPlanH P ops Q S r (a.put (some N) v) w
  | (none, i) :: r, a, w => wpOp P ops Q i (fun a' w' => S w' ∧ wpPlanH P ops Q S r a' w') a w

theorem wpAnyH_of_plan (hs : Region.noSelect ops = true) (hQ : ∀ c a d v w, Q (.panic c) (Act.put a d v) w → Q (.panic c) a w) :
    ∀ (p : List (Option Tmp × Nat)) (l : Array Bool) (a : Act) (w : World), planGo ops p l = true → S w → wpPlanH P ops Q S p a w → wpAnyH P .any ops Q S p.length l a w
  | [], l, a, w, hp, _, h => ⟨by simpa [planGo] using hp, h⟩
  | (some N, i) :: r, l, a, w, hp, hS, h => by
    simp only [planGo, Bool.and_eq_true] at hp
    obtain ⟨⟨h1, h2⟩, h3⟩ := hp
    obtain ⟨o, v, hi, hN, hy, hr⟩ := h
    rw [← hN] at hr
    exact wpAnyH_take hi hs h1 h2 (fun c a w hh => hQ c a _ _ w hh) hy hS (wpAnyH_of_plan hs hQ r _ _ w h3 hS hr)
  | (none, i) :: r, l, a, w, hp, hS, h => by
    simp only [planGo, Bool.and_eq_true, decide_eq_true_eq] at hp
    obtain ⟨h1, h3⟩ := hp
    refine wpAnyH_all h1 (by simp) fun j hj => ?_
    have : j = i := by simpa using hj
    subst this
    exact wpOp_mono (fun a' w' h' => ⟨h'.1, wpAnyH_of_plan hs hQ r _ a' w' h3 h'.1 h'.2⟩) h

theorem wp_region_planH {id : Nat} {a : Act} {w : World} {l : List Oper} (S : World → Prop) (p : List (Option Tmp × Nat)) (hm : P.follows .mixedOrders = true) (hB : planOk l.toArray p = true)
    (hQ : ∀ c a d v w, Q (.panic c) (Act.put a d v) w → Q (.panic c) a w) (hS : S w.drew) (h : wpPlanH P l.toArray Q S p a w.drew) : (Code.region id l.toArray true).wp P Q a w := by
  simp only [planOk, Bool.and_eq_true, decide_eq_true_eq] at hB
  obtain ⟨⟨h1, h2⟩, h3⟩ := hB
  refine wp_region_held (S := S) hm ?_
  have H := wpAnyH_of_plan h1 hQ p _ _ _ h3 hS h
  rw [h2] at H
  exact H

/-- an operation that is carried out -/
theorem planH_yes {i : Nat} {N : Tmp} {r : List (Option Tmp × Nat)} {o : Oper} {v : Value} {a : Act} {w : World} (hi : ops[i]? = some o) (hN : o.dst = some N) (hw : Region.wanted o (yielded ops a.tmps) = true)
    (hy : ∀ w', S w' → (execOp a.eval o).run P w' = .ok (.value v) w') {a' : Act} (ha : a.put (some N) v = a')
    (h : wpPlanH P ops Q S r a' w) : wpPlanH P ops Q S ((some N, i) :: r) a w := by
  subst ha
  exact ⟨o, v, hi, hN, .inl ⟨hw, hy⟩, h⟩
/-- an operation that its guard keeps back -/
theorem planH_no {i : Nat} {N : Tmp} {r : List (Option Tmp × Nat)} {o : Oper} {a : Act} {w : World} (hi : ops[i]? = some o) (hN : o.dst = some N) (hw : Region.wanted o (yielded ops a.tmps) = false)
    {a' : Act} (ha : a.put (some N) undef = a') (h : wpPlanH P ops Q S r a' w) : wpPlanH P ops Q S ((some N, i) :: r) a w := by
  subst ha
  exact ⟨o, undef, hi, hN, .inr ⟨hw, rfl⟩, h⟩
theorem planH_done {a : Act} {w : World} (h : wpList P ops Q [] a w) : wpPlanH P ops Q S [] a w := h
/-- one operation that alone may come up -/
theorem planH_alone {l : List Oper} (i : Nat) (r : List (Option Tmp × Nat)) (a : Act) (w : World) (h : wpList P l.toArray (Exit.then (fun a' w' => S w' ∧ wpPlanH P l.toArray Q S r a' w') Q) (picks l [(none, i)]) a w) : wpPlanH P l.toArray Q S ((none, i) :: r) a w := by
  unfold wpPlanH wpOp
  unfold picks at h
  cases ho : l[i]? with
  | none =>
    rw [ho] at h
    simp only [List.getElem?_toArray, ho]
    exact h
  | some o =>
    rw [ho] at h
    simp only [List.getElem?_toArray, ho]
    simp only [wpList, picks] at h
    split
    · rename_i hw
      rw [if_pos hw] at h
      rcases h with h | h
      · refine .inl ?_
        unfold Oper.wp at *
        generalize (execOp a.eval o).run P w = res at *
        exact h
      · exact .inr h
    · rename_i hw
      rw [if_neg hw] at h
      exact h
end
end Go.Proofs.YtijnbohjcmcfjaaGreatDoor.Rg
