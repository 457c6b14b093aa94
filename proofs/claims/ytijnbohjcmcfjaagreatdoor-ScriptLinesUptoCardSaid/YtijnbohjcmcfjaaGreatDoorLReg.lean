/-
  A region that draws its order, walked by a plan: operations that touch no memory are taken first, wherever they may come up; what is left comes up one by one and is walked as a list. Plain laws over the kit's own words.
-/
import Derived.Orders
import Derived.Tactics
import Derived.RowKit
import Derived.OrdersHeld
namespace Go.Proofs.YtijnbohjcmcfjaaGreatDoor.Rg
open Go Go.RowKit
set_option linter.unusedSimpArgs false
set_option linter.unusedVariables false

section
variable {P : Program} {ops : Array Oper} {Q : Exit → Act → World → Prop}

/-- does a plan fit the region? (some slot, i): i, which writes that slot, may be taken first; (none, i): i alone may come up -/
def planGo (ops : Array Oper) : List (Option Tmp × Nat) → Array Bool → Bool
  | [], l => (Region.ready .any ops l).isEmpty
  | (some N, i) :: r, l => Region.free .any ops l i && (Region.ready .any ops l).contains i && planGo ops r (l.setIfInBounds i true)
  | (none, i) :: r, l => decide (Region.ready .any ops l = [i]) && planGo ops r (l.setIfInBounds i true)
def planOk (ops : Array Oper) (p : List (Option Tmp × Nat)) : Bool := Region.noSelect ops && decide (p.length = ops.size) && planGo ops p (Array.replicate ops.size false)

def wpPlan (P : Program) (ops : Array Oper) (Q : Exit → Act → World → Prop) : List (Option Tmp × Nat) → Act → World → Prop
  | [], a, w => Q .normal a w
  | (some N, i) :: r, a, w => ∃ o v, ops[i]? = some o ∧ o.dst = some N ∧ Yields P ops o v a ∧ wpPlan P ops Q r (a.put (some N) v) w
  | (none, i) :: r, a, w => wpOp P ops Q i (wpPlan P ops Q r) a w

theorem wpAny_of_plan (hs : Region.noSelect ops = true) (hQ : ∀ c a d v w, Q (.panic c) (Act.put a d v) w → Q (.panic c) a w) :
    ∀ (p : List (Option Tmp × Nat)) (l : Array Bool) (a : Act) (w : World), planGo ops p l = true → wpPlan P ops Q p a w → wpAny P .any ops Q p.length l a w
  | [], l, a, w, hp, h => ⟨by simpa [planGo] using hp, h⟩
  | (some N, i) :: r, l, a, w, hp, h => by
    simp only [planGo, Bool.and_eq_true] at hp
    obtain ⟨⟨h1, h2⟩, h3⟩ := hp
    obtain ⟨o, v, hi, hN, hy, hr⟩ := h
    rw [← hN] at hr
    exact wpAny_take hi hs h1 h2 (fun c a w hh => hQ c a _ _ w hh) hy (wpAny_of_plan hs hQ r _ _ w h3 hr)
  | (none, i) :: r, l, a, w, hp, h => by
    simp only [planGo, Bool.and_eq_true, decide_eq_true_eq] at hp
    obtain ⟨h1, h3⟩ := hp
    refine wpAny_all h1 (by simp) fun j hj => ?_
    have : j = i := by simpa using hj
    subst this
    exact wpOp_mono (fun a' w' h' => wpAny_of_plan hs hQ r _ a' w' h3 h') h

theorem wp_region_plan {id : Nat} {a : Act} {w : World} {l : List Oper} (p : List (Option Tmp × Nat)) (hm : P.follows .mixedOrders = true) (hB : planOk l.toArray p = true)
    (hQ : ∀ c a d v w, Q (.panic c) (Act.put a d v) w → Q (.panic c) a w) (h : wpPlan P l.toArray Q p a w.drew) : (Code.region id l.toArray true).wp P Q a w := by
  simp only [planOk, Bool.and_eq_true, decide_eq_true_eq] at hB
  obtain ⟨⟨h1, h2⟩, h3⟩ := hB
  refine wp_region_any hm ?_
  have H := wpAny_of_plan h1 hQ p _ _ _ h3 h
  rw [h2] at H
  exact H

theorem plan_pure {i : Nat} {N : Tmp} {r : List (Option Tmp × Nat)} {o : Oper} {v : Value} {a : Act} {w : World} (hi : ops[i]? = some o) (hN : o.dst = some N) (hy : Yields P ops o v a) {a' : Act} (ha : a.put (some N) v = a')
    (h : wpPlan P ops Q r a' w) : wpPlan P ops Q ((some N, i) :: r) a w := by
  subst ha
  exact ⟨o, v, hi, hN, hy, h⟩
/-- what is left, as a list -/
def picks (ops : List Oper) : List (Option Tmp × Nat) → List Oper
  | [] => []
  | (_, i) :: r => match ops[i]? with | some o => o :: picks ops r | none => picks ops r
def lastly : List (Option Tmp × Nat) → Bool
  | [] => true
  | (b, _) :: r => b.isNone && lastly r
theorem plan_seq {l : List Oper} : ∀ (p : List (Option Tmp × Nat)) (a : Act) (w : World), lastly p = true → wpList P l.toArray Q (picks l p) a w → wpPlan P l.toArray Q p a w
  | [], a, w, _, h => h
  | (some N, i) :: r, a, w, hl, h => by simp [lastly] at hl
  | (none, i) :: r, a, w, hl, h => by
    have hl' : lastly r = true := by simpa [lastly] using hl
    unfold wpPlan wpOp
    unfold picks at h
    cases ho : l[i]? with
    | none =>
      rw [ho] at h
      simp only [List.getElem?_toArray, ho]
      exact plan_seq r a w hl' h
    | some o =>
      rw [ho] at h
      simp only [List.getElem?_toArray, ho]
      simp only [wpList] at h
      split
      · rename_i hw
        rw [if_pos hw] at h
        rcases h with h | h
        · exact .inl (Oper.wp_mono (fun a' w' h' => plan_seq r a' w' hl' h') h)
        · exact .inr h
      · rename_i hw
        rw [if_neg hw] at h
        exact plan_seq r _ w hl' h
/-- one operation that alone may come up -/
theorem plan_alone {l : List Oper} (i : Nat) (r : List (Option Tmp × Nat)) (a : Act) (w : World) (h : wpList P l.toArray (Exit.then (wpPlan P l.toArray Q r) Q) (picks l [(none, i)]) a w) : wpPlan P l.toArray Q ((none, i) :: r) a w := by
  unfold wpPlan wpOp
  unfold picks at h
  cases ho : l[i]? with
  | none =>
    rw [ho] at h
    simp only [List.getElem?_toArray, ho]
    exact h
  | some o =>
    rw [ho] at h
    simp only [List.getElem?_toArray, ho]
    simp only [wpList, picks] at h
    split
    · rename_i hw
      rw [if_pos hw] at h
      rcases h with h | h
      · refine .inl ?_
        unfold Oper.wp at *
        generalize (execOp a.eval o).run P w = res at *
        exact h
      · exact .inr h
    · rename_i hw
      rw [if_neg hw] at h
      exact h
end
end Go.Proofs.YtijnbohjcmcfjaaGreatDoor.Rg
/-
  Plans for a region that draws its order, reads memory and then writes it: a condition on the world that is asked only as long as one of some chosen operations is still to come; a load for which one of these waits may be taken first.
-/
namespace Go.Proofs.YtijnbohjcmcfjaaGreatDoor.Rg
open Go Go.RowKit
set_option linter.unusedSimpArgs false
set_option linter.unusedVariables false
section
variable {P : Program} {ops : Array Oper} {Q : Exit → Act → World → Prop} {S0 : World → Prop}

/-- is one of the chosen operations still to come? -/
def pend (C : List Nat) (l : Array Bool) : Bool := C.any fun c => !l.getD c true
/-- does one of them, which is still to come, wait for operation i? -/
def waits (ops : Array Oper) (C : List Nat) (l : Array Bool) (i : Nat) : Bool :=
  C.any fun c => !l.getD c true && (c != i && match ops[c]? with | some o => o.after.any (fun e => Region.binds .any e && e.on == i) | none => false)
theorem waits_pend {C : List Nat} {l : Array Bool} {i : Nat} (h : waits ops C l i = true) : pend C l = true := by
  unfold waits at h; unfold pend
  rw [List.any_eq_true] at h ⊢
  obtain ⟨c, hc, h⟩ := h
  rw [Bool.and_eq_true] at h
  exact ⟨c, hc, h.1⟩
theorem pend_mono {C : List Nat} {l : Array Bool} {i : Nat} (h : pend C (l.setIfInBounds i true) = true) : pend C l = true := by
  unfold pend at h ⊢
  rw [List.any_eq_true] at h ⊢
  obtain ⟨c, hc, h⟩ := h
  refine ⟨c, hc, ?_⟩
  by_cases hci : i = c
  · subst hci
    by_cases hs : i < l.size
    · simp [hs] at h
    · simp [hs] at h
  · rwa [getD_set_ne true hci] at h
/-- what waits for i cannot come ahead of it -/
theorem waits_step {C : List Nat} {l : Array Bool} {i j : Nat} (hi : l.getD i true = false) (hj : j ∈ Region.ready .any ops l) (hji : j ≠ i) (h : waits ops C l i = true) :
    waits ops C (l.setIfInBounds j true) i = true ∧ pend C ((l.setIfInBounds i true).setIfInBounds j true) = true := by
  unfold waits at h ⊢
  rw [List.any_eq_true] at h
  obtain ⟨c, hc, h⟩ := h
  simp only [Bool.and_eq_true, bne_iff_ne, ne_eq] at h
  obtain ⟨h1, h2, h3⟩ := h
  have hcj : j ≠ c := by
    intro e
    subst e
    obtain ⟨_, o, ho, hall⟩ := mem_ready.1 hj
    rw [ho] at h3
    simp only [List.any_eq_true, Array.any_eq_true', Bool.and_eq_true, beq_iff_eq] at h3
    obtain ⟨e, he, hb, hon⟩ := h3
    have h0 := hall e he hb
    rw [hon] at h0
    rcases Nat.lt_or_ge i l.size with h' | h'
    · simp [h'] at h0 hi; rw [h0] at hi; cases hi
    · simp [Array.getElem?_eq_none h'] at h0
  constructor
  · rw [List.any_eq_true]
    refine ⟨c, hc, ?_⟩
    simp only [Bool.and_eq_true, bne_iff_ne, ne_eq]
    exact ⟨by rw [getD_set_ne true hcj]; exact h1, h2, h3⟩
  · unfold pend
    rw [List.any_eq_true]
    exact ⟨c, hc, by rw [getD_set_ne true hcj, getD_set_ne true (Ne.symm h2)]; exact h1⟩

def wpAnyS (P : Program) (ops : Array Oper) (Q : Exit → Act → World → Prop) (S0 : World → Prop) (C : List Nat) : Nat → Array Bool → Act → World → Prop
  | 0, l, a, w => Region.ready .any ops l = [] ∧ Q .normal a w
  | n + 1, l, a, w =>
    (Region.ready .any ops l = [] → Q .normal a w) ∧
    ∀ i ∈ Region.ready .any ops l, wpOp P ops Q i (fun a' w' => (pend C (l.setIfInBounds i true) = true → S0 w') ∧ wpAnyS P ops Q S0 C n (l.setIfInBounds i true) a' w') a w
theorem wpAny_of_S {C : List Nat} : ∀ (n : Nat) (l : Array Bool) (a : Act) (w : World), wpAnyS P ops Q S0 C n l a w → wpAny P .any ops Q n l a w
  | 0, _, _, _, h => h
  | n + 1, _, _, _, h => ⟨h.1, fun i hi => wpOp_mono (fun a' w' h' => wpAny_of_S n _ a' w' h'.2) (h.2 i hi)⟩

/-- what an operation asks of the world to yield: S0 where one of the chosen waits for it, else nothing -/
def askS (S0 : World → Prop) (b : Bool) : World → Prop := fun w => b = true → S0 w

theorem wpAnyS_first {C : List Nat} {i : Nat} {oi : Oper} {v : Value} {b : Bool} (hi : ops[i]? = some oi) (hsel : ∀ (j : Nat) (o : Oper) cs b, ops[j]? = some o → o.op ≠ .select cs b)
    (hQ : ∀ c a w, Q (.panic c) (a.put oi.dst v) w → Q (.panic c) a w) :
    ∀ (n : Nat) (l : Array Bool) (a : Act) (w : World),
      (∀ j oj, ops[j]? = some oj → j ≠ i → l.getD j true = false → (∀ e ∈ oj.after, Region.binds .any e = true → e.on ≠ i) → oi.apart ops oj = true) →
      i ∈ Region.ready .any ops l → i ∉ C → (b = true → waits ops C l i = true) → YieldsIf P ops (askS S0 b) oi v a → (pend C l = true → S0 w) →
      wpAnyS P ops Q S0 C n (l.setIfInBounds i true) (a.put oi.dst v) w → wpAnyS P ops Q S0 C (n + 1) l a w := by
  intro n
  induction n with
  | zero =>
    intro l a w _ hr hiC hb hy hS H
    refine ⟨fun h => (by rw [h] at hr; cases hr), fun j hj => ?_⟩
    by_cases hji : j = i
    · subst hji
      exact hy.wpOp hi (fun hbt => hS (waits_pend (hb hbt))) ⟨fun hp => hS (pend_mono hp), H⟩
    · have := ready_mono hj hji
      rw [H.1] at this
      cases this
  | succ n ih =>
    intro l a w hfree hr hiC hb hy hS H
    refine ⟨fun h => (by rw [h] at hr; cases hr), fun j hj => ?_⟩
    by_cases hji : j = i
    · subst hji
      exact hy.wpOp hi (fun hbt => hS (waits_pend (hb hbt))) ⟨fun hp => hS (pend_mono hp), H⟩
    · have hil := (mem_ready.1 hr).1
      obtain ⟨hjun, oj, hoj, hall⟩ := mem_ready.1 hj
      have hnot : ∀ e ∈ oj.after, Region.binds .any e = true → e.on ≠ i := fun e he hbd heq => by
        have h1 := hall e he hbd
        rw [heq] at h1
        rcases Nat.lt_or_ge i l.size with h' | h'
        · simp [h'] at hil h1; rw [hil] at h1; cases h1
        · simp [Array.getElem?_eq_none h'] at h1
      have h1 := H.2 j (ready_mono hj hji)
      have h2 := wpOp_putIf hoj (hfree j oj hoj hji hjun hnot) (fun cs b => hsel i oi cs b hi) (fun cs b => hsel j oj cs b hoj) hQ hy h1
      have hfree' : ∀ k ok, ops[k]? = some ok → k ≠ i → (l.setIfInBounds j true).getD k true = false →
          (∀ e ∈ ok.after, Region.binds .any e = true → e.on ≠ i) → oi.apart ops ok = true := fun k ok hk hki hun hno => by
        refine hfree k ok hk hki ?_ hno
        by_cases hjk : j = k
        · subst hjk; exact hjun
        · rwa [getD_set_ne true hjk] at hun
      refine wpOp_mono (fun a' w' h3 => ?_) h2
      obtain ⟨h4, h5, h6⟩ := h3
      have hb' : b = true → waits ops C (l.setIfInBounds j true) i = true := fun hbt => (waits_step hil hj hji (hb hbt)).1
      have hS' : pend C (l.setIfInBounds j true) = true → S0 w' := fun hp => by
        apply h5
        unfold pend at hp ⊢
        rw [List.any_eq_true] at hp ⊢
        obtain ⟨c, hc, hcl⟩ := hp
        refine ⟨c, hc, ?_⟩
        have hic : i ≠ c := fun e => hiC (e ▸ hc)
        by_cases hjc : j = c
        · subst hjc
          by_cases hs : j < l.size
          · simp [hs] at hcl
          · simp [hs] at hcl
        · rw [getD_set_ne true hjc] at hcl ⊢
          rw [getD_set_ne true hic]; exact hcl
      refine ⟨hS', ih (l.setIfInBounds j true) a' w' hfree' (ready_mono hr (Ne.symm hji)) hiC hb' h4 hS' ?_⟩
      rw [Array.setIfInBounds_comm _ _ hji]
      exact h6

/-- does a plan fit the region? -/
def planGoS (ops : Array Oper) (C : List Nat) : List (Option Tmp × Nat) → Array Bool → Bool
  | [], l => (Region.ready .any ops l).isEmpty
  | (some N, i) :: r, l => Region.free .any ops l i && (Region.ready .any ops l).contains i && !C.contains i && planGoS ops C r (l.setIfInBounds i true)
  | (none, i) :: r, l => decide (Region.ready .any ops l = [i]) && planGoS ops C r (l.setIfInBounds i true)
def planOkS (ops : Array Oper) (C : List Nat) (p : List (Option Tmp × Nat)) : Bool := Region.noSelect ops && decide (p.length = ops.size) && planGoS ops C p (Array.replicate ops.size false)
def wpPlanS (P : Program) (ops : Array Oper) (Q : Exit → Act → World → Prop) (S0 : World → Prop) (C : List Nat) : List (Option Tmp × Nat) → Array Bool → Act → World → Prop
  | [], _, a, w => Q .normal a w
  | (some N, i) :: r, l, a, w => ∃ o v, ops[i]? = some o ∧ o.dst = some N ∧ YieldsIf P ops (askS S0 (waits ops C l i)) o v a ∧ wpPlanS P ops Q S0 C r (l.setIfInBounds i true) (a.put (some N) v) w
  | (none, i) :: r, l, a, w => wpOp P ops Q i (fun a' w' => (pend C (l.setIfInBounds i true) = true → S0 w') ∧ wpPlanS P ops Q S0 C r (l.setIfInBounds i true) a' w') a w
theorem wpAnyS_of_plan {C : List Nat} (hs : Region.noSelect ops = true) (hQ : ∀ c a d v w, Q (.panic c) (Act.put a d v) w → Q (.panic c) a w) :
    ∀ (p : List (Option Tmp × Nat)) (l : Array Bool) (a : Act) (w : World), planGoS ops C p l = true → (pend C l = true → S0 w) → wpPlanS P ops Q S0 C p l a w → wpAnyS P ops Q S0 C p.length l a w
  | [], l, a, w, hp, _, h => ⟨by simpa [planGoS] using hp, h⟩
  | (some N, i) :: r, l, a, w, hp, hS, h => by
    simp only [planGoS, Bool.and_eq_true, Bool.not_eq_true'] at hp
    obtain ⟨⟨⟨h1, h2⟩, h4⟩, h3⟩ := hp
    obtain ⟨o, v, hi, hN, hy, hr⟩ := h
    rw [← hN] at hr
    refine wpAnyS_first hi (Region.noSelect_spec hs) (fun c a w hh => hQ c a _ _ w hh) r.length l a w (Region.free_spec hi h1) (by simpa using h2) (by simpa using h4) (fun hb => hb) hy hS ?_
    exact wpAnyS_of_plan hs hQ r _ _ w h3 (fun hp => hS (pend_mono hp)) hr
  | (none, i) :: r, l, a, w, hp, hS, h => by
    simp only [planGoS, Bool.and_eq_true, decide_eq_true_eq] at hp
    obtain ⟨h1, h3⟩ := hp
    refine ⟨fun h0 => absurd (h1 ▸ h0) (by simp), ?_⟩
    rw [h1]
    intro j hj
    have : j = i := by simpa using hj
    subst this
    exact wpOp_mono (fun a' w' h' => ⟨h'.1, wpAnyS_of_plan hs hQ r _ a' w' h3 h'.1 h'.2⟩) h
theorem wp_region_planS {id : Nat} {a : Act} {w : World} {l : List Oper} (S0 : World → Prop) (C : List Nat) (p : List (Option Tmp × Nat)) (hm : P.follows .mixedOrders = true) (hB : planOkS l.toArray C p = true)
    (hQ : ∀ c a d v w, Q (.panic c) (Act.put a d v) w → Q (.panic c) a w) (hS : S0 w.drew) (h : wpPlanS P l.toArray Q S0 C p (Array.replicate l.toArray.size false) a w.drew) : (Code.region id l.toArray true).wp P Q a w := by
  simp only [planOkS, Bool.and_eq_true, decide_eq_true_eq] at hB
  obtain ⟨⟨h1, h2⟩, h3⟩ := hB
  refine wp_region_any hm ?_
  have H := wpAnyS_of_plan h1 hQ p _ _ _ h3 (fun _ => hS) h
  rw [h2] at H
  exact wpAny_of_S _ _ _ _ H
/-- an operation that is carried out, in every world -/
theorem planS_pure {C : List Nat} {i : Nat} {N : Tmp} {r : List (Option Tmp × Nat)} {l : Array Bool} {o : Oper} {v : Value} {a : Act} {w : World} (hi : ops[i]? = some o) (hN : o.dst = some N) (hw : Region.wanted o (yielded ops a.tmps) = true)
    (hy : ∀ w', (execOp a.eval o).run P w' = .ok (.value v) w') {a' : Act} (ha : a.put (some N) v = a')
    (h : wpPlanS P ops Q S0 C r (l.setIfInBounds i true) a' w) : wpPlanS P ops Q S0 C ((some N, i) :: r) l a w := by
  subst ha
  exact ⟨o, v, hi, hN, .inl ⟨hw, fun w' _ => hy w'⟩, h⟩
/-- .. in every world that meets the condition -/
theorem planS_load {C : List Nat} {i : Nat} {N : Tmp} {r : List (Option Tmp × Nat)} {l : Array Bool} {o : Oper} {v : Value} {a : Act} {w : World} (hi : ops[i]? = some o) (hN : o.dst = some N) (hw : Region.wanted o (yielded ops a.tmps) = true)
    (hwt : waits ops C l i = true) (hy : ∀ w', S0 w' → (execOp a.eval o).run P w' = .ok (.value v) w') {a' : Act} (ha : a.put (some N) v = a')
    (h : wpPlanS P ops Q S0 C r (l.setIfInBounds i true) a' w) : wpPlanS P ops Q S0 C ((some N, i) :: r) l a w := by
  subst ha
  exact ⟨o, v, hi, hN, .inl ⟨hw, fun w' hS => hy w' (hS hwt)⟩, h⟩
/-- one operation that alone may come up -/
theorem planS_alone {C : List Nat} {l : List Oper} (i : Nat) (r : List (Option Tmp × Nat)) (ls : Array Bool) (a : Act) (w : World) (h : wpList P l.toArray (Exit.then (fun a' w' => (pend C (ls.setIfInBounds i true) = true → S0 w') ∧ wpPlanS P l.toArray Q S0 C r (ls.setIfInBounds i true) a' w') Q) (picks l [(none, i)]) a w) :
    wpPlanS P l.toArray Q S0 C ((none, i) :: r) ls a w := by
  unfold wpPlanS wpOp
  unfold picks at h
  cases ho : l[i]? with
  | none =>
    rw [ho] at h
    simp only [List.getElem?_toArray, ho]
    exact h
  | some o =>
    rw [ho] at h
    simp only [List.getElem?_toArray, ho]
    simp only [wpList, picks] at h
    split
    · rename_i hw
      rw [if_pos hw] at h
      rcases h with h | h
      · refine .inl ?_
        unfold Oper.wp at *
        generalize (execOp a.eval o).run P w = res at *
        exact h
      · exact .inr h
    · rename_i hw
      rw [if_neg hw] at h
      exact h
/-- where nothing chosen is to come any more, a plain plan -/
theorem planS_free {C : List Nat} : ∀ (p : List (Option Tmp × Nat)) (l : Array Bool) (a : Act) (w : World), pend C l = false → lastly p = true → wpPlan P ops Q p a w → wpPlanS P ops Q S0 C p l a w
  | [], _, _, _, _, _, h => h
  | (some N, i) :: r, _, _, _, _, hl, _ => by simp [lastly] at hl
  | (none, i) :: r, l, a, w, hp, hl, h => by
    have hl' : lastly r = true := by simpa [lastly] using hl
    have hp' : pend C (l.setIfInBounds i true) = false := by
      cases hq : pend C (l.setIfInBounds i true) with
      | false => rfl
      | true => rw [pend_mono hq] at hp; cases hp
    exact wpOp_mono (fun a' w' h' => ⟨fun h0 => absurd (hp'.symm.trans h0) (by simp), planS_free r _ a' w' hp' hl' h'⟩) h
end
end Go.Proofs.YtijnbohjcmcfjaaGreatDoor.Rg
/-
  Plans for a region that draws its order and reads memory beside calls: a condition S on the world holds at its begin and behind each operation that is carried out; what yields in every world that meets S may be taken first.
-/
namespace Go.Proofs.YtijnbohjcmcfjaaGreatDoor.Rg
open Go Go.RowKit
set_option linter.unusedSimpArgs false
set_option linter.unusedVariables false
section
variable {P : Program} {ops : Array Oper} {Q : Exit → Act → World → Prop} {S : World → Prop}

def wpPlanH (P : Program) (ops : Array Oper) (Q : Exit → Act → World → Prop) (S : World → Prop) : List (Option Tmp × Nat) → Act → World → Prop
  | [], a, w => Q .normal a w
  | (some N, i) :: r, a, w => ∃ o v, ops[i]? = some o ∧ o.dst = some N ∧ YieldsIf P ops S o v a ∧ wpPlanH P ops Q S r (a.put (some N) v) w
  | (none, i) :: r, a, w => wpOp P ops Q i (fun a' w' => S w' ∧ wpPlanH P ops Q S r a' w') a w

theorem wpAnyH_of_plan (hs : Region.noSelect ops = true) (hQ : ∀ c a d v w, Q (.panic c) (Act.put a d v) w → Q (.panic c) a w) :
    ∀ (p : List (Option Tmp × Nat)) (l : Array Bool) (a : Act) (w : World), planGo ops p l = true → S w → wpPlanH P ops Q S p a w → wpAnyH P .any ops Q S p.length l a w
  | [], l, a, w, hp, _, h => ⟨by simpa [planGo] using hp, h⟩
  | (some N, i) :: r, l, a, w, hp, hS, h => by
    simp only [planGo, Bool.and_eq_true] at hp
    obtain ⟨⟨h1, h2⟩, h3⟩ := hp
    obtain ⟨o, v, hi, hN, hy, hr⟩ := h
    rw [← hN] at hr
    exact wpAnyH_take hi hs h1 h2 (fun c a w hh => hQ c a _ _ w hh) hy hS (wpAnyH_of_plan hs hQ r _ _ w h3 hS hr)
  | (none, i) :: r, l, a, w, hp, hS, h => by
    simp only [planGo, Bool.and_eq_true, decide_eq_true_eq] at hp
    obtain ⟨h1, h3⟩ := hp
    refine wpAnyH_all h1 (by simp) fun j hj => ?_
    have : j = i := by simpa using hj
    subst this
    exact wpOp_mono (fun a' w' h' => ⟨h'.1, wpAnyH_of_plan hs hQ r _ a' w' h3 h'.1 h'.2⟩) h

theorem wp_region_planH {id : Nat} {a : Act} {w : World} {l : List Oper} (S : World → Prop) (p : List (Option Tmp × Nat)) (hm : P.follows .mixedOrders = true) (hB : planOk l.toArray p = true)
    (hQ : ∀ c a d v w, Q (.panic c) (Act.put a d v) w → Q (.panic c) a w) (hS : S w.drew) (h : wpPlanH P l.toArray Q S p a w.drew) : (Code.region id l.toArray true).wp P Q a w := by
  simp only [planOk, Bool.and_eq_true, decide_eq_true_eq] at hB
  obtain ⟨⟨h1, h2⟩, h3⟩ := hB
  refine wp_region_held (S := S) hm ?_
  have H := wpAnyH_of_plan h1 hQ p _ _ _ h3 hS h
  rw [h2] at H
  exact H

/-- an operation that is carried out -/
theorem planH_yes {i : Nat} {N : Tmp} {r : List (Option Tmp × Nat)} {o : Oper} {v : Value} {a : Act} {w : World} (hi : ops[i]? = some o) (hN : o.dst = some N) (hw : Region.wanted o (yielded ops a.tmps) = true)
    (hy : ∀ w', S w' → (execOp a.eval o).run P w' = .ok (.value v) w') {a' : Act} (ha : a.put (some N) v = a')
    (h : wpPlanH P ops Q S r a' w) : wpPlanH P ops Q S ((some N, i) :: r) a w := by
  subst ha
  exact ⟨o, v, hi, hN, .inl ⟨hw, hy⟩, h⟩
/-- an operation that its guard keeps back -/
theorem planH_no {i : Nat} {N : Tmp} {r : List (Option Tmp × Nat)} {o : Oper} {a : Act} {w : World} (hi : ops[i]? = some o) (hN : o.dst = some N) (hw : Region.wanted o (yielded ops a.tmps) = false)
    {a' : Act} (ha : a.put (some N) undef = a') (h : wpPlanH P ops Q S r a' w) : wpPlanH P ops Q S ((some N, i) :: r) a w := by
  subst ha
  exact ⟨o, undef, hi, hN, .inr ⟨hw, rfl⟩, h⟩
theorem planH_done {a : Act} {w : World} (h : wpList P ops Q [] a w) : wpPlanH P ops Q S [] a w := h
/-- one operation that alone may come up -/
theorem planH_alone {l : List Oper} (i : Nat) (r : List (Option Tmp × Nat)) (a : Act) (w : World) (h : wpList P l.toArray (Exit.then (fun a' w' => S w' ∧ wpPlanH P l.toArray Q S r a' w') Q) (picks l [(none, i)]) a w) : wpPlanH P l.toArray Q S ((none, i) :: r) a w := by
  unfold wpPlanH wpOp
  unfold picks at h
  cases ho : l[i]? with
  | none =>
    rw [ho] at h
    simp only [List.getElem?_toArray, ho]
    exact h
  | some o =>
    rw [ho] at h
    simp only [List.getElem?_toArray, ho]
    simp only [wpList, picks] at h
    split
    · rename_i hw
      rw [if_pos hw] at h
      rcases h with h | h
      · refine .inl ?_
        unfold Oper.wp at *
        generalize (execOp a.eval o).run P w = res at *
        exact h
      · exact .inr h
    · rename_i hw
      rw [if_neg hw] at h
      exact h
end
end Go.Proofs.YtijnbohjcmcfjaaGreatDoor.Rg
