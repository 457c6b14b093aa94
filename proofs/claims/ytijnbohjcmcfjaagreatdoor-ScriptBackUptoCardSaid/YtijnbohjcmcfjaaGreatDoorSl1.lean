/-
  A word laid behind a row of words: the old row still reads as it did.
-/
import Derived.Test.YtijnbohjcmcfjaaGreatDoorSl0
namespace Go.Proofs.YtijnbohjcmcfjaaGreatDoor.Sc
open Go.RowKit Go.Proofs.YtijnbohjcmcfjaaGreatDoor.Kt Go.Proofs.YtijnbohjcmcfjaaGreatDoor.Lk Go.Proofs.YtijnbohjcmcfjaaGreatDoor.Sp Go.Proofs.YtijnbohjcmcfjaaGreatDoor.Rw Go.Proofs.YtijnbohjcmcfjaaGreatDoor.Rg
set_option linter.unusedSimpArgs false
set_option linter.unusedVariables false
set_option maxRecDepth 100000

theorem old_kept {P : Program} {t ty e : TypeId} {i : TypeInfo} {z : Value} {w w' : World} {base n : Nat} {v v' : Value} {xs : List Value} {x : Value} {a : Addr} {c : Nat}
    (ht : P.underlying t = some (.slice e)) (hi : P.info? e = some i) (hz : i.zero = some z) (hs : i.size = 1) (hb : i.bytes = 8) (hown : w.ownsRow base e 1 v n xs) (hx : w.cell? a = some x) (h1 : x.oneCell' = true) (hn : n ≤ 2097152)
    (hr : (Builtin.append_ #[t, t] ty #[v, .slice (some a) 1 c]).run P w = .ok v' w') : w'.ownsRow base e 1 v n xs := by
  have hnews : ∀ j u, ([x] : List Value)[j]? = some u → w.cell? (a.add j) = some u := by
    intro j u hj
    cases j with
    | zero =>
      have : a.add 0 = a := by unfold Addr.add; simp
      rw [this]; simpa using hj ▸ hx
    | succ j => simp at hj
  have hone : ∀ u ∈ ([x] : List Value), u.oneCell' = true := by intro u hu; rw [List.mem_singleton.1 hu]; exact h1
  rcases hown.2 with ⟨rfl, rfl⟩ | ⟨g, cap, cur, rfl, hbg, hg, hnc, hcm, hcs, htake⟩
  · have : xs = [] := List.eq_nil_of_length_eq_zero (by simpa using hown.1)
    subst this
    exact World.ownsRow_nil _ _ _ _
  · by_cases hroom : n + 1 ≤ cap
    · have hrun := run_append_room (P := P) w t ty e i ht hi g n cap cur hg a 1 c [x] (by simp [hs]) hnews hone hroom (by rw [hs, hcs]; simp; omega)
      rw [hrun] at hr
      injection hr with h2 h3
      subst h3
      refine ⟨hown.1, .inr ⟨g, cap, _, rfl, hbg, setRow_heap w g cur _ e _ hg, hnc, hcm, ?_, ?_⟩⟩
      · simp only [List.size_toArray, List.length_append, List.length_take, List.length_drop, Array.length_toList, hs, List.length_singleton]
        omega
      · have hxl : xs.length = n := by have := hown.1; simpa using this
        rw [hs, htake]
        simp only [Nat.mul_one, List.append_assoc]
        rw [← hxl]
        exact List.take_left
    · have hrun := run_append_grow (P := P) w t ty e i z ht hi hz ⟨g, 0, none⟩ n cap xs (by rw [hown.1, hs]) (hown.cells (g := g) rfl) a 1 c [x] (by simp [hs]) hnews (by omega) (by omega) (growslice_fits (by omega) (by rw [hb]; omega))
      rw [hrun] at hr
      injection hr with h2 h3
      subst h3
      exact World.ownsRow.alloc (w := w.drew) hown _
theorem wpList_append_keep {w : World} {ops : Array Oper} {rest : List Oper} {o : Oper} {a : Act} {Q : Exit → Act → World → Prop} (hgd : o.guard = none) (s x : Operand)
    (ho : o.op = .call { callee := .builtin .append, args := #[s, x], argTypes := #[23, 23] })
    (base : Nat) (v : Value) (l : List Nat) (hs : a.eval s = v) (hown : w.ownsRow base 30 1 v l.length (wordsV l)) (u : Nat) (ad : Addr) (cap : Nat) (hx : a.eval x = .slice (some ad) 1 cap) (hc : w.cell? ad = some (.int .u64 (u : Int))) (hl : l.length ≤ 2097152) (hbase : base ≤ w.heap.size)
    (h : ∀ v' w', w'.ownsRow base 30 1 v' (l.length + 1) (wordsV (l ++ [u])) → w'.ownsRow base 30 1 v l.length (wordsV l) → w.grownBy w' v.ownBlock → (v'.ownBlock = v.ownBlock ∨ v'.ownBlock = some w.heap.size) → wpList Tryz.prog ops Q rest (a.put o.dst v') w') :
    wpList Tryz.prog ops Q (o :: rest) a w := by
  obtain ⟨i1, hi1, hz10, hz11, hz12⟩ := info_parts infoW
  refine wpList_plain hgd fun K hK => ?_
  obtain ⟨v', w', hr, h2, h3, h4, h5⟩ := run_append_own_at (P := Tryz.prog) w base 23 o.type 30 i1 (.int .u64 0) 1 8 Tryz.underlying23 hi1 hz10 hz11 hz12 rfl (by decide) v l.length (wordsV l) hown ad 1 cap [.int .u64 (u : Int)] (by simp) (by
    intro j y hj
    cases j with
    | zero =>
      have : ad.add 0 = ad := by unfold Addr.add; simp
      rw [this]; simpa using hj ▸ hc
    | succ j => simp at hj) (by intro y hy; rw [List.mem_singleton.1 hy]; rfl) (by unfold maxLen; omega) (by omega) hbase
  have hk := old_kept Tryz.underlying23 hi1 hz10 hz11 hz12 hown hc rfl hl hr
  unfold Oper.wp execOp
  simp only [ho, resolve, invoke, builtin, Sem.run_bind, Sem.run_pure, Result.andThen_ok, List.map_toArray, List.map_cons, List.map_nil, hs, hx, hr]
  exact hK _ _ (h v' w' (by unfold wordsV at h2 ⊢; rw [List.map_append]; exact h2) hk h3 h5)
end Go.Proofs.YtijnbohjcmcfjaaGreatDoor.Sc
