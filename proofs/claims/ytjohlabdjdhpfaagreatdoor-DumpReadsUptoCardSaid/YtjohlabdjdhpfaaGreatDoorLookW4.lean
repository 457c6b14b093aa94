/-
  Walks: package look's Path.
-/
import Derived.Test.YtjohlabdjdhpfaaGreatDoorLookW3
namespace Go.Proofs.YtjohlabdjdhpfaaGreatDoor.Lk
open Go.RowKit Go.Proofs.YtjohlabdjdhpfaaGreatDoor.Kt
set_option linter.unusedSimpArgs false
set_option linter.unusedVariables false

/-- what a step answers -/
def StepPost (s : ByteArray) (k : Nat) (e : Ending) : Prop := ∃ a b, e = .returned (.tuple #[.agg #[.string a, .int .i64 b], .bool (stepOk s k)]) ∧ (stepOk s k = true → a = stepName s k ∧ b = stepEntry s k)
theorem step_any (s : ByteArray) (g k : Nat) (w : World) (hm : s.size ≤ 1048576) (hk : k ≤ s.size) (hA : At w g s k) :
    Calls Tryz.prog 31 #[.pointer (some ⟨g, 0, none⟩)] w fun e w' => StepPost s k e ∧ At w' g s (stepEnd s k) ∧ w.grownBy w' (some g) := by
  by_cases hn : nameEnd s k k = k
  · have e1 : stepOk s k = false := by unfold stepOk; rw [if_pos hn]
    have e2 : stepEnd s k = k := by unfold stepEnd; rw [if_pos hn]
    refine (step_none s g k w hm hk hA hn).mono fun e w' ⟨⟨a, b, h1⟩, h2, h3⟩ => ⟨⟨a, b, by rw [e1]; exact h1, by rw [e1]; intro h; cases h⟩, by rw [e2]; exact h2, h3⟩
  · have hlt : k < nameEnd s k k := by have := nameEnd_ge s k k; omega
    cases hb : brk s k with
    | false =>
      have e1 : stepOk s k = true := by unfold stepOk; rw [if_neg hn, hb]; simp
      have e2 : stepEnd s k = nameEnd s k k := by unfold stepEnd; rw [if_neg hn, hb]; simp
      have e3 : stepEntry s k = -1 := by unfold stepEntry; rw [hb]; simp
      refine (step_plain s g k w hm hk hA hlt hb).mono fun e w' ⟨h1, h2, h3⟩ => ⟨⟨_, _, by rw [e1]; exact h1, fun _ => ⟨rfl, e3.symm⟩⟩, by rw [e2]; exact h2, h3⟩
    | true =>
      cases hd : isDig (gb s (nameEnd s k k + 1)) with
      | false =>
        have e1 : stepOk s k = false := by unfold stepOk; rw [if_neg hn, if_pos hb, hd]; simp
        have e2 : stepEnd s k = nameEnd s k k + 1 := by unfold stepEnd; rw [if_neg hn, if_pos hb, hd]; simp
        refine (step_nodigit s g k w hm hk hA hlt hb hd).mono fun e w' ⟨⟨a, b, h1⟩, h2, h3⟩ => ⟨⟨a, b, by rw [e1]; exact h1, by rw [e1]; intro h; cases h⟩, by rw [e2]; exact h2, h3⟩
      | true =>
        obtain ⟨p1, p2, hp⟩ : ∃ p1 p2, numAt s k = (p1, p2) := ⟨_, _, rfl⟩
        by_cases hc : gb s p1 = 93
        · have e1 : stepOk s k = true := by unfold stepOk; rw [if_neg hn, if_pos hb, if_pos hd, hp]; simp [hc]
          have e2 : stepEnd s k = p1 + 1 := by unfold stepEnd; rw [if_neg hn, if_pos hb, if_pos hd, hp]; simp [hc]
          have e3 : stepEntry s k = p2 := by unfold stepEntry; rw [if_pos hb, hp]
          refine (step_close s g k w hm hk hA hlt hb hd p1 p2 hp hc).mono fun e w' ⟨h1, h2, h3⟩ => ⟨⟨_, _, by rw [e1]; exact h1, fun _ => ⟨rfl, e3.symm⟩⟩, by rw [e2]; exact h2, h3⟩
        · have e1 : stepOk s k = false := by unfold stepOk; rw [if_neg hn, if_pos hb, if_pos hd, hp]; simp [hc]
          have e2 : stepEnd s k = p1 := by unfold stepEnd; rw [if_neg hn, if_pos hb, if_pos hd, hp]; simp [hc]
          refine (step_open s g k w hm hk hA hlt hb hd p1 p2 hp hc).mono fun e w' ⟨⟨a, b, h1⟩, h2, h3⟩ => ⟨⟨a, b, by rw [e1]; exact h1, by rw [e1]; intro h; cases h⟩, by rw [e2]; exact h2, h3⟩

theorem infoStep : (Tryz.prog.info? 63).map (fun i => (i.zero, i.size, i.bytes)) = some (some (.agg #[(.string ⟨#[]⟩), (.int .i64 0)]), 2, 24) := by kernel_rfl

/-- what Path answers: the steps in new memory -/
def PathPost (s : ByteArray) (w : World) (e : Ending) (w' : World) : Prop :=
  ∃ v, e = .returned (.tuple #[v, .int .i64 (pathR s).2.1, .int .i64 (pathR s).2.2]) ∧ w'.ownsRow w.heap.size 63 2 v (pathR s).1.length (cellsOf (pathR s).1) ∧ Below w.heap.size w w'

theorem cells_two_new (w : World) (o : Obj) (x y : Value) : ∀ j u, [x, y][j]? = some u → ((w.alloc o).alloc (.cells #[x, y] 63)).cell? ((⟨w.heap.size + 1, 0, none⟩ : Addr).add j) = some u := by
  intro j u hj
  match j, hj with
  | 0, hj => simp at hj; subst hj; simp [Addr.add]
  | 1, hj => simp at hj; subst hj; simp [Addr.add]
theorem path_empty (w : World) : Calls Tryz.prog 14 #[.string ⟨#[]⟩] w (PathPost ⟨#[]⟩ w) := by
  have hr : Hid (pathR ⟨#[]⟩ = ([], 0, 0)) := by unfold Hid pathR; exact if_pos rfl
  go_enter Tryz.func14, Tryz.ntmps14
  go_wp2
  go_ret3
  refine ⟨_, by rw [hr.out]; rfl, by rw [hr.out]; exact World.ownsRow_nil _ _ _ _, Below.refl _ _⟩

/-- what has been read when a step begins at k -/
def PathInv (s : ByteArray) (w : World) (g : Nat) (wr : World) (k : Nat) (acc : List Step) (v : Value) : Prop :=
  k ≤ s.size ∧ acc.length ≤ k ∧ At wr g s k ∧ wr.ownsRow (g + 1) 63 2 v acc.length (cellsOf acc) ∧ Below w.heap.size w wr ∧ pathGo s k acc = pathR s

set_option maxHeartbeats 1600000 in
theorem path_some (s : ByteArray) (w : World) (hm : s.size ≤ 1048576) (h0 : s.size ≠ 0) : Calls Tryz.prog 14 #[.string s] w (PathPost s w) := by
  obtain ⟨i0, hi, hz0, hz1, hz2⟩ := info_parts infoStep
  have he1 := isEmpty_false h0
  have HP : Hid (pathGo s 0 [] = pathR s) := by unfold Hid pathR; rw [if_neg h0]
  clear h0
  go_enter Tryz.func14, Tryz.ntmps14
  go_wp2
  clear he1
  go_loopg [6] s.size (fun m v wr => ∃ k acc, m = s.size - k ∧ PathInv s w w.heap.size wr k acc v)
  case atStart => exact ⟨0, [], rfl, Nat.zero_le _, Nat.zero_le _, Blk.new _ _ _, World.ownsRow_nil _ _ _ _, (Below.refl _ _).alloc (Nat.le_refl _) _, HP.out⟩
  case round =>
    obtain ⟨k, acc, hmm, hk, hacc, hA, hown, hbel, hgo⟩ := hrel
    have HM : Hid (gk = s.size - k) := hmm
    have HGO : Hid (pathGo s k acc = pathR s) := hgo
    clear hmm hgo HP
    go_wp2_with (go_at_call 31; fail)
    refine (step_any s _ k _ hm hk hA).mono ?_
    rintro e w1 ⟨⟨a, b, rfl, hab⟩, hB, hg⟩
    have hend := stepEnd_le s k hk
    have hge := stepEnd_ge s k
    have hown1 := hown.kept hg (by cases h : u6.ownBlock with | none => exact .inl rfl | some j => right; intro e; have := (hown.lt j h).1; simp at e; omega)
    have hbel1 : Below w.heap.size w w1 := hbel.grown hg hbel.size (fun j hj => by simp at hj; omega)
    clear hown hbel hg hA
    cases hok : stepOk s k with
    | false =>
      have HR : Hid (pathR s = ([], 210, stepEnd s k)) := by unfold Hid; rw [← HGO.out, pathGo_bad hok]
      have c0 : w1.cell? ⟨w.heap.size, 0, none⟩ = some (.string s) := hB.cell 0 rfl
      have c1 : w1.cell? ⟨w.heap.size, 1, none⟩ = some (.int .i64 (stepEnd s k)) := hB.cell 1 rfl
      have hz := hB.lt
      clear hab hok
      go_wp2
      go_big_quiet (fail)
      go_wp2
      go_ret3
      refine ⟨_, by rw [HR.out]; rfl, by rw [HR.out]; exact World.ownsRow_nil _ _ _ _, ?_⟩
      exact below_drewN (hbel1.alloc (by omega) _) _
    | true =>
      obtain ⟨rfl, rfl⟩ := hab hok
      have HOK : Hid (stepOk s k = true) := hok
      clear hok hab
      go_wp2_with (at_builtin; refine wpList_append_own _ rfl _ _ 44 rfl (w.heap.size + 1) 63 i0 (.agg #[.string ⟨#[]⟩, .int .i64 0]) 2 24 Tryz.underlying44 hi hz0 hz1 hz2 rfl (by decide) u6 acc.length (cellsOf acc) rfl ((hown1.alloc _).alloc _) ⟨w1.heap.size + 1, 0, none⟩ 1 1 [.string (stepName s k), .int .i64 (stepEntry s k)] rfl rfl ?c1 ?c2 ?c3 ?c4 ?c5 ?_)
      case c1 => exact cells_two_new _ _ _ _
      case c2 => intro u hu; simp at hu; rcases hu with rfl | rfl <;> rfl
      case c3 => unfold maxLen; omega
      case c4 => omega
      case c5 => have := hB.lt; simp; omega
      intro v1 w2 hown2 hgrow _
      have hne : some w.heap.size ≠ u6.ownBlock := by intro e; have := (hown1.lt _ e.symm).1; omega
      have hB2 : At w2 w.heap.size s (stepEnd s k) := Blk.grown (Blk.alloc (Blk.alloc hB _) _) hgrow hne
      have hown3 : w2.ownsRow (w.heap.size + 1) 63 2 v1 (acc ++ [(stepName s k, stepEntry s k)]).length (cellsOf (acc ++ [(stepName s k, stepEntry s k)])) := by
        rw [List.length_append, cellsOf_append]; exact hown2
      have hlen : (acc ++ [(stepName s k, stepEntry s k)]).length = acc.length + 1 := by simp
      have hbel2 : Below w.heap.size w w2 := ((hbel1.alloc hbel1.size _).alloc (by have := hbel1.size; simp; omega) _).grown hgrow (by have := hbel1.size; simp; omega) (fun j hj => by have := (hown1.lt j hj).1; omega)
      have c0 : w2.cell? ⟨w.heap.size, 0, none⟩ = some (.string s) := hB2.cell 0 rfl
      have c1 : w2.cell? ⟨w.heap.size, 1, none⟩ = some (.int .i64 (stepEnd s k)) := hB2.cell 1 rfl
      have fz : w2.frozen? ⟨w.heap.size, 1, none⟩ = false := hB2.free 1
      obtain ⟨acc1, hacc1⟩ : ∃ acc1, acc1 = acc ++ [(stepName s k, stepEntry s k)] := ⟨_, rfl⟩
      have HA : Hid (acc1 = acc ++ [(stepName s k, stepEntry s k)]) := hacc1
      rw [← hacc1] at hown3 hlen
      clear hown2 hgrow hown1 hbel1 hB hne hacc1
      have hlt1 : acc1.length ≤ stepEnd s k + 1 := by omega
      by_cases he : stepEnd s k = s.size
      · have HR : Hid (pathR s = (acc1, 0, 0)) := by unfold Hid; rw [← HGO.out, pathGo_done HOK.out he, HA.out]
        have d1 : (((stepEnd s k : Nat) : Int) == ((s.size : Nat) : Int)) = true := by rw [he]; simp
        clear he
        go_wp2
        go_ret3
        refine ⟨v1, by rw [HR.out]; rfl, by rw [HR.out]; exact ⟨hown3.1, hown3.2.imp id fun ⟨g, cap, cur, h1, h2, h3⟩ => ⟨g, cap, cur, h1, by omega, h3⟩⟩, hbel2⟩
      · have d1 : (((stepEnd s k : Nat) : Int) == ((s.size : Nat) : Int)) = false := by simp; omega
        by_cases hdot : gb s (stepEnd s k) = 46
        · have HN : Hid (pathGo s (stepEnd s k + 1) acc1 = pathR s) := by unfold Hid; rw [← HGO.out, HA.out, pathGo_next HOK.out hdot]
          have d2 : (((gb s (stepEnd s k) : Nat) : Int) != 46) = false := by rw [hdot]; rfl
          have hlt : stepEnd s k < s.size := by omega
          clear hdot he
          go_wp2_with (go_at_call 32; refine (now_any s _ _ _ c0 c1).mono ?_; rintro e w' ⟨rfl, nq, rfl⟩)
          go_roundg (s.size - (stepEnd s k + 1))
          case measure => rw [HM.out]; omega
          case rel => exact ⟨stepEnd s k + 1, acc1, rfl, by omega, hlt1, At.set (hB2.drewN _) _, (ownsRow_setCell_below hown3 (by simp) _), (below_drewN hbel2 _).setCell (by simp) _, HN.out⟩
        · have HR : Hid (pathR s = ([], 210, stepEnd s k)) := by unfold Hid; rw [← HGO.out, pathGo_odd HOK.out he hdot]
          have d2 : (((gb s (stepEnd s k) : Nat) : Int) != 46) = true := by simp; omega
          clear hdot he
          go_wp2_with (go_at_call 32; refine (now_any s _ _ _ c0 c1).mono ?_; rintro e w' ⟨rfl, nq, rfl⟩)
          go_big_quiet (fail)
          go_wp2
          go_ret3
          refine ⟨_, by rw [HR.out]; rfl, by rw [HR.out]; exact World.ownsRow_nil _ _ _ _, ?_⟩
          exact below_drewN (below_drewN hbel2 _) _
theorem path_any (s : ByteArray) (w : World) (hm : s.size ≤ 1048576) : Calls Tryz.prog 14 #[.string s] w (PathPost s w) := by
  by_cases h0 : s.size = 0
  · have e := empty_of_size h0
    subst e
    exact path_empty w
  · exact path_some s w hm h0
end Go.Proofs.YtjohlabdjdhpfaaGreatDoor.Lk
