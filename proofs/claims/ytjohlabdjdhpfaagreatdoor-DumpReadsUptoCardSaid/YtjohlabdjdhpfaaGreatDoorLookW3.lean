/-
  Walks: package look's reader of a path's text: one step.
-/
import Derived.Test.YtjohlabdjdhpfaaGreatDoorLookW2
namespace Go.Proofs.YtjohlabdjdhpfaaGreatDoor.Lk
open Go.RowKit Go.Proofs.YtjohlabdjdhpfaaGreatDoor.Kt
set_option linter.unusedSimpArgs false
set_option linter.unusedVariables false

set_option maxHeartbeats 800000 in
theorem step_none (s : ByteArray) (g k : Nat) (w : World) (hm : s.size ≤ 1048576) (hk : k ≤ s.size) (hA : At w g s k) (hn : nameEnd s k k = k) :
    Calls Tryz.prog 31 #[.pointer (some ⟨g, 0, none⟩)] w fun e w' =>
      (∃ a b, e = .returned (.tuple #[.agg #[.string a, .int .i64 b], .bool false])) ∧ At w' g s k ∧ w.grownBy w' (some g) := by
  have HN : Hid (nameEnd s k k = k) := hn
  clear hn
  have hlt := hA.lt
  go_enter Tryz.func31, Tryz.ntmps31
  go_wp2_with (go_at_call 53; fail)
  refine (name_any s g k _ hm hk (hA.alloc _)).mono ?_
  rintro e w1 ⟨rfl, hB, hg⟩
  rw [HN.out] at hB ⊢
  have hr : Blk w1 w.heap.size #[.string ⟨#[]⟩, .int .i64 0] 63 := (Blk.new _ _ _).grown hg (by simp; omega)
  have hz := hr.lt
  have r0 : w1.cell? ⟨w.heap.size, 0, none⟩ = some (.string ⟨#[]⟩) := hr.cell 0 rfl
  have r1 : w1.cell? ⟨w.heap.size, 1, none⟩ = some (.int .i64 0) := hr.cell 1 rfl
  have f0 : w1.frozen? ⟨w.heap.size, 0, none⟩ = false := hr.free 0
  have f1 : w1.frozen? ⟨w.heap.size, 1, none⟩ = false := hr.free 1
  go_wp2
  go_big_quiet (fail)
  go_wp2
  have hf := (((hr.alloc (.cells #[.string ByteArray.empty, .int .i64 (-1)] 63)).drewN nq).set 0 (.string ByteArray.empty)).set 1 (.int .i64 (-1))
  have q0 := hf.cell 0 (v := .string ByteArray.empty) rfl
  have q1 := hf.cell 1 (v := .int .i64 (-1)) rfl
  refine bodyPost_ret (v := .tuple #[.agg #[.string ByteArray.empty, .int .i64 (-1)], .bool false]) (by simp [results, Tryz.results31, go_sem, q0, q1]) rfl ⟨⟨_, _, rfl⟩, ?_, ?_⟩
  · exact (((hB.alloc _).drewN _).other _ (by simp; omega) _).other _ (by simp; omega) _
  · exact grown_set_new (grown_set_new (grown_drewN (grown_alloc ((World.grownBy_alloc _ _ _).trans hg) _) _) _ (by simp) _) _ (by simp) _

set_option maxHeartbeats 800000 in
theorem step_plain (s : ByteArray) (g k : Nat) (w : World) (hm : s.size ≤ 1048576) (hk : k ≤ s.size) (hA : At w g s k) (hn : k < nameEnd s k k) (hb : brk s k = false) :
    Calls Tryz.prog 31 #[.pointer (some ⟨g, 0, none⟩)] w fun e w' =>
      e = .returned (.tuple #[.agg #[.string (stepName s k), .int .i64 (-1)], .bool true]) ∧ At w' g s (nameEnd s k k) ∧ w.grownBy w' (some g) := by
  have hEs := nameEnd_le s k k hk
  have hlt := hA.lt
  have HN : Hid (decide (k < nameEnd s k k) = true) := decide_eq_true hn
  have hk' : k ≤ nameEnd s k k := by omega
  go_enter Tryz.func31, Tryz.ntmps31
  go_wp2_with (go_at_call 53; fail)
  refine (name_any s g k _ hm hk (hA.alloc _)).mono ?_
  rintro e w1 ⟨he, hB, hg⟩
  rw [HN.out] at he
  subst he
  have hr : Blk w1 w.heap.size #[.string ⟨#[]⟩, .int .i64 0] 63 := (Blk.new _ _ _).grown hg (by simp; omega)
  have hz := hr.lt
  have hgl := hB.lt
  have r0 : w1.cell? ⟨w.heap.size, 0, none⟩ = some (.string ⟨#[]⟩) := hr.cell 0 rfl
  have r1 : w1.cell? ⟨w.heap.size, 1, none⟩ = some (.int .i64 0) := hr.cell 1 rfl
  have f0 : w1.frozen? ⟨w.heap.size, 0, none⟩ = false := hr.free 0
  have f1 : w1.frozen? ⟨w.heap.size, 1, none⟩ = false := hr.free 1
  have c0 : w1.cell? ⟨g, 0, none⟩ = some (.string s) := hB.cell 0 rfl
  have c1 : w1.cell? ⟨g, 1, none⟩ = some (.int .i64 (nameEnd s k k)) := hB.cell 1 rfl
  have hb' : ((gb s (nameEnd s k k) : Nat) : Int) ≠ 91 := by unfold brk at hb; simp at hb; omega
  clear hb
  by_cases he : nameEnd s k k = s.size
  · have d1 : decide (nameEnd s k k = s.size) = true := by simpa using he
    have d2 : (((nameEnd s k k : Nat) : Int) == ((s.size : Nat) : Int)) = true := by rw [he]; simp
    clear he
    go_wp2
    go_big_quiet (fail)
    go_wp2
    have hf := (((hr.alloc (.cells #[.string (s.extract k (nameEnd s k k)), .int .i64 (-1)] 63)).drewN nq).set 0 (.string (s.extract k (nameEnd s k k)))).set 1 (.int .i64 (-1))
    have q0 := hf.cell 0 (v := .string (s.extract k (nameEnd s k k))) rfl
    have q1 := hf.cell 1 (v := .int .i64 (-1)) rfl
    refine bodyPost_ret (v := .tuple #[.agg #[.string (s.extract k (nameEnd s k k)), .int .i64 (-1)], .bool true]) (by simp [results, Tryz.results31, go_sem, q0, q1]) rfl ⟨rfl, ?_, ?_⟩
    · exact (((Blk.alloc hB _).drewN _).other _ (by simp; omega) _).other _ (by simp; omega) _
    · exact grown_set_new (grown_set_new (grown_drewN (grown_alloc ((World.grownBy_alloc _ _ _).trans hg) _) _) _ (by simp) _) _ (by simp) _
  · have d2 : (((nameEnd s k k : Nat) : Int) == ((s.size : Nat) : Int)) = false := by simp; omega
    go_wp2
    go_big_quiet ((go_at_call 32; exact Calls.quiet_of (now_any s g (nameEnd s k k) _ (((Blk.alloc hB _).drewN _).cell 0 rfl) (((Blk.alloc hB _).drewN _).cell 1 rfl))))
    go_wp2
    have hf := (((hr.alloc (.cells #[.string (s.extract k (nameEnd s k k)), .int .i64 (-1)] 63)).drewN nq).set 0 (.string (s.extract k (nameEnd s k k)))).set 1 (.int .i64 (-1))
    have q0 := hf.cell 0 (v := .string (s.extract k (nameEnd s k k))) rfl
    have q1 := hf.cell 1 (v := .int .i64 (-1)) rfl
    refine bodyPost_ret (v := .tuple #[.agg #[.string (s.extract k (nameEnd s k k)), .int .i64 (-1)], .bool true]) (by simp [results, Tryz.results31, go_sem, q0, q1]) rfl ⟨rfl, ?_, ?_⟩
    · exact (((Blk.alloc hB _).drewN _).other _ (by simp; omega) _).other _ (by simp; omega) _
    · exact grown_set_new (grown_set_new (grown_drewN (grown_alloc ((World.grownBy_alloc _ _ _).trans hg) _) _) _ (by simp) _) _ (by simp) _

set_option maxHeartbeats 800000 in
theorem step_nodigit (s : ByteArray) (g k : Nat) (w : World) (hm : s.size ≤ 1048576) (hk : k ≤ s.size) (hA : At w g s k) (hn : k < nameEnd s k k) (hb : brk s k = true) (hd : isDig (gb s (nameEnd s k k + 1)) = false) :
    Calls Tryz.prog 31 #[.pointer (some ⟨g, 0, none⟩)] w fun e w' =>
      (∃ a b, e = .returned (.tuple #[.agg #[.string a, .int .i64 b], .bool false])) ∧ At w' g s (nameEnd s k k + 1) ∧ w.grownBy w' (some g) := by
  have HD : Hid (isDig (gb s (nameEnd s k k + 1)) = false) := hd
  clear hd
  have hEs := nameEnd_le s k k hk
  have hlt := hA.lt
  have HN : Hid (decide (k < nameEnd s k k) = true) := decide_eq_true hn
  have hk' : k ≤ nameEnd s k k := by omega
  go_enter Tryz.func31, Tryz.ntmps31
  go_wp2_with (go_at_call 53; fail)
  refine (name_any s g k _ hm hk (hA.alloc _)).mono ?_
  rintro e w1 ⟨he, hB, hg⟩
  rw [HN.out] at he
  subst he
  have hr : Blk w1 w.heap.size #[.string ⟨#[]⟩, .int .i64 0] 63 := (Blk.new _ _ _).grown hg (by simp; omega)
  have hz := hr.lt
  have hgl := hB.lt
  have r0 : w1.cell? ⟨w.heap.size, 0, none⟩ = some (.string ⟨#[]⟩) := hr.cell 0 rfl
  have r1 : w1.cell? ⟨w.heap.size, 1, none⟩ = some (.int .i64 0) := hr.cell 1 rfl
  have f0 : w1.frozen? ⟨w.heap.size, 0, none⟩ = false := hr.free 0
  have f1 : w1.frozen? ⟨w.heap.size, 1, none⟩ = false := hr.free 1
  have c0 : w1.cell? ⟨g, 0, none⟩ = some (.string s) := hB.cell 0 rfl
  have c1 : w1.cell? ⟨g, 1, none⟩ = some (.int .i64 (nameEnd s k k)) := hB.cell 1 rfl
  have hb' : (((gb s (nameEnd s k k) : Nat) : Int) != 91) = false := by unfold brk at hb; simp at hb; simp [hb]
  have hlt91 : nameEnd s k k < s.size := lt_of_gb (by unfold brk at hb; simp at hb; omega)
  have d2 : (((nameEnd s k k : Nat) : Int) == ((s.size : Nat) : Int)) = false := by simp; omega
  have g1 : w1.frozen? ⟨g, 1, none⟩ = false := Blk.free hB 1
  clear hb
  go_wp2
  go_big_quiet ((go_at_call 32; exact Calls.quiet_of (now_any s g (nameEnd s k k) _ (((Blk.alloc hB _).drewN _).cell 0 rfl) (((Blk.alloc hB _).drewN _).cell 1 rfl))))
  go_wp2_with (go_at_call 54; fail)
  have hA2 := At.set (Blk.drewN (Blk.alloc hB (.cells #[.string (s.extract k (nameEnd s k k)), .int .i64 (-1)] 63)) nq) (nameEnd s k k + 1)
  have hr2 := (Blk.drewN (Blk.alloc hr (.cells #[.string (s.extract k (nameEnd s k k)), .int .i64 (-1)] 63)) nq).other ⟨g, 1, none⟩ (by simp; omega) (.int .i64 ((nameEnd s k k + 1 : Nat) : Int))
  have ha2 := (Blk.drewN (Blk.new w1 #[.string (s.extract k (nameEnd s k k)), .int .i64 (-1)] 63) nq).other ⟨g, 1, none⟩ (by simp; omega) (.int .i64 ((nameEnd s k k + 1 : Nat) : Int))
  have hg2 := grown_set (grown_drewN (grown_alloc ((World.grownBy_alloc _ _ _).trans hg) (.cells #[.string (s.extract k (nameEnd s k k)), .int .i64 (-1)] 63)) nq) 1 (.int .i64 ((nameEnd s k k + 1 : Nat) : Int))
  refine (num_no s g _ _ HD.out hA2).mono ?_
  rintro e w3 ⟨rfl, hB3, hg3⟩
  have hr3 := hr2.grown hg3 (by simp; omega)
  have ha3 := ha2.grown hg3 (by simp; omega)
  have hg4 := hg2.trans hg3
  have hz3 := hr3.lt
  have hy3 := ha3.lt
  clear hr2 ha2 hg2 hA2 r0 r1 f0 f1 c0 c1 g1
  have r0 := hr3.cell 0 (v := .string ⟨#[]⟩) rfl
  have r1 := hr3.cell 1 (v := .int .i64 0) rfl
  have a0 := ha3.cell 0 (v := .string (s.extract k (nameEnd s k k))) rfl
  have a1 := ha3.cell 1 (v := .int .i64 (-1)) rfl
  have f0 := hr3.free 0
  have f1 := hr3.free 1
  have f2 := ha3.free 1
  go_wp2
  go_big_quiet (fail)
  go_wp2
  have hf := (((hr3.other ⟨w1.heap.size, 1, none⟩ (by simp; omega) (.int .i64 0)).drewN nq).set 0 (.string (s.extract k (nameEnd s k k)))).set 1 (.int .i64 0)
  have q0 := hf.cell 0 (v := .string (s.extract k (nameEnd s k k))) rfl
  have q1 := hf.cell 1 (v := .int .i64 0) rfl
  refine bodyPost_ret (v := .tuple #[.agg #[.string (s.extract k (nameEnd s k k)), .int .i64 0], .bool false]) (by simp [results, Tryz.results31, go_sem, q0, q1]) rfl ⟨⟨_, _, rfl⟩, ?_, ?_⟩
  · exact (((Blk.other hB3 _ (by simp; omega) _).drewN _).other _ (by simp; omega) _).other _ (by simp; omega) _
  · exact grown_set_new (grown_set_new (grown_drewN (grown_set_new hg4 _ (by simp; omega) _) _) _ (by simp) _) _ (by simp) _

set_option maxHeartbeats 1600000 in
theorem step_open (s : ByteArray) (g k : Nat) (w : World) (hm : s.size ≤ 1048576) (hk : k ≤ s.size) (hA : At w g s k) (hn : k < nameEnd s k k) (hb : brk s k = true) (hd : isDig (gb s (nameEnd s k k + 1)) = true)
    (p1 p2 : Nat) (hp : numAt s k = (p1, p2)) (hc : gb s p1 ≠ 93) :
    Calls Tryz.prog 31 #[.pointer (some ⟨g, 0, none⟩)] w fun e w' =>
      (∃ a b, e = .returned (.tuple #[.agg #[.string a, .int .i64 b], .bool false])) ∧ At w' g s p1 ∧ w.grownBy w' (some g) := by
  have HD : Hid (isDig (gb s (nameEnd s k k + 1)) = true) := hd
  clear hd
  have hEs := nameEnd_le s k k hk
  have hlt := hA.lt
  have HN : Hid (decide (k < nameEnd s k k) = true) := decide_eq_true hn
  have hk' : k ≤ nameEnd s k k := by omega
  go_enter Tryz.func31, Tryz.ntmps31
  go_wp2_with (go_at_call 53; fail)
  refine (name_any s g k _ hm hk (hA.alloc _)).mono ?_
  rintro e w1 ⟨he, hB, hg⟩
  rw [HN.out] at he
  subst he
  have hr : Blk w1 w.heap.size #[.string ⟨#[]⟩, .int .i64 0] 63 := (Blk.new _ _ _).grown hg (by simp; omega)
  have hz := hr.lt
  have hgl := hB.lt
  have r0 : w1.cell? ⟨w.heap.size, 0, none⟩ = some (.string ⟨#[]⟩) := hr.cell 0 rfl
  have r1 : w1.cell? ⟨w.heap.size, 1, none⟩ = some (.int .i64 0) := hr.cell 1 rfl
  have f0 : w1.frozen? ⟨w.heap.size, 0, none⟩ = false := hr.free 0
  have f1 : w1.frozen? ⟨w.heap.size, 1, none⟩ = false := hr.free 1
  have c0 : w1.cell? ⟨g, 0, none⟩ = some (.string s) := hB.cell 0 rfl
  have c1 : w1.cell? ⟨g, 1, none⟩ = some (.int .i64 (nameEnd s k k)) := hB.cell 1 rfl
  have hb' : (((gb s (nameEnd s k k) : Nat) : Int) != 91) = false := by unfold brk at hb; simp at hb; simp [hb]
  have hlt91 : nameEnd s k k < s.size := lt_of_gb (by unfold brk at hb; simp at hb; omega)
  have d2 : (((nameEnd s k k : Nat) : Int) == ((s.size : Nat) : Int)) = false := by simp; omega
  have g1 : w1.frozen? ⟨g, 1, none⟩ = false := Blk.free hB 1
  clear hb
  go_wp2
  go_big_quiet ((go_at_call 32; exact Calls.quiet_of (now_any s g (nameEnd s k k) _ (((Blk.alloc hB _).drewN _).cell 0 rfl) (((Blk.alloc hB _).drewN _).cell 1 rfl))))
  go_wp2_with (go_at_call 54; fail)
  have hA2 := At.set (Blk.drewN (Blk.alloc hB (.cells #[.string (s.extract k (nameEnd s k k)), .int .i64 (-1)] 63)) nq) (nameEnd s k k + 1)
  have hr2 := (Blk.drewN (Blk.alloc hr (.cells #[.string (s.extract k (nameEnd s k k)), .int .i64 (-1)] 63)) nq).other ⟨g, 1, none⟩ (by simp; omega) (.int .i64 ((nameEnd s k k + 1 : Nat) : Int))
  have ha2 := (Blk.drewN (Blk.new w1 #[.string (s.extract k (nameEnd s k k)), .int .i64 (-1)] 63) nq).other ⟨g, 1, none⟩ (by simp; omega) (.int .i64 ((nameEnd s k k + 1 : Nat) : Int))
  have hg2 := grown_set (grown_drewN (grown_alloc ((World.grownBy_alloc _ _ _).trans hg) (.cells #[.string (s.extract k (nameEnd s k k)), .int .i64 (-1)] 63)) nq) 1 (.int .i64 ((nameEnd s k k + 1 : Nat) : Int))
  have hnum := numAt_all HD.out
  rw [hp] at hnum
  dsimp only at hnum
  have hp' : numEnd s (nameEnd s k k + 1 + 1) (gb s (nameEnd s k k + 1) - 48) = (p1, p2) := hp
  have hcall := num_yes s g _ _ hm HD.out hA2
  rw [hp'] at hcall
  clear hp hp'
  refine hcall.mono ?_
  clear hcall
  rintro e w3 ⟨rfl, hB3, hg3⟩
  dsimp only at hB3 ⊢
  have hr3 := hr2.grown hg3 (by simp; omega)
  have ha3 := ha2.grown hg3 (by simp; omega)
  have hg4 := hg2.trans hg3
  have hz3 := hr3.lt
  have hy3 := ha3.lt
  have hx3 := hB3.lt
  clear hr2 ha2 hg2 hA2 r0 r1 f0 f1 c0 c1 g1
  have r0 := hr3.cell 0 (v := .string ⟨#[]⟩) rfl
  have r1 := hr3.cell 1 (v := .int .i64 0) rfl
  have a0 := ha3.cell 0 (v := .string (s.extract k (nameEnd s k k))) rfl
  have a1 := ha3.cell 1 (v := .int .i64 (-1)) rfl
  have f0 := hr3.free 0
  have f1 := hr3.free 1
  have f2 := ha3.free 1
  have c0 : w3.cell? ⟨g, 0, none⟩ = some (.string s) := hB3.cell 0 rfl
  have c1 : w3.cell? ⟨g, 1, none⟩ = some (.int .i64 p1) := hB3.cell 1 rfl
  have hB4 : At (w3.setCell ⟨w1.heap.size, 1, none⟩ (.int .i64 p2)) g s p1 := Blk.other hB3 _ (by simp; omega) _
  have hc' : (((gb s p1 : Nat) : Int) != 93) = true := by simp; omega
  clear hc
  go_wp2
  go_big_quiet ((go_at_call 32; exact Calls.quiet_of (now_any s g p1 _ ((Blk.drewN hB4 _).cell 0 rfl) ((Blk.drewN hB4 _).cell 1 rfl))))
  go_wp2
  have hf := (((hr3.other ⟨w1.heap.size, 1, none⟩ (by simp; omega) (.int .i64 p2)).drewN nq).set 0 (.string (s.extract k (nameEnd s k k)))).set 1 (.int .i64 p2)
  have q0 := hf.cell 0 (v := .string (s.extract k (nameEnd s k k))) rfl
  have q1 := hf.cell 1 (v := .int .i64 p2) rfl
  refine bodyPost_ret (v := .tuple #[.agg #[.string (s.extract k (nameEnd s k k)), .int .i64 p2], .bool false]) (by simp [results, Tryz.results31, go_sem, q0, q1]) rfl ⟨⟨_, _, rfl⟩, ?_, ?_⟩
  · exact (((Blk.other hB3 _ (by simp; omega) _).drewN _).other _ (by simp; omega) _).other _ (by simp; omega) _
  · exact grown_set_new (grown_set_new (grown_drewN (grown_set_new hg4 _ (by simp; omega) _) _) _ (by simp) _) _ (by simp) _

set_option maxHeartbeats 1600000 in
theorem step_close (s : ByteArray) (g k : Nat) (w : World) (hm : s.size ≤ 1048576) (hk : k ≤ s.size) (hA : At w g s k) (hn : k < nameEnd s k k) (hb : brk s k = true) (hd : isDig (gb s (nameEnd s k k + 1)) = true)
    (p1 p2 : Nat) (hp : numAt s k = (p1, p2)) (hc : gb s p1 = 93) :
    Calls Tryz.prog 31 #[.pointer (some ⟨g, 0, none⟩)] w fun e w' =>
      e = .returned (.tuple #[.agg #[.string (stepName s k), .int .i64 p2], .bool true]) ∧ At w' g s (p1 + 1) ∧ w.grownBy w' (some g) := by
  have HD : Hid (isDig (gb s (nameEnd s k k + 1)) = true) := hd
  clear hd
  have hEs := nameEnd_le s k k hk
  have hlt := hA.lt
  have HN : Hid (decide (k < nameEnd s k k) = true) := decide_eq_true hn
  have hk' : k ≤ nameEnd s k k := by omega
  go_enter Tryz.func31, Tryz.ntmps31
  go_wp2_with (go_at_call 53; fail)
  refine (name_any s g k _ hm hk (hA.alloc _)).mono ?_
  rintro e w1 ⟨he, hB, hg⟩
  rw [HN.out] at he
  subst he
  have hr : Blk w1 w.heap.size #[.string ⟨#[]⟩, .int .i64 0] 63 := (Blk.new _ _ _).grown hg (by simp; omega)
  have hz := hr.lt
  have hgl := hB.lt
  have r0 : w1.cell? ⟨w.heap.size, 0, none⟩ = some (.string ⟨#[]⟩) := hr.cell 0 rfl
  have r1 : w1.cell? ⟨w.heap.size, 1, none⟩ = some (.int .i64 0) := hr.cell 1 rfl
  have f0 : w1.frozen? ⟨w.heap.size, 0, none⟩ = false := hr.free 0
  have f1 : w1.frozen? ⟨w.heap.size, 1, none⟩ = false := hr.free 1
  have c0 : w1.cell? ⟨g, 0, none⟩ = some (.string s) := hB.cell 0 rfl
  have c1 : w1.cell? ⟨g, 1, none⟩ = some (.int .i64 (nameEnd s k k)) := hB.cell 1 rfl
  have hb' : (((gb s (nameEnd s k k) : Nat) : Int) != 91) = false := by unfold brk at hb; simp at hb; simp [hb]
  have hlt91 : nameEnd s k k < s.size := lt_of_gb (by unfold brk at hb; simp at hb; omega)
  have d2 : (((nameEnd s k k : Nat) : Int) == ((s.size : Nat) : Int)) = false := by simp; omega
  have g1 : w1.frozen? ⟨g, 1, none⟩ = false := Blk.free hB 1
  clear hb
  go_wp2
  go_big_quiet ((go_at_call 32; exact Calls.quiet_of (now_any s g (nameEnd s k k) _ (((Blk.alloc hB _).drewN _).cell 0 rfl) (((Blk.alloc hB _).drewN _).cell 1 rfl))))
  go_wp2_with (go_at_call 54; fail)
  have hA2 := At.set (Blk.drewN (Blk.alloc hB (.cells #[.string (s.extract k (nameEnd s k k)), .int .i64 (-1)] 63)) nq) (nameEnd s k k + 1)
  have hr2 := (Blk.drewN (Blk.alloc hr (.cells #[.string (s.extract k (nameEnd s k k)), .int .i64 (-1)] 63)) nq).other ⟨g, 1, none⟩ (by simp; omega) (.int .i64 ((nameEnd s k k + 1 : Nat) : Int))
  have ha2 := (Blk.drewN (Blk.new w1 #[.string (s.extract k (nameEnd s k k)), .int .i64 (-1)] 63) nq).other ⟨g, 1, none⟩ (by simp; omega) (.int .i64 ((nameEnd s k k + 1 : Nat) : Int))
  have hg2 := grown_set (grown_drewN (grown_alloc ((World.grownBy_alloc _ _ _).trans hg) (.cells #[.string (s.extract k (nameEnd s k k)), .int .i64 (-1)] 63)) nq) 1 (.int .i64 ((nameEnd s k k + 1 : Nat) : Int))
  have hnum := numAt_all HD.out
  rw [hp] at hnum
  dsimp only at hnum
  have hp' : numEnd s (nameEnd s k k + 1 + 1) (gb s (nameEnd s k k + 1) - 48) = (p1, p2) := hp
  have hcall := num_yes s g _ _ hm HD.out hA2
  rw [hp'] at hcall
  clear hp hp'
  refine hcall.mono ?_
  clear hcall
  rintro e w3 ⟨rfl, hB3, hg3⟩
  dsimp only at hB3 ⊢
  have hr3 := hr2.grown hg3 (by simp; omega)
  have ha3 := ha2.grown hg3 (by simp; omega)
  have hg4 := hg2.trans hg3
  have hz3 := hr3.lt
  have hy3 := ha3.lt
  have hx3 := hB3.lt
  clear hr2 ha2 hg2 hA2 r0 r1 f0 f1 c0 c1 g1
  have r0 := hr3.cell 0 (v := .string ⟨#[]⟩) rfl
  have r1 := hr3.cell 1 (v := .int .i64 0) rfl
  have a0 := ha3.cell 0 (v := .string (s.extract k (nameEnd s k k))) rfl
  have a1 := ha3.cell 1 (v := .int .i64 (-1)) rfl
  have f0 := hr3.free 0
  have f1 := hr3.free 1
  have f2 := ha3.free 1
  have c0 : w3.cell? ⟨g, 0, none⟩ = some (.string s) := hB3.cell 0 rfl
  have c1 : w3.cell? ⟨g, 1, none⟩ = some (.int .i64 p1) := hB3.cell 1 rfl
  have hB4 : At (w3.setCell ⟨w1.heap.size, 1, none⟩ (.int .i64 p2)) g s p1 := Blk.other hB3 _ (by simp; omega) _
  have hc' : (((gb s p1 : Nat) : Int) != 93) = false := by simp; omega
  have hp1 : p1 < s.size := lt_of_gb (by omega)
  have d3 : (((p1 : Nat) : Int) == ((s.size : Nat) : Int)) = false := by simp; omega
  have g1 : w3.frozen? ⟨g, 1, none⟩ = false := Blk.free hB3 1
  clear hc
  go_wp2
  go_big_quiet ((go_at_call 32; exact Calls.quiet_of (now_any s g p1 _ ((Blk.drewN hB4 _).cell 0 rfl) ((Blk.drewN hB4 _).cell 1 rfl))))
  go_wp2
  have hf := ((((hr3.other ⟨w1.heap.size, 1, none⟩ (by simp; omega) (.int .i64 p2)).drewN nq).other ⟨g, 1, none⟩ (by simp; omega) (.int .i64 ((p1 : Int) + 1))).set 0 (.string (s.extract k (nameEnd s k k)))).set 1 (.int .i64 p2)
  have q0 := hf.cell 0 (v := .string (s.extract k (nameEnd s k k))) rfl
  have q1 := hf.cell 1 (v := .int .i64 p2) rfl
  refine bodyPost_ret (v := .tuple #[.agg #[.string (s.extract k (nameEnd s k k)), .int .i64 p2], .bool true]) (by simp [results, Tryz.results31, go_sem, q0, q1]) rfl ⟨rfl, ?_, ?_⟩
  · exact (Blk.other (At.set (Blk.drewN hB4 _) (p1 + 1)) _ (by simp; omega) _).other _ (by simp; omega) _
  · exact grown_set_new (grown_set_new (grown_set (grown_drewN (grown_set_new hg4 _ (by simp; omega) _) _) _ _) _ (by simp) _) _ (by simp) _
end Go.Proofs.YtjohlabdjdhpfaaGreatDoor.Lk
