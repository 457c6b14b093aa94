/-
  The law on scripts read and printed: the statement's own small functions, for equal arguments; rows of words laid behind one another.
-/
import Derived.Test.YtijnbohjcmcfjaaGreatDoorSt
import Derived.Laws.AppendOwnNone
namespace Go.Proofs.YtijnbohjcmcfjaaGreatDoor.Sc
open Go.RowKit Go.Proofs.YtijnbohjcmcfjaaGreatDoor.Kt Go.Proofs.YtijnbohjcmcfjaaGreatDoor.Lk Go.Proofs.YtijnbohjcmcfjaaGreatDoor.Sp Go.Proofs.YtijnbohjcmcfjaaGreatDoor.Rw Go.Proofs.YtijnbohjcmcfjaaGreatDoor.Rg
open Go.Proofs.YtijnbohjcmcfjaaGreatDoor.Nu (dgt Sizes isInt pwOf)
set_option linter.unusedSimpArgs false
set_option linter.unusedVariables false
set_option maxRecDepth 100000

theorem wordsV_length (l : List Nat) : (wordsV l).length = l.length := by simp [wordsV]
theorem words_one (l : List Nat) : ∀ u ∈ wordsV l, u.oneCell' = true := by
  intro u hu
  obtain ⟨x, _, rfl⟩ := List.mem_map.1 hu
  rfl
/-- a row of one's own is a row -/
theorem WA_of_own {w : World} {base : Nat} {v : Value} {l : List Nat} (h : w.ownsRow base 30 1 v l.length (wordsV l)) : WA w v l := by
  by_cases h0 : l = []
  · subst h0
    obtain ⟨A, cap, rfl⟩ := row_is h
    rcases h.2 with ⟨h1, _⟩ | ⟨g, cap', cur, h1, _⟩
    · exact .inl ⟨h1, rfl⟩
    · right; left
      injection h1 with h1 _ h3
      subst h1; subst h3
      exact ⟨_, _, rfl, rfl⟩
  · obtain ⟨g, cap, rfl, _, _, _, _, hc⟩ := row_shape h (by simpa using h0)
    exact .inr (.inr ⟨g, 0, cap, rfl, fun i hi => by rw [Nat.zero_add]; exact hc i _ (by simp [wordsV, List.getElem?_map, hi])⟩)
theorem sw_none (A B : Option Addr) (c d : Nat) (w : World) : Calls Tryz.prog 8 #[.slice A 0 c, .slice B 0 d] w fun e w' => e = .returned (.bool true) ∧ Below w.heap.size w w' := by
  go_enter Tryz.func8, Tryz.ntmps8
  go_wp2
  go_loopw [13] (fun i wr => i = .int .i64 0 ∧ wr = w) (fun i _ => 0)
  case atStart => exact ⟨rfl, rfl⟩
  case round =>
    obtain ⟨rfl, rfl⟩ := hrel
    go_wp2
    go_ret
    exact ⟨rfl, Below.refl _ _⟩
theorem sw_some (b1 o1 c1 b2 o2 c2 : Nat) (l : List Nat) (w : World) (hl : l.length ≤ 2097152) (h1 : RW w b1 o1 l) (h2 : RW w b2 o2 l) :
    Calls Tryz.prog 8 #[.slice (some ⟨b1, o1, none⟩) l.length c1, .slice (some ⟨b2, o2, none⟩) l.length c2] w fun e w' => e = .returned (.bool true) ∧ Below w.heap.size w w' := by
  go_enter Tryz.func8, Tryz.ntmps8
  go_wp2
  go_loopw [13] (fun i wr => ∃ k n : Nat, i = .int .i64 k ∧ k ≤ l.length ∧ wr = w.drewN n) (fun i _ => l.length - (intOf i).toNat)
  case atStart => exact ⟨0, 0, rfl, Nat.zero_le _, rfl⟩
  case round =>
    obtain ⟨k, n, rfl, hk, rfl⟩ := hrel
    by_cases hlt : k < l.length
    · have x0 := h1 k hlt
      have y0 := h2 k hlt
      clear h1 h2
      generalize l[k] = x at x0 y0
      have e1 : ((x : Int) != (x : Int)) = false := by simp
      go_wp2
      go_big_quiet (fail)
      go_wp2
      go_roundw
      case rel => exact ⟨k + 1, _, by go_num, by omega, rfl⟩
      case measure => simp [intOf]; omega
    · obtain rfl : k = l.length := by omega
      clear h1 h2
      go_wp2
      go_ret
      exact ⟨rfl, below_drewN (Below.refl _ _) _⟩
theorem sw_any (v1 v2 : Value) (l : List Nat) (w : World) (hl : l.length ≤ 2097152) (h1 : WA w v1 l) (h2 : WA w v2 l) :
    Calls Tryz.prog 8 #[v1, v2] w fun e w' => e = .returned (.bool true) ∧ Below w.heap.size w w' := by
  by_cases h0 : l = []
  · subst h0
    obtain ⟨A, c, rfl⟩ := h1.len
    obtain ⟨B, d, rfl⟩ := h2.len
    exact sw_none A B c d w
  · rcases h1 with ⟨_, h⟩ | ⟨_, _, _, h⟩ | ⟨b1, o1, c1, rfl, r1⟩
    · exact absurd h h0
    · exact absurd h h0
    · rcases h2 with ⟨_, h⟩ | ⟨_, _, _, h⟩ | ⟨b2, o2, c2, rfl, r2⟩
      · exact absurd h h0
      · exact absurd h h0
      · exact sw_some b1 o1 c1 b2 o2 c2 l w hl r1 r2
set_option maxHeartbeats 1600000 in
theorem sc_any (c : CallP) (v1 v2 : Value) (w : World) (hl : c.words.length ≤ 2097152) (h1 : WA w v1 c.words) (h2 : WA w v2 c.words) :
    Calls Tryz.prog 6 #[.agg (callV c v1), .agg (callV c v2)] w fun e w' => e = .returned (.bool true) ∧ Below w.heap.size w w' := by
  obtain ⟨kd, nm, ws, ct, tx⟩ := c
  have H1 : Hid (WA w v1 ws) := h1
  have H2 : Hid (WA w v2 ws) := h2
  obtain ⟨A, a, rfl⟩ := h1.len
  obtain ⟨B, b, rfl⟩ := h2.len
  unfold callV
  dsimp only at hl h1 h2 ⊢
  clear h1 h2
  have e1 : (kd == kd) = true := beq_self_eq_true _
  have e2 : (nm.toList == nm.toList) = true := beq_self_eq_true _
  have e3 : (ct == ct) = true := beq_self_eq_true _
  have e4 : (tx.toList == tx.toList) = true := beq_self_eq_true _
  go_enter Tryz.func6, Tryz.ntmps6
  go_wp2_with (go_at_call 8; fail)
  have hb : Below w.heap.size w ((w.alloc (.cells #[.int .i64 kd, .string nm, .slice A ws.length a, .int .i64 ct, .string tx] 25)).alloc (.cells #[.int .i64 kd, .string nm, .slice B ws.length b, .int .i64 ct, .string tx] 25)) := ((Below.refl _ _).alloc (Nat.le_refl _) _).alloc (by simp) _
  refine (sw_any _ _ ws _ hl (H1.out.below hb) (H2.out.below hb)).mono ?_
  rintro e w1 ⟨rfl, hb1⟩
  have HB : Hid (Below w.heap.size w w1) := hb.trans (hb1.mono hb.size)
  clear hb hb1
  go_wp2
  go_ret
  exact ⟨rfl, HB.out⟩

/-- a row of words laid behind an empty row of one's own -/
theorem wpList_append_words {w : World} {ops : Array Oper} {rest : List Oper} {o : Oper} {a : Act} {Q : Exit → Act → World → Prop} (hgd : o.guard = none) (s x : Operand)
    (ho : o.op = .call { callee := .builtin .append, args := #[s, x], argTypes := #[23, 23] })
    (base : Nat) (v : Value) (hs : a.eval s = v) (hown : w.ownsRow base 30 1 v 0 []) (y : Value) (l : List Nat) (hx : a.eval x = y) (hr : WA w y l) (hl : l.length ≤ 2097152) (hbase : base ≤ w.heap.size)
    (h : ∀ v' w', w'.ownsRow base 30 1 v' l.length (wordsV l) → w.grownBy w' v.ownBlock → (v'.ownBlock = v.ownBlock ∨ v'.ownBlock = some w.heap.size) → wpList Tryz.prog ops Q rest (a.put o.dst v') w') :
    wpList Tryz.prog ops Q (o :: rest) a w := by
  obtain ⟨i1, hi1, hz10, hz11, hz12⟩ := info_parts infoW
  have key : ∀ (ad : Addr) (cap : Nat), y = .slice (some ad) l.length cap → (∀ j u, (wordsV l)[j]? = some u → w.cell? (ad.add j) = some u) → wpList Tryz.prog ops Q (o :: rest) a w := by
    intro ad cap hy hc
    refine wpList_append_own_at _ hgd s x 23 ho base 30 i1 (.int .u64 0) 1 8 Tryz.underlying23 hi1 hz10 hz11 hz12 rfl (by decide) v 0 [] hs hown ad l.length cap (wordsV l) (hx.trans hy) (by simp [wordsV]) hc (words_one l) (by unfold maxLen; omega) (by omega) hbase ?_
    intro v' w' h1 h2 _ h4
    exact h v' w' (by simpa using h1) h2 h4
  rcases hr with ⟨hy, rfl⟩ | ⟨ad, cap, hy, rfl⟩ | ⟨b, off, cap, hy, h2⟩
  · refine wpList_append_own_none hgd s x 23 ho base 30 i1 1 Tryz.underlying23 hi1 v 0 [] hs hown (hx.trans hy) ?_
    exact h v w hown ⟨rfl, rfl, rfl, Nat.le_refl _, fun _ _ _ => rfl⟩ (.inl rfl)
  · exact key ad cap hy (fun j u hj => by simp [wordsV] at hj)
  · refine key ⟨b, off, none⟩ cap hy (fun j u hj => ?_)
    unfold wordsV at hj
    rw [List.getElem?_map] at hj
    cases hlj : l[j]? with
    | none => rw [hlj] at hj; simp at hj
    | some n =>
      rw [hlj] at hj
      simp at hj
      subst hj
      obtain ⟨hjl, rfl⟩ := List.getElem?_eq_some_iff.1 hlj
      have := h2 j hjl
      rwa [show (⟨b, off, none⟩ : Addr).add j = ⟨b, off + j, none⟩ from by unfold Addr.add; split <;> simp_all]
end Go.Proofs.YtijnbohjcmcfjaaGreatDoor.Sc
