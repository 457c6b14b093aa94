/-
  The law on dumps read: its walk.
-/
import Derived.Test.YtjohlabdjdhpfaaGreatDoorRd4
import Derived.Laws.AppendOwnNone
namespace Go.Proofs.YtjohlabdjdhpfaaGreatDoor.Rd
open Go.RowKit Go.Proofs.YtjohlabdjdhpfaaGreatDoor.Kt Go.Proofs.YtjohlabdjdhpfaaGreatDoor.Lk Go.Proofs.YtjohlabdjdhpfaaGreatDoor.Rw Go.Proofs.YtjohlabdjdhpfaaGreatDoor.Ct Go.Proofs.YtjohlabdjdhpfaaGreatDoor.Bl
set_option linter.unusedSimpArgs false
set_option linter.unusedVariables false
set_option maxRecDepth 100000

/-- a row of texts that came in -/
def RA (w : World) (v : Value) (l : List ByteArray) : Prop :=
  (v = .slice none 0 0 ∧ l = []) ∨ (∃ ad cap, v = .slice (some ad) 0 cap ∧ l = []) ∨ ∃ b off cap, v = .slice (some ⟨b, off, none⟩) l.length cap ∧ RS w b off l
theorem RA.below {w w' : World} {v : Value} {l : List ByteArray} (h : RA w v l) (hb : Below w.heap.size w w') : RA w' v l := by
  rcases h with h | h | ⟨b, off, cap, h1, h2⟩
  · exact .inl h
  · exact .inr (.inl h)
  · exact .inr (.inr ⟨b, off, cap, h1, h2.below hb⟩)
theorem RA.len {w : World} {v : Value} {l : List ByteArray} (h : RA w v l) : ∃ A cap, v = .slice A l.length cap := by
  rcases h with ⟨rfl, rfl⟩ | ⟨ad, cap, rfl, rfl⟩ | ⟨b, off, cap, rfl, h2⟩
  · exact ⟨_, _, rfl⟩
  · exact ⟨_, _, rfl⟩
  · exact ⟨_, _, rfl⟩
theorem rread_any (v : Value) (l : List ByteArray) (w : World) (hl : l.length ≤ 1048576) (hsum : sumL l ≤ 1048574) (hr : RA w v l) :
    Calls Tryz.prog 5 #[v] w (ReadPost l w) := by
  rcases hr with ⟨rfl, rfl⟩ | ⟨ad, cap, rfl, rfl⟩ | ⟨b, off, cap, rfl, h2⟩
  · exact rread_none _ _ w
  · exact rread_none _ _ w
  · exact rread_some b off cap l w hl hsum h2

theorem same_none (A B : Option Addr) (c d : Nat) (w : World) : Calls Tryz.prog 6 #[.slice A 0 c, .slice B 0 d] w fun e w' => e = .returned (.bool true) ∧ ∃ n, w' = w.drewN n := by
  go_enter Tryz.func6, Tryz.ntmps6
  go_wp2
  go_loopw [5] (fun i wr => i = .int .i64 0 ∧ wr = w) (fun i _ => 0)
  case atStart => exact ⟨rfl, rfl⟩
  case round =>
    obtain ⟨rfl, rfl⟩ := hrel
    go_wp2
    go_ret
    exact ⟨rfl, 0, rfl⟩
theorem same_some (b1 o1 c1 b2 o2 c2 : Nat) (l : List ByteArray) (w : World) (hl : l.length ≤ 2097152) (h1 : RS w b1 o1 l) (h2 : RS w b2 o2 l) :
    Calls Tryz.prog 6 #[.slice (some ⟨b1, o1, none⟩) l.length c1, .slice (some ⟨b2, o2, none⟩) l.length c2] w fun e w' => e = .returned (.bool true) ∧ ∃ n, w' = w.drewN n := by
  go_enter Tryz.func6, Tryz.ntmps6
  go_wp2
  go_loopw [5] (fun i wr => ∃ k n : Nat, i = .int .i64 k ∧ k ≤ l.length ∧ wr = w.drewN n) (fun i _ => l.length - (intOf i).toNat)
  case atStart => exact ⟨0, 0, rfl, Nat.zero_le _, rfl⟩
  case round =>
    obtain ⟨k, n, rfl, hk, rfl⟩ := hrel
    by_cases hlt : k < l.length
    · have x0 := h1 k hlt
      have y0 := h2 k hlt
      clear h1 h2
      generalize l[k] = x at x0 y0
      have e0 : (x.toList == x.toList) = true := str_eq rfl
      have e1 : (x.toList != x.toList) = false := by rw [bne, e0]; rfl
      go_wp2
      go_big_quiet (fail)
      go_wp2
      go_roundw
      case rel => exact ⟨k + 1, _, by go_num, by omega, rfl⟩
      case measure => simp [intOf]; omega
    · obtain rfl : k = l.length := by omega
      clear h1 h2
      go_wp2
      go_ret
      exact ⟨rfl, _, rfl⟩
theorem same_any (b1 c1 : Nat) (v : Value) (l : List ByteArray) (w : World) (hl : l.length ≤ 2097152) (h1 : RS w b1 0 l) (h2 : RA w v l) :
    Calls Tryz.prog 6 #[.slice (some ⟨b1, 0, none⟩) l.length c1, v] w fun e w' => e = .returned (.bool true) ∧ ∃ n, w' = w.drewN n := by
  rcases h2 with ⟨rfl, rfl⟩ | ⟨ad, cap, rfl, rfl⟩ | ⟨b, off, cap, rfl, h2⟩
  · exact same_none _ _ _ _ w
  · exact same_none _ _ _ _ w
  · exact same_some b1 0 c1 b off cap l w hl h1 h2

theorem texts_one (l : List ByteArray) : ∀ u ∈ l.map Value.string, u.oneCell' = true := by
  intro u hu
  obtain ⟨x, _, rfl⟩ := List.mem_map.1 hu
  rfl
/-- what came in laid behind a row of one's own -/
theorem wpList_append_texts {w : World} {ops : Array Oper} {rest : List Oper} {o : Oper} {a : Act} {Q : Exit → Act → World → Prop} (hgd : o.guard = none) (s x : Operand)
    (ho : o.op = .call { callee := .builtin .append, args := #[s, x], argTypes := #[22, 22] })
    (base : Nat) (v : Value) (hs : a.eval s = v) (hown : w.ownsRow base 9 1 v 0 []) (y : Value) (l : List ByteArray) (hx : a.eval x = y) (hr : RA w y l) (hl : l.length ≤ 1048576) (hbase : base ≤ w.heap.size)
    (h : ∀ v' w', w'.ownsRow base 9 1 v' l.length (l.map Value.string) → w.grownBy w' v.ownBlock → wpList Tryz.prog ops Q rest (a.put o.dst v') w') :
    wpList Tryz.prog ops Q (o :: rest) a w := by
  obtain ⟨i1, hi1, hz10, hz11, hz12⟩ := info_parts infoStr
  have key : ∀ (ad : Addr) (cap : Nat), y = .slice (some ad) l.length cap → (∀ j u, (l.map Value.string)[j]? = some u → w.cell? (ad.add j) = some u) → wpList Tryz.prog ops Q (o :: rest) a w := by
    intro ad cap hy hc
    refine wpList_append_own_at _ hgd s x 22 ho base 9 i1 (.string ⟨#[]⟩) 1 16 Tryz.underlying22 hi1 hz10 hz11 hz12 rfl (by decide) v 0 [] hs hown ad l.length cap (l.map Value.string) (hx.trans hy) (by simp) hc (texts_one l) (by unfold maxLen; omega) (by omega) hbase ?_
    intro v' w' h1 h2 _ _
    exact h v' w' (by simpa using h1) h2
  rcases hr with ⟨hy, rfl⟩ | ⟨ad, cap, hy, rfl⟩ | ⟨b, off, cap, hy, h2⟩
  · refine wpList_append_own_none hgd s x 22 ho base 9 i1 1 Tryz.underlying22 hi1 v 0 [] hs hown (hx.trans hy) ?_
    exact h v w hown ⟨rfl, rfl, rfl, Nat.le_refl _, fun _ _ _ => rfl⟩
  · exact key ad cap hy (fun j u hj => by simp at hj)
  · refine key ⟨b, off, none⟩ cap hy (fun j u hj => ?_)
    rw [List.getElem?_map] at hj
    cases hlj : l[j]? with
    | none => rw [hlj] at hj; simp at hj
    | some s =>
      rw [hlj] at hj
      simp at hj
      subst hj
      obtain ⟨hjl, rfl⟩ := List.getElem?_eq_some_iff.1 hlj
      have := h2 j hjl
      rwa [show (⟨b, off, none⟩ : Addr).add j = ⟨b, off + j, none⟩ from by unfold Addr.add; split <;> simp_all]

set_option maxHeartbeats 1600000 in
theorem law_any (v : Value) (l : List ByteArray) (w : World) (hl : l.length ≤ 1048575) (hsum : sumL l ≤ 1048574) (hr : RA w v l) (he : Env w) :
    Calls Tryz.prog 3 #[v] w fun e w' => e = .returned (.bool true) ∧ Below w.heap.size w w' := by
  obtain ⟨i1, hi1, hz10, hz11, hz12⟩ := info_parts infoStr
  have HR : Hid (RA w v l) := hr
  obtain ⟨A, cap, rfl⟩ := hr.len
  clear hr
  go_enter Tryz.func3, Tryz.ntmps3
  have hown0 := World.ownsRow_lit (base := w.heap.size) (e := 9) (size := 1) w #[] 0 (Nat.le_refl _) (Nat.zero_le _) rfl
  go_wp2_with (at_builtin; refine wpList_append_texts rfl _ _ rfl w.heap.size _ rfl hown0 (.slice A l.length cap) l rfl (HR.out.below ((Below.refl _ _).alloc (Nat.le_refl _) _)) (by omega) (by simp) ?_)
  intro v1 w1 own1 hg1
  have hb1 : Below w.heap.size w w1 := below_row ((Below.refl _ _).alloc (Nat.le_refl _) _) (by simp) hown0 hg1
  clear hown0 hg1
  go_wp2_with (at_builtin; refine wpList_append_own_at _ rfl _ _ 22 rfl w.heap.size 9 i1 (.string ⟨#[]⟩) 1 16 Tryz.underlying22 hi1 hz10 hz11 hz12 rfl (by decide) v1 l.length (l.map Value.string) rfl (own1.alloc _) ⟨w1.heap.size, 0, none⟩ 1 1 [.string ⟨#[115, 112, 97, 114, 101, 32, 114, 111, 111, 109]⟩] rfl rfl (new_cells _ _ _) (one_str _) ?c3 ?c4 ?c5 ?_)
  case c3 => unfold maxLen; omega
  case c4 => omega
  case c5 => have := hb1.size; simp; omega
  intro v2 w2 own2 hg2 _ _
  have hb2 : Below w.heap.size w w2 := below_row (hb1.alloc hb1.size _) (by have := hb1.size; simp; omega) (own1.alloc _) hg2
  obtain ⟨g, cap2, rfl, hg2g, hgl, hcc, hcm, hcells⟩ := row_shape own2 (by omega)
  have hcl : l.length ≤ cap2 := by omega
  have hcm' : cap2 ≤ 9223372036854775807 := by unfold maxLen at hcm; omega
  have HS2 : Hid (RS w2 g 0 l) := fun j hj => by
    have := hcells j (.string l[j]) (by rw [List.getElem?_append_left (by simpa using hj)]; simp [hj])
    simpa using this
  have HP2 : Hid (w2.cell? ⟨g, l.length, none⟩ = some (.string ⟨#[115, 112, 97, 114, 101, 32, 114, 111, 111, 109]⟩)) := hcells l.length _ (by simp)
  have HB2 : Hid (Below w.heap.size w w2) := hb2
  clear own1 hb1 own2 hg2 hb2 hcells hg2g hgl hcc hcm
  go_wp2_with (go_at_call 4; fail)
  have ht : Calls Tryz.prog 4 #[.slice (some ⟨g, 0, none⟩) l.length cap2] w2 (ReadPost l w2) := tread_some g 0 cap2 l w2 (by omega) hsum HS2.out (he.below HB2.out)
  refine ht.mono ?_
  rintro e w3 ⟨rfl, hb3⟩
  have HB3 : Hid (Below w.heap.size w w3) := HB2.out.trans (hb3.mono HB2.out.size)
  have HS3 : Hid (RS w3 g 0 l) := HS2.out.below hb3
  have HP3 : Hid (w3.cell? ⟨g, l.length, none⟩ = some (.string ⟨#[115, 112, 97, 114, 101, 32, 114, 111, 111, 109]⟩)) := cell_later hb3 HP2.out
  clear ht hb3
  obtain ⟨RL, hRL⟩ : ∃ r, r = readL l := ⟨_, rfl⟩
  rw [← hRL]
  go_wp2_with (go_at_call 5; fail)
  refine (rread_any _ l _ (by omega) hsum (HR.out.below HB3.out)).mono ?_
  rintro e w4 ⟨rfl, hb4⟩
  rw [← hRL]
  clear hRL
  have HB4 : Hid (Below w.heap.size w w4) := HB3.out.trans (hb4.mono HB3.out.size)
  have HS4 : Hid (RS w4 g 0 l) := HS3.out.below hb4
  have HP4 : Hid (w4.cell? ⟨g, l.length, none⟩ = some (.string ⟨#[115, 112, 97, 114, 101, 32, 114, 111, 111, 109]⟩)) := cell_later hb4 HP3.out
  clear hb4
  obtain ⟨r1, r2, r3⟩ := RL
  dsimp only
  have e1 : (r1.toList == r1.toList) = true := str_eq rfl
  have e2 : (r2 == r2) = true := beq_self_eq_true _
  have e3 : (r3 == r3) = true := beq_self_eq_true _
  go_wp2_with (go_at_call 6; fail)
  refine (same_any g cap2 _ l _ (by omega) HS4.out (HR.out.below HB4.out)).mono ?_
  rintro e w5 ⟨rfl, n, rfl⟩
  have c5 : (w4.drewN n).cell? ⟨g, l.length, none⟩ = some (.string ⟨#[115, 112, 97, 114, 101, 32, 114, 111, 111, 109]⟩) := HP4.out
  have hB5 : Below w.heap.size w (w4.drewN n) := below_drewN HB4.out n
  clear HS2 HS3 HS4 HP2 HP3 HP4
  go_wp2
  go_ret
  exact ⟨rfl, hB5⟩
end Go.Proofs.YtjohlabdjdhpfaaGreatDoor.Rd
