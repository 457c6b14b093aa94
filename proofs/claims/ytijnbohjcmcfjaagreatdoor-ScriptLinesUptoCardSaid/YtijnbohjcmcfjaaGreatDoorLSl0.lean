/-
  The law on scripts read and printed: the statement's own small functions, for equal arguments; rows of words laid behind one another.
-/
import Derived.Test.YtijnbohjcmcfjaaGreatDoorLSt
import Derived.Laws.AppendOwnNone
namespace Go.Proofs.YtijnbohjcmcfjaaGreatDoor.Sc
open Go.RowKit Go.Proofs.YtijnbohjcmcfjaaGreatDoor.Kt Go.Proofs.YtijnbohjcmcfjaaGreatDoor.Lk Go.Proofs.YtijnbohjcmcfjaaGreatDoor.Sp Go.Proofs.YtijnbohjcmcfjaaGreatDoor.Rw Go.Proofs.YtijnbohjcmcfjaaGreatDoor.Rg
open Go.Proofs.YtijnbohjcmcfjaaGreatDoor.Nu (dgt Sizes isInt pwOf)
set_option linter.unusedSimpArgs false
set_option linter.unusedVariables false
set_option maxRecDepth 100000

theorem wordsV_length (l : List Nat) : (wordsV l).length = l.length := by simp [wordsV]
theorem words_one (l : List Nat) : ∀ u ∈ wordsV l, u.oneCell' = true := by
  intro u hu
  obtain ⟨x, _, rfl⟩ := List.mem_map.1 hu
  rfl
/-- a row of one's own is a row -/
theorem WA_of_own {w : World} {base : Nat} {v : Value} {l : List Nat} (h : w.ownsRow base 30 1 v l.length (wordsV l)) : WA w v l := by
  by_cases h0 : l = []
  · subst h0
    obtain ⟨A, cap, rfl⟩ := row_is h
    rcases h.2 with ⟨h1, _⟩ | ⟨g, cap', cur, h1, _⟩
    · exact .inl ⟨h1, rfl⟩
    · right; left
      injection h1 with h1 _ h3
      subst h1; subst h3
      exact ⟨_, _, rfl, rfl⟩
  · obtain ⟨g, cap, rfl, _, _, _, _, hc⟩ := row_shape h (by simpa using h0)
    exact .inr (.inr ⟨g, 0, cap, rfl, fun i hi => by rw [Nat.zero_add]; exact hc i _ (by simp [wordsV, List.getElem?_map, hi])⟩)
theorem sw_none (A B : Option Addr) (c d : Nat) (w : World) : Calls Tryz.prog 8 #[.slice A 0 c, .slice B 0 d] w fun e w' => e = .returned (.bool true) ∧ Below w.heap.size w w' := by
  go_enter Tryz.func8, Tryz.ntmps8
  go_wp2
  go_loopw [13] (fun i wr => i = .int .i64 0 ∧ wr = w) (fun i _ => 0)
  case atStart => exact ⟨rfl, rfl⟩
  case round =>
    obtain ⟨rfl, rfl⟩ := hrel
    go_wp2
    go_ret
    exact ⟨rfl, Below.refl _ _⟩
theorem sw_some (b1 o1 c1 b2 o2 c2 : Nat) (l : List Nat) (w : World) (hl : l.length ≤ 2097152) (h1 : RW w b1 o1 l) (h2 : RW w b2 o2 l) :
    Calls Tryz.prog 8 #[.slice (some ⟨b1, o1, none⟩) l.length c1, .slice (some ⟨b2, o2, none⟩) l.length c2] w fun e w' => e = .returned (.bool true) ∧ Below w.heap.size w w' := by
  go_enter Tryz.func8, Tryz.ntmps8
  go_wp2
  go_loopw [13] (fun i wr => ∃ k n : Nat, i = .int .i64 k ∧ k ≤ l.length ∧ wr = w.drewN n) (fun i _ => l.length - (intOf i).toNat)
  case atStart => exact ⟨0, 0, rfl, Nat.zero_le _, rfl⟩
  case round =>
    obtain ⟨k, n, rfl, hk, rfl⟩ := hrel
    by_cases hlt : k < l.length
    · have x0 := h1 k hlt
      have y0 := h2 k hlt
      clear h1 h2
      generalize l[k] = x at x0 y0
      have e1 : ((x : Int) != (x : Int)) = false := by simp
      go_wp2
      go_big_quiet (fail)
      go_wp2
      go_roundw
      case rel => exact ⟨k + 1, _, by go_num, by omega, rfl⟩
      case measure => simp [intOf]; omega
    · obtain rfl : k = l.length := by omega
      clear h1 h2
      go_wp2
      go_ret
      exact ⟨rfl, below_drewN (Below.refl _ _) _⟩
theorem sw_any (v1 v2 : Value) (l : List Nat) (w : World) (hl : l.length ≤ 2097152) (h1 : WA w v1 l) (h2 : WA w v2 l) :
    Calls Tryz.prog 8 #[v1, v2] w fun e w' => e = .returned (.bool true) ∧ Below w.heap.size w w' := by
  by_cases h0 : l = []
  · subst h0
    obtain ⟨A, c, rfl⟩ := h1.len
    obtain ⟨B, d, rfl⟩ := h2.len
    exact sw_none A B c d w
  · rcases h1 with ⟨_, h⟩ | ⟨_, _, _, h⟩ | ⟨b1, o1, c1, rfl, r1⟩
    · exact absurd h h0
    · exact absurd h h0
    · rcases h2 with ⟨_, h⟩ | ⟨_, _, _, h⟩ | ⟨b2, o2, c2, rfl, r2⟩
      · exact absurd h h0
      · exact absurd h h0
      · exact sw_some b1 o1 c1 b2 o2 c2 l w hl r1 r2
set_option maxHeartbeats 1600000 in
theorem sc_any (c : CallP) (v1 v2 : Value) (w : World) (hl : c.words.length ≤ 2097152) (h1 : WA w v1 c.words) (h2 : WA w v2 c.words) :
    Calls Tryz.prog 6 #[.agg (callV c v1), .agg (callV c v2)] w fun e w' => e = .returned (.bool true) ∧ Below w.heap.size w w' := by
  obtain ⟨kd, nm, ws, ct, tx⟩ := c
  have H1 : Hid (WA w v1 ws) := h1
  have H2 : Hid (WA w v2 ws) := h2
  obtain ⟨A, a, rfl⟩ := h1.len
  obtain ⟨B, b, rfl⟩ := h2.len
  unfold callV
  dsimp only at hl h1 h2 ⊢
  clear h1 h2
  have e1 : (kd == kd) = true := beq_self_eq_true _
  have e2 : (nm.toList == nm.toList) = true := beq_self_eq_true _
  have e3 : (ct == ct) = true := beq_self_eq_true _
  have e4 : (tx.toList == tx.toList) = true := beq_self_eq_true _
  go_enter Tryz.func6, Tryz.ntmps6
  go_wp2_with (go_at_call 8; fail)
  have hb : Below w.heap.size w ((w.alloc (.cells #[.int .i64 kd, .string nm, .slice A ws.length a, .int .i64 ct, .string tx] 25)).alloc (.cells #[.int .i64 kd, .string nm, .slice B ws.length b, .int .i64 ct, .string tx] 25)) := ((Below.refl _ _).alloc (Nat.le_refl _) _).alloc (by simp) _
  refine (sw_any _ _ ws _ hl (H1.out.below hb) (H2.out.below hb)).mono ?_
  rintro e w1 ⟨rfl, hb1⟩
  have HB : Hid (Below w.heap.size w w1) := hb.trans (hb1.mono hb.size)
  clear hb hb1
  go_wp2
  go_ret
  exact ⟨rfl, HB.out⟩

/-- a row of words laid behind an empty row of one's own -/
theorem wpList_append_words {w : World} {ops : Array Oper} {rest : List Oper} {o : Oper} {a : Act} {Q : Exit → Act → World → Prop} (hgd : o.guard = none) (s x : Operand)
    (ho : o.op = .call { callee := .builtin .append, args := #[s, x], argTypes := #[23, 23] })
    (base : Nat) (v : Value) (hs : a.eval s = v) (hown : w.ownsRow base 30 1 v 0 []) (y : Value) (l : List Nat) (hx : a.eval x = y) (hr : WA w y l) (hl : l.length ≤ 2097152) (hbase : base ≤ w.heap.size)
    (h : ∀ v' w', w'.ownsRow base 30 1 v' l.length (wordsV l) → w.grownBy w' v.ownBlock → (v'.ownBlock = v.ownBlock ∨ v'.ownBlock = some w.heap.size) → wpList Tryz.prog ops Q rest (a.put o.dst v') w') :
    wpList Tryz.prog ops Q (o :: rest) a w := by
  obtain ⟨i1, hi1, hz10, hz11, hz12⟩ := info_parts infoW
  have key : ∀ (ad : Addr) (cap : Nat), y = .slice (some ad) l.length cap → (∀ j u, (wordsV l)[j]? = some u → w.cell? (ad.add j) = some u) → wpList Tryz.prog ops Q (o :: rest) a w := by
    intro ad cap hy hc
    refine wpList_append_own_at _ hgd s x 23 ho base 30 i1 (.int .u64 0) 1 8 Tryz.underlying23 hi1 hz10 hz11 hz12 rfl (by decide) v 0 [] hs hown ad l.length cap (wordsV l) (hx.trans hy) (by simp [wordsV]) hc (words_one l) (by unfold maxLen; omega) (by omega) hbase ?_
    intro v' w' h1 h2 _ h4
    exact h v' w' (by simpa using h1) h2 h4
  rcases hr with ⟨hy, rfl⟩ | ⟨ad, cap, hy, rfl⟩ | ⟨b, off, cap, hy, h2⟩
  · refine wpList_append_own_none hgd s x 23 ho base 30 i1 1 Tryz.underlying23 hi1 v 0 [] hs hown (hx.trans hy) ?_
    exact h v w hown ⟨rfl, rfl, rfl, Nat.le_refl _, fun _ _ _ => rfl⟩ (.inl rfl)
  · exact key ad cap hy (fun j u hj => by simp [wordsV] at hj)
  · refine key ⟨b, off, none⟩ cap hy (fun j u hj => ?_)
    unfold wordsV at hj
    rw [List.getElem?_map] at hj
    cases hlj : l[j]? with
    | none => rw [hlj] at hj; simp at hj
    | some n =>
      rw [hlj] at hj
      simp at hj
      subst hj
      obtain ⟨hjl, rfl⟩ := List.getElem?_eq_some_iff.1 hlj
      have := h2 j hjl
      rwa [show (⟨b, off, none⟩ : Addr).add j = ⟨b, off + j, none⟩ from by unfold Addr.add; split <;> simp_all]
end Go.Proofs.YtijnbohjcmcfjaaGreatDoor.Sc
/-
  A word laid behind a row of words: the old row still reads as it did.
-/
namespace Go.Proofs.YtijnbohjcmcfjaaGreatDoor.Sc
open Go.RowKit Go.Proofs.YtijnbohjcmcfjaaGreatDoor.Kt Go.Proofs.YtijnbohjcmcfjaaGreatDoor.Lk Go.Proofs.YtijnbohjcmcfjaaGreatDoor.Sp Go.Proofs.YtijnbohjcmcfjaaGreatDoor.Rw Go.Proofs.YtijnbohjcmcfjaaGreatDoor.Rg
set_option linter.unusedSimpArgs false
set_option linter.unusedVariables false
set_option maxRecDepth 100000

theorem old_kept {P : Program} {t ty e : TypeId} {i : TypeInfo} {z : Value} {w w' : World} {base n : Nat} {v v' : Value} {xs : List Value} {x : Value} {a : Addr} {c : Nat}
    (ht : P.underlying t = some (.slice e)) (hi : P.info? e = some i) (hz : i.zero = some z) (hs : i.size = 1) (hb : i.bytes = 8) (hown : w.ownsRow base e 1 v n xs) (hx : w.cell? a = some x) (h1 : x.oneCell' = true) (hn : n ≤ 2097152)
    (hr : (Builtin.append_ #[t, t] ty #[v, .slice (some a) 1 c]).run P w = .ok v' w') : w'.ownsRow base e 1 v n xs := by
  have hnews : ∀ j u, ([x] : List Value)[j]? = some u → w.cell? (a.add j) = some u := by
    intro j u hj
    cases j with
    | zero =>
      have : a.add 0 = a := by unfold Addr.add; simp
      rw [this]; simpa using hj ▸ hx
    | succ j => simp at hj
  have hone : ∀ u ∈ ([x] : List Value), u.oneCell' = true := by intro u hu; rw [List.mem_singleton.1 hu]; exact h1
  rcases hown.2 with ⟨rfl, rfl⟩ | ⟨g, cap, cur, rfl, hbg, hg, hnc, hcm, hcs, htake⟩
  · have : xs = [] := List.eq_nil_of_length_eq_zero (by simpa using hown.1)
    subst this
    exact World.ownsRow_nil _ _ _ _
  · by_cases hroom : n + 1 ≤ cap
    · have hrun := run_append_room (P := P) w t ty e i ht hi g n cap cur hg a 1 c [x] (by simp [hs]) hnews hone hroom (by rw [hs, hcs]; simp; omega)
      rw [hrun] at hr
      injection hr with h2 h3
      subst h3
      refine ⟨hown.1, .inr ⟨g, cap, _, rfl, hbg, setRow_heap w g cur _ e _ hg, hnc, hcm, ?_, ?_⟩⟩
      · simp only [List.size_toArray, List.length_append, List.length_take, List.length_drop, Array.length_toList, hs, List.length_singleton]
        omega
      · have hxl : xs.length = n := by have := hown.1; simpa using this
        rw [hs, htake]
        simp only [Nat.mul_one, List.append_assoc]
        rw [← hxl]
        exact List.take_left
    · have hrun := run_append_grow (P := P) w t ty e i z ht hi hz ⟨g, 0, none⟩ n cap xs (by rw [hown.1, hs]) (hown.cells (g := g) rfl) a 1 c [x] (by simp [hs]) hnews (by omega) (by omega) (growslice_fits (by omega) (by rw [hb]; omega))
      rw [hrun] at hr
      injection hr with h2 h3
      subst h3
      exact World.ownsRow.alloc (w := w.drew) hown _
theorem wpList_append_keep {w : World} {ops : Array Oper} {rest : List Oper} {o : Oper} {a : Act} {Q : Exit → Act → World → Prop} (hgd : o.guard = none) (s x : Operand)
    (ho : o.op = .call { callee := .builtin .append, args := #[s, x], argTypes := #[23, 23] })
    (base : Nat) (v : Value) (l : List Nat) (hs : a.eval s = v) (hown : w.ownsRow base 30 1 v l.length (wordsV l)) (u : Nat) (ad : Addr) (cap : Nat) (hx : a.eval x = .slice (some ad) 1 cap) (hc : w.cell? ad = some (.int .u64 (u : Int))) (hl : l.length ≤ 2097152) (hbase : base ≤ w.heap.size)
    (h : ∀ v' w', w'.ownsRow base 30 1 v' (l.length + 1) (wordsV (l ++ [u])) → w'.ownsRow base 30 1 v l.length (wordsV l) → w.grownBy w' v.ownBlock → (v'.ownBlock = v.ownBlock ∨ v'.ownBlock = some w.heap.size) → wpList Tryz.prog ops Q rest (a.put o.dst v') w') :
    wpList Tryz.prog ops Q (o :: rest) a w := by
  obtain ⟨i1, hi1, hz10, hz11, hz12⟩ := info_parts infoW
  refine wpList_plain hgd fun K hK => ?_
  obtain ⟨v', w', hr, h2, h3, h4, h5⟩ := run_append_own_at (P := Tryz.prog) w base 23 o.type 30 i1 (.int .u64 0) 1 8 Tryz.underlying23 hi1 hz10 hz11 hz12 rfl (by decide) v l.length (wordsV l) hown ad 1 cap [.int .u64 (u : Int)] (by simp) (by
    intro j y hj
    cases j with
    | zero =>
      have : ad.add 0 = ad := by unfold Addr.add; simp
      rw [this]; simpa using hj ▸ hc
    | succ j => simp at hj) (by intro y hy; rw [List.mem_singleton.1 hy]; rfl) (by unfold maxLen; omega) (by omega) hbase
  have hk := old_kept Tryz.underlying23 hi1 hz10 hz11 hz12 hown hc rfl hl hr
  unfold Oper.wp execOp
  simp only [ho, resolve, invoke, builtin, Sem.run_bind, Sem.run_pure, Result.andThen_ok, List.map_toArray, List.map_cons, List.map_nil, hs, hx, hr]
  exact hK _ _ (h v' w' (by unfold wordsV at h2 ⊢; rw [List.map_append]; exact h2) hk h3 h5)
end Go.Proofs.YtijnbohjcmcfjaaGreatDoor.Sc
/-
  The law on scripts read and printed: its walk.
-/
namespace Go.Proofs.YtijnbohjcmcfjaaGreatDoor.Sc
open Go.RowKit Go.Proofs.YtijnbohjcmcfjaaGreatDoor.Kt Go.Proofs.YtijnbohjcmcfjaaGreatDoor.Lk Go.Proofs.YtijnbohjcmcfjaaGreatDoor.Sp Go.Proofs.YtijnbohjcmcfjaaGreatDoor.Rw Go.Proofs.YtijnbohjcmcfjaaGreatDoor.Rg
open Go.Proofs.YtijnbohjcmcfjaaGreatDoor.Nu (dgt Sizes isInt pwOf)
set_option linter.unusedSimpArgs false
set_option linter.unusedVariables false
set_option maxRecDepth 100000

theorem print_callany (c : CallP) (v : Value) (w : World) (hw : WA w v c.words) (hws : ∀ n ∈ c.words, n < 2 ^ 64) (hl : c.words.length ≤ 1048577) (hn : c.name.size ≤ 268435456) (ht : c.text.size ≤ 67108864) (he : EnvS w) :
    Calls Tryz.prog 7 #[.agg (callV c v)] w (PrintPost c w) := by
  obtain ⟨kd, nm, ws, ct, tx⟩ := c
  dsimp only at hw hws hl hn ht
  by_cases h2 : kd = 2
  · subst h2
    obtain ⟨A, cap, rfl⟩ := hw.len
    exact print_next nm ws ct tx A cap w hl hn
  · by_cases hr : kd < 0 ∨ 3 < kd
    · obtain ⟨A, cap, rfl⟩ := hw.len
      exact print_kind kd hr nm ws ct tx A cap w
    · have hk : kd = 0 ∨ kd = 1 ∨ kd = 3 := by omega
      rcases hk with rfl | rfl | rfl
      · exact print_field nm ws ct tx v w hw hws hl hn ht he
      · exact print_group nm ws ct tx v w hw hws hl hn ht he
      · exact print_data nm ws ct tx v w hw hws hl hn ht he
theorem print_cases (c : CallP) : (printF c).2 = 0 ∨ printF c = (⟨#[]⟩, 250) := by
  unfold printF
  repeat' split
  all_goals first | exact .inl rfl | exact .inr rfl
theorem parse_is (s : ByteArray) (w : World) (hm : s.size ≤ 268435456) (he : EnvS w) {kd ct : Int} {nm tx : ByteArray} {ws : List Nat} {er p : Nat} (h : parseF s = (⟨kd, nm, ws, ct, tx⟩, er, p)) :
    Calls Tryz.prog 5 #[.string s] w fun e w' => ∃ A cap, e = .returned (.tuple #[.agg #[.int .i64 kd, .string nm, .slice A ws.length cap, .int .i64 ct, .string tx], .int .i64 (er : Int), .int .i64 (p : Int)]) ∧ w'.ownsRow w.heap.size 30 1 (.slice A ws.length cap) ws.length (wordsV ws) ∧ Below w.heap.size w w' :=
  (parse_any s w hm he).mono fun e w' ⟨v, h1, h2, h3⟩ => by
    rw [h] at h1 h2
    obtain ⟨A, cap, rfl⟩ := row_is h2
    exact ⟨A, cap, h1, h2, h3⟩
def litS : ByteArray := ⟨#[102, 105, 101, 108, 100, 32, 112, 114, 105, 99, 101, 32, 49, 48, 48, 44, 53]⟩
def litN : ByteArray := ⟨#[112, 114, 105, 99, 101]⟩
def litC : CallP := ⟨0, litN, [100, 5], 0, ⟨#[]⟩⟩
theorem lit_fine : Fine litC := by
  right
  refine ⟨litN, by decide, .inl ⟨[100, 5], rfl, ?_⟩⟩
  intro n hn
  simp at hn
  omega
theorem lit_parse : parseF litS = (litC, 0, 0) := by
  refine parse_writ lit_fine (k1 := 0) (k2 := 0) ?_
  show L litS = _
  kernel_rfl
end Go.Proofs.YtijnbohjcmcfjaaGreatDoor.Sc
/-
  The law on single lines: the statement's own small functions: words with a mark behind them, and whether the mark is there.
-/
namespace Go.Proofs.YtijnbohjcmcfjaaGreatDoor.Sc
open Go.RowKit Go.Proofs.YtijnbohjcmcfjaaGreatDoor.Kt Go.Proofs.YtijnbohjcmcfjaaGreatDoor.Lk Go.Proofs.YtijnbohjcmcfjaaGreatDoor.Sp Go.Proofs.YtijnbohjcmcfjaaGreatDoor.Rw Go.Proofs.YtijnbohjcmcfjaaGreatDoor.Rg
open Go.Proofs.YtijnbohjcmcfjaaGreatDoor.Nu (dgt Sizes isInt pwOf)
set_option linter.unusedSimpArgs false
set_option linter.unusedVariables false
set_option maxRecDepth 100000

/-- a row of words; behind it, in its own room, the mark -/
structure MK (w : World) (g cap : Nat) (l : List Nat) : Prop where
  room : l.length + 1 ≤ cap
  most : cap ≤ maxLen
  words : RW w g 0 l
  mark : w.cell? ⟨g, l.length, none⟩ = some (.int .u64 99)
theorem MK.below {w w' : World} {g cap : Nat} {l : List Nat} (h : MK w g cap l) (hb : Below w.heap.size w w') : MK w' g cap l :=
  ⟨h.room, h.most, h.words.below hb, cell_later hb h.mark⟩
theorem MK.wa {w : World} {g cap : Nat} {l : List Nat} (h : MK w g cap l) : WA w (.slice (some ⟨g, 0, none⟩) l.length cap) l := .inr (.inr ⟨g, 0, cap, rfl, h.words⟩)
theorem MK_own {w : World} {base g cap : Nat} {l : List Nat} (h : ∀ j u, (wordsV (l ++ [99]))[j]? = some u → w.cell? ⟨g, j, none⟩ = some u) (hc : l.length + 1 ≤ cap) (hm : cap ≤ maxLen) : MK w g cap l := by
  refine ⟨hc, hm, fun i hi => ?_, ?_⟩
  · rw [Nat.zero_add]
    refine h i _ ?_
    unfold wordsV
    rw [List.getElem?_map, List.getElem?_append_left hi, List.getElem?_eq_getElem hi]
    rfl
  · refine h l.length _ ?_
    unfold wordsV
    rw [List.getElem?_map, List.getElem?_append_right (Nat.le_refl _), Nat.sub_self]
    rfl
def MarkPost (l : List Nat) (w : World) (e : Ending) (w' : World) : Prop := ∃ g cap, e = .returned (.slice (some ⟨g, 0, none⟩) l.length cap) ∧ MK w' g cap l ∧ w.heap.size ≤ g ∧ Below w.heap.size w w'
set_option maxHeartbeats 1600000 in
theorem words_any25 (V : Value) (l : List Nat) (w : World) (hl : l.length ≤ 1048576) (hW : WA w V l) : Calls Tryz.prog 10 #[V] w (MarkPost l w) := by
  have HW : Hid (WA w V l) := hW
  obtain ⟨A, cap, rfl⟩ := hW.len
  clear hW
  have hown0 : (w.alloc (.cells #[] 30)).ownsRow w.heap.size 30 1 (.slice (some ⟨w.heap.size, 0, none⟩) 0 0) 0 [] := by
    have := World.ownsRow_lit (base := w.heap.size) (e := 30) (size := 1) w #[] 0 (Nat.le_refl _) (Nat.zero_le _) rfl
    simpa using this
  have hb0 : Below w.heap.size w (w.alloc (.cells #[] 30)) := (Below.refl _ _).alloc (Nat.le_refl _) _
  go_enter Tryz.func10, Tryz.ntmps10
  go_wp2_with (at_builtin; refine wpList_append_words rfl _ _ rfl w.heap.size _ rfl hown0 (.slice A l.length cap) l rfl ?c1 (by omega) ?c2 ?_)
  case c1 => exact HW.out.below hb0
  case c2 => simp
  intro v1 w1 own1 hg1 _
  obtain ⟨A1, cp1, rfl⟩ := row_is own1
  have hs1 : w.heap.size + 1 ≤ w1.heap.size := by have := hg1.size; simpa using this
  have HB1 : Hid (Below w.heap.size w w1) := hb0.grown hg1 (by simp) (fun j hj => by simp [Value.ownBlock] at hj; omega)
  have HB2 : Hid (Below w.heap.size w (w1.alloc (.cells #[.int .u64 99] 30))) := HB1.out.alloc HB1.out.size _
  have hown1 : (w1.alloc (.cells #[.int .u64 99] 30)).ownsRow w.heap.size 30 1 (.slice A1 l.length cp1) l.length (wordsV l) := own1.alloc _
  clear own1 hg1 hown0 hb0 HB1
  go_wp2_with (at_builtin; refine wpList_append_keep rfl _ _ rfl w.heap.size (.slice A1 l.length cp1) l rfl hown1 99 ⟨w1.heap.size, 0, none⟩ 1 rfl ?d1 ?d2 ?d3 ?_)
  case d1 => exact (Blk.new w1 #[.int .u64 99] 30).cell 0 rfl
  case d2 => omega
  case d3 => simp; omega
  intro v2 w2 own2 _ hg2 _
  obtain ⟨g2, cp2, rfl, hgb, hgl, hcap, hcm, hcell⟩ := row_shape own2 (by omega)
  have HM : Hid (MK w2 g2 cp2 l) := MK_own (base := 0) hcell hcap hcm
  have HB3 : Hid (Below w.heap.size w w2) := HB2.out.grown hg2 HB2.out.size (fun j hj => (hown1.lt j hj).1)
  unfold maxLen at hcm
  clear hcell own2 hg2 hown1 HB2
  go_wp2
  go_ret
  exact ⟨g2, cp2, rfl, HM.out, hgb, HB3.out⟩
theorem marked_any (g cap : Nat) (l : List Nat) (w : World) (hl : l.length ≤ 1048576) (h : MK w g cap l) : Calls Tryz.prog 12 #[.slice (some ⟨g, 0, none⟩) l.length cap] w fun e w' => e = .returned (.bool true) ∧ w = w' := by
  have c := h.mark
  have hr := h.room
  have hm := h.most
  unfold maxLen at hm
  clear h
  have hd : decide (l.length + 1 ≤ cap) = true := by simpa using hr
  go_enter Tryz.func12, Tryz.ntmps12
  go_wp2
  go_ret
  exact ⟨rfl, rfl⟩
end Go.Proofs.YtijnbohjcmcfjaaGreatDoor.Sc
