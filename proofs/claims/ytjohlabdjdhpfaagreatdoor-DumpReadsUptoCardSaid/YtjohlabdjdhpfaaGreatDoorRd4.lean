/-
  A row of lines read: by package dump and by the document, over one plain function.
-/
import Derived.Test.YtjohlabdjdhpfaaGreatDoorRd3
import Derived.Test.YtjohlabdjdhpfaaGreatDoorBld
namespace Go.Proofs.YtjohlabdjdhpfaaGreatDoor.Rd
open Go.RowKit Go.Proofs.YtjohlabdjdhpfaaGreatDoor.Kt Go.Proofs.YtjohlabdjdhpfaaGreatDoor.Lk Go.Proofs.YtjohlabdjdhpfaaGreatDoor.Rw Go.Proofs.YtjohlabdjdhpfaaGreatDoor.Ct Go.Proofs.YtjohlabdjdhpfaaGreatDoor.Bl
set_option linter.unusedSimpArgs false
set_option linter.unusedVariables false
set_option maxRecDepth 100000

open Classical in
/-- a line's answer -/
noncomputable def lineF (s : ByteArray) (a : Nat) : Option (ByteArray × Nat) :=
  if h : ∃ r : ByteArray × Nat, LineYes s a r.1 r.2 then some h.choose else none
theorem LineYes.one {s : ByteArray} {a : Nat} {b b' : ByteArray} {m m' : Nat} (h : LineYes s a b m) (h' : LineYes s a b' m') (ha : a ≤ 1099511627776) (hm : s.size ≤ 1048576) : b = b' ∧ m = m' := by
  have n1 := h.near
  have n2 := h'.near
  obtain ⟨p0, p1, p2, p3, p4, hp, h0, h1, h2, h3, h4, h5, h6, h7, h8⟩ := h
  obtain ⟨q0, q1, q2, q3, q4, hq, k0, k1, k2, k3, k4, k5, k6, k7, k8⟩ := h'
  rw [hp] at hq
  simp only [List.cons.injEq, and_true] at hq
  obtain ⟨rfl, rfl, rfl, rfl, rfl⟩ := hq
  exact ⟨by rw [h6, k6], dgt_inj (by omega) (by omega) (h1.symm.trans k1)⟩
theorem lineF_yes {s : ByteArray} {a : Nat} {b : ByteArray} {m : Nat} (h : LineYes s a b m) (ha : a ≤ 1099511627776) (hm : s.size ≤ 1048576) : lineF s a = some (b, m) := by
  have hx : ∃ r : ByteArray × Nat, LineYes s a r.1 r.2 := ⟨(b, m), h⟩
  unfold lineF
  rw [dif_pos hx]
  obtain ⟨e1, e2⟩ := hx.choose_spec.one h ha hm
  exact congrArg some (Prod.ext e1 e2)
theorem lineF_no {s : ByteArray} {a : Nat} (h : ∀ b m, ¬ LineYes s a b m) : lineF s a = none := by
  unfold lineF
  rw [dif_neg]
  rintro ⟨⟨b, m⟩, hb⟩
  exact h b m hb

/-- how many bytes the texts have -/
def sumL (l : List ByteArray) : Nat := (l.map ByteArray.size).sum
/-- the rows read: the text so far, the next address, the row's number -/
noncomputable def readF : List ByteArray → ByteArray → Nat → Nat → ByteArray × Int × Int
  | [], acc, _, _ => (acc, 0, 0)
  | s :: r, acc, a, i => match lineF s a with
    | none => (⟨#[]⟩, 230, i)
    | some bm => readF r (acc ++ bm.1) bm.2 (i + 1)
noncomputable def readL (l : List ByteArray) : ByteArray × Int × Int := readF l ⟨#[]⟩ 0 0
theorem drop_at {l : List ByteArray} {k : Nat} (h : k < l.length) : l.drop k = l[k] :: l.drop (k + 1) := List.drop_eq_getElem_cons h
theorem sumL_cons (s : ByteArray) (r : List ByteArray) : sumL (s :: r) = s.size + sumL r := by simp [sumL]
theorem readF_no {l : List ByteArray} {k a : Nat} {acc : ByteArray} (h : k < l.length) (hn : ∀ b m, ¬ LineYes l[k] a b m) : readF (l.drop k) acc a k = (⟨#[]⟩, 230, (k : Int)) := by
  rw [drop_at h, readF, lineF_no hn]
theorem readF_yes {l : List ByteArray} {k a m : Nat} {acc b : ByteArray} (h : k < l.length) (hy : LineYes l[k] a b m) (ha : a ≤ 1099511627776) (hm : (l[k]).size ≤ 1048576) :
    readF (l.drop k) acc a k = readF (l.drop (k + 1)) (acc ++ b) m (k + 1) := by
  rw [drop_at h, readF, lineF_yes hy ha hm]
theorem readF_end {l : List ByteArray} {k a : Nat} {acc : ByteArray} (h : k = l.length) : readF (l.drop k) acc a k = (acc, 0, 0) := by
  rw [List.drop_eq_nil_of_le (by omega), readF]
def ReadPost (l : List ByteArray) (w : World) (e : Ending) (w' : World) : Prop :=
  e = .returned (.tuple #[.string (readL l).1, .int .i64 (readL l).2.1, .int .i64 (readL l).2.2]) ∧ Below w.heap.size w w'
/-- a row of texts -/
def RS (w : World) (b off : Nat) (l : List ByteArray) : Prop := ∀ i (h : i < l.length), w.cell? ⟨b, off + i, none⟩ = some (.string l[i])
theorem RS.below {w w' : World} {b off : Nat} {l : List ByteArray} (h : RS w b off l) (hb : Below w.heap.size w w') : RS w' b off l := fun i hi => cell_later hb (h i hi)
theorem RS.below' {w0 w w' : World} {b off : Nat} {l : List ByteArray} (h : RS w0 b off l) (h0 : Below w0.heap.size w0 w) (hb : Below w.heap.size w w') : RS w' b off l := (h.below h0).below hb

/-- what the loops carry -/
structure RI (l : List ByteArray) (k a : Nat) (acc : ByteArray) : Prop where
  le : k ≤ l.length
  sum : a + sumL (l.drop k) ≤ 1048574
  small : acc.size ≤ a
  go : readF (l.drop k) acc a k = readL l
theorem RI.start {l : List ByteArray} (h : sumL l ≤ 1048574) : RI l 0 0 ⟨#[]⟩ := ⟨Nat.zero_le _, by simpa using h, Nat.le_refl _, rfl⟩
theorem RI.line {l : List ByteArray} {k a : Nat} {acc : ByteArray} (h : RI l k a acc) (hk : k < l.length) : (l[k]).size ≤ 1048574 := by
  have := h.sum
  rw [drop_at hk, sumL_cons] at this
  omega
theorem RI.next {l : List ByteArray} {k a m : Nat} {acc b : ByteArray} (h : RI l k a acc) (hk : k < l.length) (hy : LineYes l[k] a b m) : RI l (k + 1) m (acc ++ b) := by
  have hs := h.sum
  have hn := hy.near
  have hl := h.line hk
  have hgo := h.go
  rw [drop_at hk, sumL_cons] at hs
  rw [readF_yes hk hy (by omega) (by omega)] at hgo
  have ha := h.small
  have hb : b.size = m - a := by obtain ⟨_, _, _, _, _, _, _, _, _, _, _, _, _, _, h8⟩ := hy; exact h8
  exact ⟨by omega, by omega, by rw [ByteArray.size_append]; omega, hgo⟩
theorem RI.bad {l : List ByteArray} {k a : Nat} {acc : ByteArray} (h : RI l k a acc) (hk : k < l.length) (hn : ∀ b m, ¬ LineYes l[k] a b m) : readL l = (⟨#[]⟩, 230, (k : Int)) := by
  rw [← h.go, readF_no hk hn]
theorem RI.done {l : List ByteArray} {k a : Nat} {acc : ByteArray} (h : RI l k a acc) (hk : k = l.length) : readL l = (acc, 0, 0) := by
  rw [← h.go, readF_end hk]

set_option maxHeartbeats 1600000 in
theorem rread_some (b off cap : Nat) (l : List ByteArray) (w : World) (hl : l.length ≤ 1048576) (hsum : sumL l ≤ 1048574) (hr : RS w b off l) :
    Calls Tryz.prog 5 #[.slice (some ⟨b, off, none⟩) l.length cap] w (ReadPost l w) := by
  go_enter Tryz.func5, Tryz.ntmps5
  go_wp2
  go_loopg [5, 6, 7] l.length (fun m t a i wr => ∃ (k : Nat) (acc : ByteArray) (n : Nat), m = l.length - k ∧ RI l k n acc ∧ i = .int .i64 k ∧ a = .int .i64 n ∧ t = .string acc ∧ Below w.heap.size w wr)
  case atStart => exact ⟨0, ⟨#[]⟩, 0, rfl, RI.start hsum, rfl, rfl, rfl, Below.refl _ _⟩
  case round =>
    obtain ⟨k, acc, n, hmm, hRI, rfl, rfl, rfl, hbel⟩ := hrel
    have HM : Hid (gk = l.length - k) := hmm
    have HI : Hid (RI l k n acc) := hRI
    have hk := hRI.le
    have hn : n ≤ 1048574 := by have := hRI.sum; omega
    have hacc := hRI.small
    clear hmm hRI
    by_cases hlt : k < l.length
    · have c0 := (hr.below hbel) k hlt
      have hsz := HI.out.line hlt
      have HB : Hid ((∀ b m, ¬ LineYes l[k] n b m) → readL l = (⟨#[]⟩, 230, (k : Int))) := fun h => HI.out.bad hlt h
      have HN : Hid (∀ (b : ByteArray) (m : Nat), LineYes l[k] n b m → RI l (k + 1) m (acc ++ b) ∧ b.size + acc.size ≤ 1048574) := fun b m h => by
        have h1 := HI.out.next hlt h
        have h2 := h1.small
        have h3 := h1.sum
        rw [ByteArray.size_append] at h2
        exact ⟨h1, by omega⟩
      generalize l[k] = s at c0 hsz HB HN
      go_wp2_with (go_at_call 10; fail)
      refine (rline_any s n _ hsz (by omega)).mono ?_
      rintro e w1 ⟨⟨b1, m, hy, rfl⟩ | ⟨hno, x, y, rfl⟩, hb1⟩
      · obtain ⟨h1, h2⟩ := HN.out b1 m hy
        have HI' : Hid (RI l (k + 1) m (acc ++ b1)) := h1
        have hB : Below w.heap.size w w1 := hbel.trans (hb1.mono hbel.size)
        clear h1 hy hb1 hbel c0
        go_wp2
        go_roundg (l.length - (k + 1))
        case measure => rw [HM.out]; omega
        case rel => exact ⟨k + 1, _, m, rfl, HI'.out, by go_num, rfl, rfl, hB⟩
      · have HR : Hid (readL l = (⟨#[]⟩, 230, (k : Int))) := HB.out hno
        have hB : Below w.heap.size w w1 := hbel.trans (hb1.mono hbel.size)
        clear hno hb1 hbel c0
        go_wp2
        go_ret3
        exact ⟨by rw [HR.out]; rfl, hB⟩
    · have HR : Hid (readL l = (acc, 0, 0)) := HI.out.done (by omega)
      obtain rfl : k = l.length := by omega
      clear hr
      go_wp2
      go_ret3
      exact ⟨by rw [HR.out]; rfl, hbel⟩
theorem rread_none (A : Option Addr) (cap : Nat) (w : World) : Calls Tryz.prog 5 #[.slice A 0 cap] w (ReadPost [] w) := by
  go_enter Tryz.func5, Tryz.ntmps5
  go_wp2
  go_loopg [5, 6, 7] 0 (fun m t a i wr => i = .int .i64 0 ∧ t = .string ⟨#[]⟩ ∧ Below w.heap.size w wr)
  case atStart => exact ⟨rfl, rfl, Below.refl _ _⟩
  case round =>
    obtain ⟨rfl, rfl, hbel⟩ := hrel
    go_wp2
    go_ret3
    exact ⟨rfl, hbel⟩

set_option maxHeartbeats 1600000 in
theorem tread_some (b off cap : Nat) (l : List ByteArray) (w : World) (hl : l.length ≤ 1048576) (hsum : sumL l ≤ 1048574) (hr : RS w b off l) (he : Env w) :
    Calls Tryz.prog 4 #[.slice (some ⟨b, off, none⟩) l.length cap] w (ReadPost l w) := by
  go_enter Tryz.func4, Tryz.ntmps4
  go_wp2
  go_loopg [6, 14] l.length (fun m a i wr => ∃ (k : Nat) (acc : ByteArray) (n : Nat), m = l.length - k ∧ RI l k n acc ∧ i = .int .i64 k ∧ a = .int .i64 n ∧ Holds w.heap.size w.heap.size acc wr ∧ Below w.heap.size w wr)
  case atStart =>
    refine ⟨0, ⟨#[]⟩, 0, rfl, RI.start hsum, rfl, rfl, ?_, (Below.refl _ _).alloc (Nat.le_refl _) _⟩
    exact Lib.fresh_isBuilder _ _ w
  case round =>
    obtain ⟨k, acc, n, hmm, hRI, rfl, rfl, hho, hbel⟩ := hrel
    have HM : Hid (gk = l.length - k) := hmm
    have HI : Hid (RI l k n acc) := hRI
    have HO : Hid (Holds w.heap.size w.heap.size acc wr) := hho
    have hk := hRI.le
    have hn : n ≤ 1048574 := by have := hRI.sum; omega
    have hacc := hRI.small
    clear hmm hRI hho
    by_cases hlt : k < l.length
    · have c0 := (hr.below hbel) k hlt
      have hsz := HI.out.line hlt
      have HB : Hid ((∀ b m, ¬ LineYes l[k] n b m) → readL l = (⟨#[]⟩, 230, (k : Int))) := fun h => HI.out.bad hlt h
      have HN : Hid (∀ (b : ByteArray) (m : Nat), LineYes l[k] n b m → RI l (k + 1) m (acc ++ b) ∧ b.size + acc.size ≤ 1048574) := fun b m h => by
        have h1 := HI.out.next hlt h
        have h2 := h1.small
        have h3 := h1.sum
        rw [ByteArray.size_append] at h2
        exact ⟨h1, by omega⟩
      generalize l[k] = s at c0 hsz HB HN
      go_wp2_with (go_at_call 7; fail)
      refine (tline_any s n _ hsz (by omega) (he.below hbel)).mono ?_
      rintro e w1 ⟨⟨b1, m, hy, rfl⟩ | ⟨hno, x, y, rfl⟩, hb1⟩
      · obtain ⟨h1, h2⟩ := HN.out b1 m hy
        have HI' : Hid (RI l (k + 1) m (acc ++ b1)) := h1
        have hB : Below w.heap.size w w1 := hbel.trans (hb1.mono hbel.size)
        have HO1 : Hid (Holds w.heap.size w.heap.size acc w1) := HO.out.below hb1
        clear h1 hy hb1 hbel c0
        go_wp2_with (go_at_call 8; fail)
        refine (writeString_any w.heap.size w.heap.size acc b1 _ HO1.out (by omega) hB.size).mono ?_
        rintro e w2 ⟨rfl, ho2, hb2⟩
        have HO2 : Hid (Holds w.heap.size w.heap.size (acc ++ b1) w2) := ho2
        have hB2 : Below w.heap.size w w2 := hB.trans hb2
        clear ho2 hb2 hB
        go_wp2
        go_roundg (l.length - (k + 1))
        case measure => rw [HM.out]; omega
        case rel => exact ⟨k + 1, _, m, rfl, HI'.out, by go_num, rfl, HO2.out, hB2⟩
      · have HR : Hid (readL l = (⟨#[]⟩, 230, (k : Int))) := HB.out hno
        have hB : Below w.heap.size w w1 := hbel.trans (hb1.mono hbel.size)
        clear hno hb1 hbel c0
        go_wp2
        go_ret3
        exact ⟨by rw [HR.out]; rfl, hB⟩
    · have HR : Hid (readL l = (acc, 0, 0)) := HI.out.done (by omega)
      obtain rfl : k = l.length := by omega
      clear hr
      go_wp2_with (go_at_call 9; refine (string_any w.heap.size w.heap.size acc _ HO.out hbel.size).mono ?_; rintro e w2 ⟨rfl, hb2⟩)
      go_ret3
      exact ⟨by rw [HR.out]; rfl, hbel.trans hb2⟩
set_option maxHeartbeats 1600000 in
theorem tread_none (A : Option Addr) (cap : Nat) (w : World) : Calls Tryz.prog 4 #[.slice A 0 cap] w (ReadPost [] w) := by
  go_enter Tryz.func4, Tryz.ntmps4
  go_wp2
  go_loopg [6, 14] 0 (fun m a i wr => i = .int .i64 0 ∧ Holds w.heap.size w.heap.size ⟨#[]⟩ wr ∧ Below w.heap.size w wr)
  case atStart => exact ⟨rfl, Lib.fresh_isBuilder _ _ w, (Below.refl _ _).alloc (Nat.le_refl _) _⟩
  case round =>
    obtain ⟨rfl, hho, hbel⟩ := hrel
    have HO : Hid (Holds w.heap.size w.heap.size ⟨#[]⟩ wr) := hho
    clear hho
    go_wp2_with (go_at_call 9; refine (string_any w.heap.size w.heap.size ⟨#[]⟩ _ HO.out hbel.size).mono ?_; rintro e w2 ⟨rfl, hb2⟩)
    go_ret3
    exact ⟨rfl, hbel.trans hb2⟩
end Go.Proofs.YtjohlabdjdhpfaaGreatDoor.Rd
