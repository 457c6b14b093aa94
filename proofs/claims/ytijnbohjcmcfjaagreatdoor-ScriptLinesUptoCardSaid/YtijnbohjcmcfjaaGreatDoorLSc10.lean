/-
  Plain laws: a call that is written is read as itself, with spaces about it; what is read can be written; where a line is refused.
-/
import Derived.Test.YtijnbohjcmcfjaaGreatDoorLSplit
namespace Go.Proofs.YtijnbohjcmcfjaaGreatDoor.Sc
open Go.RowKit Go.Proofs.YtijnbohjcmcfjaaGreatDoor.Kt Go.Proofs.YtijnbohjcmcfjaaGreatDoor.Lk Go.Proofs.YtijnbohjcmcfjaaGreatDoor.Sp
open Go.Proofs.YtijnbohjcmcfjaaGreatDoor.Nu (pwOf magN digEnd worthI dgt)
set_option linter.unusedSimpArgs false
set_option linter.unusedVariables false
set_option maxRecDepth 100000

/-- a call that can be written -/
def Fine (c : CallP) : Prop :=
  c = ⟨2, ⟨#[]⟩, [], 0, ⟨#[]⟩⟩ ∨ ∃ nm, symOk nm = true ∧ ((∃ ws : List Nat, c = ⟨0, nm, ws, 0, ⟨#[]⟩⟩ ∧ ∀ n ∈ ws, n < 2 ^ 64) ∨ (∃ m : Nat, m ≤ 4294967295 ∧ c = ⟨1, nm, [], (m : Int), ⟨#[]⟩⟩) ∨ ∃ t : ByteArray, c = ⟨3, nm, [], 0, t⟩)
/-- how it is written -/
def writ : CallP → ByteArray := fun c =>
  if c.kind = 2 then wNext
  else if c.kind = 1 then wGroup ++ sp ++ c.name ++ (sp ++ dgt c.count.toNat)
  else if c.kind = 3 then wData ++ sp ++ c.name ++ (sp ++ quoteF c.text)
  else if c.words ≠ [] then wField ++ sp ++ c.name ++ (sp ++ joinF c.words)
  else wField ++ sp ++ c.name
theorem fine_print {c : CallP} (h : Fine c) : printF c = (writ c, 0) := by
  rcases h with rfl | ⟨nm, hn, ⟨ws, rfl, hw⟩ | ⟨m, hm, rfl⟩ | ⟨t, rfl⟩⟩
  · rfl
  · have e0 : (⟨#[]⟩ : ByteArray) = ByteArray.empty := rfl
    unfold printF writ spareF
    by_cases hw0 : ws = [] <;> simp [hn, e0, hw0]
  · have e0 : (⟨#[]⟩ : ByteArray) = ByteArray.empty := rfl
    unfold printF writ spareF
    have : ¬ (4294967295 < (m : Int)) := by omega
    have h2 : ¬ ((m : Int) < 0) := by omega
    simp [hn, this, e0, h2]
  · unfold printF writ spareF
    simp [hn]
theorem print_fine {c : CallP} {t : ByteArray} (h : printF c = (t, 0)) (hw : ∀ n ∈ c.words, n < 2 ^ 64) : Fine c ∧ t = writ c := by
  have key : Fine c := by
    unfold printF at h
    split at h
    · rename_i h1
      obtain ⟨a1, a2, a3⟩ := h1
      obtain ⟨kd, nm, ws, ct, tx⟩ := c
      dsimp only at a1 a2 hw
      subst a1
      unfold spareF at a3
      simp at a3
      obtain ⟨⟨b1, b2⟩, b3⟩ := a3
      left
      rw [b1, b2, empty_of_size a2, b3]; rfl
    · split at h
      · cases h
      · rename_i h1 h2
        obtain ⟨kd, nm, ws, ct, tx⟩ := c
        dsimp only at h2 hw
        simp only [not_or] at h2
        obtain ⟨a1, a2, a3, a4, a5, a6, a7⟩ := h2
        have hn : symOk nm = true := by simpa using a4
        unfold spareF at a5
        simp at a5
        obtain ⟨⟨b1, b2⟩, b3⟩ := a5
        right
        refine ⟨nm, hn, ?_⟩
        have hk : kd = 0 ∨ kd = 1 ∨ kd = 3 := by omega
        rcases hk with rfl | rfl | rfl
        · left
          have e2 := b2 (by omega)
          have e3 := b3 (by omega)
          exact ⟨ws, by rw [e2, e3]; rfl, hw⟩
        · right; left
          have e1 := b1 (by omega)
          have e3 := b3 (by omega)
          exact ⟨ct.toNat, by omega, by rw [e1, e3, show ((ct.toNat : Nat) : Int) = ct by omega]; rfl⟩
        · right; right
          have e1 := b1 (by omega)
          have e2 := b2 (by omega)
          exact ⟨tx, by rw [e1, e2]⟩
  exact ⟨key, by rw [fine_print key] at h; exact (Prod.mk.injEq .. ▸ h).1.symm⟩

theorem sym_nosp {s : ByteArray} (h : symOk s = true) : L s ≠ [] ∧ ∀ b ∈ L s, b ≠ 32 := by
  unfold symOk at h
  simp at h
  obtain ⟨⟨h0, _⟩, h2⟩ := h
  refine ⟨fun e => by rw [← L_size, e] at h0; simp at h0, fun b hb => ?_⟩
  obtain ⟨i, hi, rfl⟩ := List.mem_iff_getElem.1 hb
  have hi' : i < s.size := by rw [← L_size]; exact hi
  unfold symAll at h2
  have h3 := List.all_eq_true.1 h2 i (List.mem_range.2 hi')
  intro e
  have e2 : gb s i = 32 := by
    rw [gb_lt hi']
    have : s[i] = (L s)[i] := rfl
    rw [this, e]; rfl
  unfold symAt at h3
  rw [e2] at h3
  simp [isLet, isDig] at h3

/-- a line that begins with a word -/
theorem word_parse {s : ByteArray} {k : Nat} {W C : List UInt8} (h : L s = List.replicate k 32 ++ W ++ C) (hW : W ≠ []) (hB : ∀ b ∈ W, b ≠ 32) (hC : C = [] ∨ ∃ r, C = 32 :: r) :
    skipE s 0 = k ∧ fieldE s k = k + W.length ∧ sub s k (k + W.length) = ⟨W.toArray⟩ := by
  have hl : (List.replicate k (32 : UInt8)).length = k := by simp
  have h1 := skip_at (s := s) k [] (W ++ C) (by rw [h]; simp) (by
    right
    cases W with
    | nil => exact absurd rfl hW
    | cons b r => exact ⟨b, r ++ C, rfl, hB b (by simp)⟩)
  have h2 := field_at (s := s) W (List.replicate k 32) C h hB hC
  have h3 := sub_at h
  rw [hl] at h2 h3
  exact ⟨by simpa using h1, h2, h3⟩
/-- a name behind a space -/
theorem name_parse {s : ByteArray} {A N C : List UInt8} (h : L s = A ++ 32 :: (N ++ C)) (hN : N ≠ []) (hB : ∀ b ∈ N, b ≠ 32) (hC : C = [] ∨ ∃ r, C = 32 :: r) :
    skipE s A.length = A.length + 1 ∧ fieldE s (A.length + 1) = A.length + 1 + N.length ∧ sub s (A.length + 1) (A.length + 1 + N.length) = ⟨N.toArray⟩ := by
  have h1 := skip_at (s := s) 1 A (N ++ C) (by rw [h]; simp) (by
    right
    cases N with
    | nil => exact absurd rfl hN
    | cons b r => exact ⟨b, r ++ C, rfl, hB b (by simp)⟩)
  have e : L s = (A ++ [32]) ++ N ++ C := by rw [h]; simp
  have h2 := field_at (s := s) N (A ++ [32]) C e hB hC
  have h3 := sub_at e
  rw [List.length_append, List.length_singleton] at h2 h3
  exact ⟨h1, h2, h3⟩
theorem mk_L (s : ByteArray) : (⟨(L s).toArray⟩ : ByteArray) = s := L_inj rfl
theorem rep_or (n : Nat) : (List.replicate n (32 : UInt8)) = [] ∨ ∃ r, List.replicate n (32 : UInt8) = 32 :: r := by
  cases n with
  | zero => exact .inl rfl
  | succ n => exact .inr ⟨_, List.replicate_succ⟩
theorem end_le {s : ByteArray} {A B : List UInt8} (h : L s = A ++ B) : s.size = A.length + B.length := by rw [← L_size, h, List.length_append]

/-- a name with nothing behind it -/
theorem named_none {s nm : ByteArray} {A : List UInt8} {k2 : Nat} (kd : Int) (hn : symOk nm = true) (h : L s = A ++ 32 :: (L nm ++ List.replicate k2 32)) : namedF s kd A.length = (⟨kd, nm, [], 0, ⟨#[]⟩⟩, 0, 0) := by
  obtain ⟨n1, n2⟩ := sym_nosp hn
  obtain ⟨h1, h2, h3⟩ := name_parse h n1 n2 (rep_or k2)
  rw [mk_L] at h3
  have hl : 0 < (L nm).length := List.length_pos_iff.2 n1
  have h4 := skip_at (s := s) k2 (A ++ 32 :: L nm) [] (by rw [h]; simp) (.inl rfl)
  have e : (A ++ 32 :: L nm).length = A.length + 1 + (L nm).length := by simp; omega
  have h5 : s.size = A.length + 1 + (L nm).length + k2 := by rw [← L_size, h]; simp; omega
  rw [e] at h4
  unfold namedF
  rw [h1, h2, h3, if_neg (by omega), if_neg (by rw [hn]; simp), h4, if_pos (by omega)]
/-- a name with something behind it -/
theorem named_more {s nm : ByteArray} {A X : List UInt8} {x : UInt8} (kd : Int) (hn : symOk nm = true) (hx : x ≠ 32) (h : L s = A ++ 32 :: (L nm ++ 32 :: x :: X)) :
    namedF s kd A.length = restF s kd nm (A.length + 1 + (L nm).length + 1) := by
  obtain ⟨n1, n2⟩ := sym_nosp hn
  obtain ⟨h1, h2, h3⟩ := name_parse h n1 n2 (.inr ⟨_, rfl⟩)
  rw [mk_L] at h3
  have hl : 0 < (L nm).length := List.length_pos_iff.2 n1
  have h4 := skip_at (s := s) 1 (A ++ 32 :: L nm) (x :: X) (by rw [h]; simp) (.inr ⟨x, X, rfl, hx⟩)
  have e : (A ++ 32 :: L nm).length = A.length + 1 + (L nm).length := by simp; omega
  have h5 : A.length + 1 + (L nm).length + 1 < s.size := by rw [← L_size, h]; simp; omega
  rw [e] at h4
  unfold namedF
  rw [h1, h2, h3, if_neg (by omega), if_neg (by rw [hn]; simp), h4, if_neg (by omega)]

theorem dgt_cons (n : Nat) : ∃ x X, L (dgt n) = x :: X ∧ x ≠ 32 := by
  cases h : L (dgt n) with
  | nil => exact absurd h (dgt_ne n)
  | cons x X => exact ⟨x, X, rfl, dig_ne (dgt_dig n x (by rw [h]; simp)) (m := 32) (by omega)⟩
theorem join_cons {l : List Nat} (hl : l ≠ []) : ∃ x X, L (joinF l) = x :: X ∧ x ≠ 32 := by
  cases h : L (joinF l) with
  | nil => exact absurd (by rw [← L_size, h]; rfl) (join_size hl)
  | cons x X => exact ⟨x, X, rfl, join_nosp l x (by rw [h]; simp)⟩
theorem L_sp : L sp = [32] := rfl

/-- what is written is read, with spaces about it -/
theorem parse_writ {c : CallP} (hf : Fine c) {s : ByteArray} {k1 k2 : Nat} (h : L s = List.replicate k1 32 ++ L (writ c) ++ List.replicate k2 32) : parseF s = (c, 0, 0) := by
  rcases hf with rfl | ⟨nm, hn, hc⟩
  · have h' : L s = List.replicate k1 32 ++ L wNext ++ List.replicate k2 32 := h
    obtain ⟨h1, h2, h3⟩ := word_parse h' (by decide) (by decide) (rep_or k2)
    rw [mk_L] at h3
    have e4 : (L wNext).length = 4 := rfl
    have ht := tail_at (s := s) (n := k2) (A := List.replicate k1 32 ++ L wNext) (c := ⟨2, ⟨#[]⟩, [], 0, ⟨#[]⟩⟩) h'
    have el : (List.replicate k1 (32 : UInt8) ++ L wNext).length = k1 + (L wNext).length := by simp
    rw [el] at ht
    unfold parseF
    rw [h1, h2, h3, if_neg (by omega), if_neg (by decide), if_neg (by decide), if_pos rfl, ht]
  · rcases hc with ⟨ws, rfl, hw⟩ | ⟨m, hm, rfl⟩ | ⟨t, rfl⟩
    · by_cases h0 : ws = []
      · subst h0
        have h' : L s = List.replicate k1 32 ++ L wField ++ 32 :: (L nm ++ List.replicate k2 32) := by
          rw [h]; unfold writ; simp [L_app, L_sp]
        obtain ⟨h1, h2, h3⟩ := word_parse h' (by decide) (by decide) (.inr ⟨_, rfl⟩)
        rw [mk_L] at h3
        have e4 : (L wField).length = 5 := rfl
        have ht := named_none 0 hn h'
        have el : (List.replicate k1 (32 : UInt8) ++ L wField).length = k1 + (L wField).length := by simp
        rw [el] at ht
        unfold parseF
        rw [h1, h2, h3, if_neg (by omega), if_pos rfl, ht]
      · obtain ⟨x, X, hx, hx2⟩ := join_cons h0
        have h' : L s = List.replicate k1 32 ++ L wField ++ 32 :: (L nm ++ 32 :: x :: (X ++ List.replicate k2 32)) := by
          rw [h]; unfold writ; simp [L_app, L_sp, h0, hx]
        obtain ⟨h1, h2, h3⟩ := word_parse h' (by decide) (by decide) (.inr ⟨_, rfl⟩)
        rw [mk_L] at h3
        have e4 : (L wField).length = 5 := rfl
        have ht := named_more 0 hn hx2 h'
        have el : (List.replicate k1 (32 : UInt8) ++ L wField).length = k1 + (L wField).length := by simp
        rw [el] at ht
        have hB : L s = (List.replicate k1 32 ++ L wField ++ 32 :: (L nm ++ [32])) ++ L (joinF ws) ++ List.replicate k2 32 := by rw [h', hx]; simp
        have el2 : (List.replicate k1 (32 : UInt8) ++ L wField ++ 32 :: (L nm ++ [32])).length = k1 + (L wField).length + 1 + (L nm).length + 1 := by simp; omega
        have f1 := field_at _ _ _ hB (join_nosp ws) (rep_or k2)
        have f2 := sub_at hB
        rw [mk_L] at f2
        have f3 := tail_at (s := s) (n := k2) (A := (List.replicate k1 32 ++ L wField ++ 32 :: (L nm ++ [32])) ++ L (joinF ws)) (c := ⟨0, nm, ws, 0, ⟨#[]⟩⟩) hB
        rw [List.length_append, el2] at f3
        rw [el2] at f1 f2
        unfold parseF
        rw [h1, h2, h3, if_neg (by omega), if_pos rfl, ht]
        unfold restF
        rw [if_pos rfl, f1, f2, list_join h0 hw, if_neg (by simp), f3]
    · obtain ⟨x, X, hx, hx2⟩ := dgt_cons m
      have h' : L s = List.replicate k1 32 ++ L wGroup ++ 32 :: (L nm ++ 32 :: x :: (X ++ List.replicate k2 32)) := by
        rw [h]; unfold writ; simp [L_app, L_sp, hx]
      obtain ⟨h1, h2, h3⟩ := word_parse h' (by decide) (by decide) (.inr ⟨_, rfl⟩)
      rw [mk_L] at h3
      have e4 : (L wGroup).length = 5 := rfl
      have ht := named_more 1 hn hx2 h'
      have el : (List.replicate k1 (32 : UInt8) ++ L wGroup).length = k1 + (L wGroup).length := by simp
      rw [el] at ht
      have hB : L s = (List.replicate k1 32 ++ L wGroup ++ 32 :: (L nm ++ [32])) ++ L (dgt m) ++ List.replicate k2 32 := by rw [h', hx]; simp
      have el2 : (List.replicate k1 (32 : UInt8) ++ L wGroup ++ 32 :: (L nm ++ [32])).length = k1 + (L wGroup).length + 1 + (L nm).length + 1 := by simp; omega
      have f1 := field_at _ _ _ hB (fun b hb => dig_ne (dgt_dig m b hb) (m := 32) (by omega)) (rep_or k2)
      have f2 := sub_at hB
      rw [mk_L] at f2
      have f3 := tail_at (s := s) (n := k2) (A := (List.replicate k1 32 ++ L wGroup ++ 32 :: (L nm ++ [32])) ++ L (dgt m)) (c := ⟨1, nm, [], (m : Int), ⟨#[]⟩⟩) hB
      rw [List.length_append, el2] at f3
      rw [el2] at f1 f2
      unfold parseF
      rw [h1, h2, h3, if_neg (by omega), if_neg (by decide), if_pos rfl, ht]
      unfold restF
      rw [if_neg (by decide), if_pos rfl, f1, f2, int_dgt hm, if_neg (by simp), f3]
    · have hq := L_quote t
      have h' : L s = List.replicate k1 32 ++ L wData ++ 32 :: (L nm ++ 32 :: 34 :: ((L t).flatMap qB ++ [34] ++ List.replicate k2 32)) := by
        rw [h]; unfold writ; simp [L_app, L_sp, hq]
      obtain ⟨h1, h2, h3⟩ := word_parse h' (by decide) (by decide) (.inr ⟨_, rfl⟩)
      rw [mk_L] at h3
      have e4 : (L wData).length = 4 := rfl
      have ht := named_more 3 hn (by decide) h'
      have el : (List.replicate k1 (32 : UInt8) ++ L wData).length = k1 + (L wData).length := by simp
      rw [el] at ht
      have hB : L s = (List.replicate k1 32 ++ L wData ++ 32 :: (L nm ++ [32])) ++ L (quoteF t) ++ List.replicate k2 32 := by rw [h', hq]; simp
      have hB2 : L s = (List.replicate k1 32 ++ L wData ++ 32 :: (L nm ++ [32])) ++ (L (quoteF t) ++ List.replicate k2 32) ++ [] := by rw [hB]; simp
      have el2 : (List.replicate k1 (32 : UInt8) ++ L wData ++ 32 :: (L nm ++ [32])).length = k1 + (L wData).length + 1 + (L nm).length + 1 := by simp; omega
      have f2 := sub_at hB2
      have hB3 : L s = (List.replicate k1 32 ++ L wData ++ 32 :: (L nm ++ [32])) ++ (L (quoteF t) ++ List.replicate k2 32) := by rw [hB]; simp
      have hz : s.size = k1 + (L wData).length + 1 + (L nm).length + 1 + (L (quoteF t) ++ List.replicate k2 32).length := by rw [end_le hB3, el2]
      rw [el2, ← hz] at f2
      have f1 : unqF (sub s (k1 + (L wData).length + 1 + (L nm).length + 1) s.size) = ((L t).map (fun c => (c.toNat : Int)), (quoteF t).size, 0) := unq_quote (C := List.replicate k2 32) (by rw [f2])
      have f3 := tail_at (s := s) (n := k2) (A := (List.replicate k1 32 ++ L wData ++ 32 :: (L nm ++ [32])) ++ L (quoteF t)) (c := ⟨3, nm, [], 0, t⟩) hB
      have eq9 : (L (quoteF t)).length = (quoteF t).size := L_size _
      rw [List.length_append, el2, eq9] at f3
      unfold parseF
      rw [h1, h2, h3, if_neg (by omega), if_neg (by decide), if_neg (by decide), if_neg (by decide), if_pos rfl, ht]
      unfold restF
      rw [if_neg (by decide), if_neg (by decide), f1, if_neg (by simp)]
      dsimp only
      rw [str_letters, f3]

/-! ### what is read -/
theorem pw_lt {s : ByteArray} : (pwOf 8 s).1 < 2 ^ 64 ∧ (pwOf 8 s).2.2 ≤ s.size := by
  unfold pwOf
  split
  · exact ⟨by show 0 < 2 ^ 64; omega, Nu.digEnd_le _ _ _ (Nu.pwFrom_le s)⟩
  · have hb : Nu.pwBase s = 10 ∨ Nu.pwBase s = 16 := by unfold Nu.pwBase; split <;> simp
    split
    · exact ⟨by show 0 < 2 ^ 64; omega, Nat.zero_le _⟩
    · rename_i v hv
      have hlt := Nu.magN_lt _ _ hb _ _ (by omega) hv
      unfold Nu.pwNum Nu.pwFit
      repeat' split
      all_goals first | exact ⟨by show (_ : Nat) < 2 ^ 64; omega, Nat.zero_le _⟩ | skip
theorem splitL_sum (c : UInt8) : ∀ l : List UInt8, ((splitL c l).map List.length).sum + (splitL c l).length = l.length + 1
  | [] => rfl
  | b :: r => by
    have ih := splitL_sum c r
    rw [splitL]
    split
    · simp; omega
    · cases hs : splitL c r with
      | nil => exact absurd hs (splitL_ne c r)
      | cons y t =>
        rw [hs] at ih
        simp at ih ⊢
        omega
theorem pcs_sum (c : UInt8) (s : ByteArray) : ((pcsC c s).map ByteArray.size).sum + (pcsC c s).length = s.size + 1 := by
  have h := splitL_sum c (L s)
  rw [L_size] at h
  unfold pcsC
  rw [List.length_map, List.map_map]
  have e : (ByteArray.size ∘ fun l : List UInt8 => (⟨l.toArray⟩ : ByteArray)) = List.length := by funext l; simp [ByteArray.size]
  rw [e]; exact h
theorem listGo_what : ∀ (l : List ByteArray) (at' : Nat) (acc : List Nat), (∀ n ∈ acc, n < 2 ^ 64) →
    (∀ n ∈ (listGo l at' acc).1, n < 2 ^ 64) ∧ ((listGo l at' acc).2.1 ≠ 0 → (listGo l at' acc).2.2 + 1 ≤ at' + (l.map ByteArray.size).sum + l.length) ∧ (listGo l at' acc).1.length ≤ acc.length + l.length
  | [], at', acc, h => by
    rw [listGo]
    exact ⟨h, fun h => absurd rfl h, by simp⟩
  | c :: r, at', acc, h => by
    rw [listGo]
    have hp := pw_lt (s := c)
    split
    · exact ⟨by simp, fun _ => by simp; omega, Nat.zero_le _⟩
    · obtain ⟨h1, h2, h3⟩ := listGo_what r (at' + c.size + 1) (acc ++ [(pwOf 8 c).1]) (fun n hn => by
        rcases List.mem_append.1 hn with h' | h'
        · exact h n h'
        · have : n = (pwOf 8 c).1 := by simpa using h'
          rw [this]; exact hp.1)
      refine ⟨h1, fun he => ?_, ?_⟩
      · have := h2 he; simp; omega
      · simp at h3 ⊢; omega
theorem listF_what (s : ByteArray) : (∀ n ∈ (listF s).1, n < 2 ^ 64) ∧ ((listF s).2.1 ≠ 0 → (listF s).2.2 ≤ s.size) ∧ (listF s).1.length ≤ s.size + 1 := by
  unfold listF
  split
  · exact ⟨by simp, fun h => absurd rfl h, Nat.zero_le _⟩
  · obtain ⟨h1, h2, h3⟩ := listGo_what (pcsC 44 s) 0 [] (by simp)
    have := pcs_sum 44 s
    have := pcsC_length 44 s
    exact ⟨h1, fun he => by have := h2 he; omega, by simp at h3; omega⟩
theorem intF_what (s : ByteArray) (most : Nat) : ((intF s most).2.1 ≠ 0 → (intF s most).2.2 ≤ s.size) ∧ (intF s most).1 ≤ most := by
  unfold intF
  split
  · exact ⟨fun _ => Nu.digEnd_le _ _ _ (Nat.zero_le _), Nat.zero_le _⟩
  · split
    · exact ⟨fun _ => Nat.zero_le _, Nat.zero_le _⟩
    · split
      · exact ⟨fun _ => Nat.zero_le _, Nat.zero_le _⟩
      · exact ⟨fun _ => Nat.zero_le _, by show _ ≤ most; omega⟩
set_option maxHeartbeats 1600000 in
theorem itemF_le {s : ByteArray} {k : Nat} (hk : k < s.size) : (∀ p, itemF s k = .error p → p ≤ s.size) ∧ ∀ c k', itemF s k = .ok (c, k') → k' ≤ s.size := by
  constructor
  · intro p h
    unfold itemF at h
    repeat' split at h
    all_goals first | (cases h; done) | (injection h with h; omega)
  · intro c k' h
    unfold itemF at h
    repeat' split at h
    all_goals first | (cases h; done) | (injection h with h; injection h with h1 h2; omega)
theorem unqGo_what (s : ByteArray) (k : Nat) (out : List Int) (hk : k ≤ s.size) :
    (unqGo s k out).2.1 ≤ s.size ∧ (unqGo s k out).1.length ≤ out.length + (s.size - k) ∧ ((unqGo s k out).2.2 = 0 ∨ (unqGo s k out).2.2 = 23) := by
  induction hm : s.size - k using Nat.strongRecOn generalizing k out with
  | _ m ih =>
    by_cases h1 : k < s.size
    · by_cases h2 : gb s k = 34
      · rw [unqGo_quote h1 h2]; exact ⟨by show k + 1 ≤ _; omega, by show out.length ≤ _; omega, .inl rfl⟩
      · cases hi : itemF s k with
        | error p => rw [unqGo_bad h1 h2 hi]; exact ⟨(itemF_le h1).1 p hi, Nat.zero_le _, .inr rfl⟩
        | ok r =>
          obtain ⟨c, k'⟩ := r
          have h3 := (itemF_gt hi).1
          have h4 := (itemF_le h1).2 c k' hi
          rw [unqGo_next h1 h2 hi]
          obtain ⟨a1, a2, a3⟩ := ih (s.size - k') (by omega) k' (out ++ [c]) h4 rfl
          refine ⟨a1, ?_, a3⟩
          rw [List.length_append, List.length_singleton] at a2
          omega
    · rw [unqGo_end h1]; exact ⟨Nat.le_refl _, Nat.zero_le _, .inr rfl⟩
theorem unqF_what (s : ByteArray) : (unqF s).2.1 ≤ s.size ∧ (unqF s).1.length ≤ s.size := by
  unfold unqF
  split
  · exact ⟨Nat.zero_le _, Nat.zero_le _⟩
  · rename_i h
    have hlt : 0 < s.size := lt_of_gb (by omega)
    obtain ⟨a1, a2, _⟩ := unqGo_what s 1 [] (by omega)
    simp at a2
    exact ⟨a1, by omega⟩
theorem sub_size (s : ByteArray) {a b : Nat} (hb : b ≤ s.size) : (sub s a b).size = b - a := by
  show (s.extract a b).size = _
  rw [ByteArray.size_extract]; omega

/-- what a line's reading answers: nothing and a place in the line, or a call that can be written -/
def What (s : ByteArray) (r : CallP × Nat × Nat) : Prop :=
  (r.2.1 ≠ 0 → r.1 = CallP.none ∧ r.2.2 ≤ s.size) ∧ (r.2.1 = 0 → r.2.2 = 0 ∧ Fine r.1 ∧ r.1.words.length ≤ s.size + 1 ∧ r.1.text.size ≤ s.size)
theorem What.bad (s : ByteArray) {e p : Nat} (he : e ≠ 0) (hp : p ≤ s.size) : What s (CallP.none, e, p) := ⟨fun _ => ⟨rfl, hp⟩, fun h => absurd h he⟩
theorem What.tail {s : ByteArray} {k : Nat} {c : CallP} (hk : k ≤ s.size) (hf : Fine c) (h1 : c.words.length ≤ s.size + 1) (h2 : c.text.size ≤ s.size) : What s (tailF s k c) := by
  unfold tailF
  split
  · exact What.bad s (by omega) (skipE_le s k hk)
  · exact ⟨fun h => absurd rfl h, fun _ => ⟨rfl, hf, h1, h2⟩⟩
theorem rest_what {s nm : ByteArray} {kd : Int} {k : Nat} (hk : k ≤ s.size) (hn : symOk nm = true) : What s (restF s kd nm k) := by
  have hfe := fieldE_le s k hk
  have hge := fieldE_ge s k
  have hz := sub_size s (a := k) hfe
  unfold restF
  split
  · obtain ⟨a1, a2, a3⟩ := listF_what (sub s k (fieldE s k))
    split
    · rename_i he
      exact What.bad s he (by have := a2 he; omega)
    · exact What.tail hfe (.inr ⟨nm, hn, .inl ⟨_, rfl, a1⟩⟩) (by show (listF _).1.length ≤ _; omega) (Nat.zero_le _)
  · split
    · obtain ⟨a1, a2⟩ := intF_what (sub s k (fieldE s k)) 4294967295
      split
      · rename_i he
        exact What.bad s he (by have := a1 he; omega)
      · exact What.tail hfe (.inr ⟨nm, hn, .inr (.inl ⟨_, a2, rfl⟩)⟩) (Nat.zero_le _) (Nat.zero_le _)
    · obtain ⟨a1, a2⟩ := unqF_what (sub s k s.size)
      have hz2 := sub_size s (a := k) (Nat.le_refl s.size)
      split
      · rename_i he
        exact What.bad s he (by omega)
      · exact What.tail (by omega) (.inr ⟨nm, hn, .inr (.inr ⟨_, rfl⟩)⟩) (Nat.zero_le _) (by show (strOfNums _).size ≤ _; rw [strOfNums_size]; omega)
theorem named_what {s : ByteArray} {kd : Int} {k : Nat} (hk : k ≤ s.size) (hkd : kd = 0 ∨ kd = 1 ∨ kd = 3) : What s (namedF s kd k) := by
  have h1 := skipE_le s k hk
  have h2 := fieldE_le s _ h1
  have h3 := skipE_le s _ h2
  unfold namedF
  split
  · exact What.bad s (by omega) (Nat.le_refl _)
  · split
    · exact What.bad s (by omega) h1
    · rename_i hn
      have hn' : symOk (sub s (skipE s k) (fieldE s (skipE s k))) = true := by simpa using hn
      split
      · refine ⟨fun h => absurd rfl h, fun _ => ⟨rfl, .inr ⟨_, hn', ?_⟩, Nat.zero_le _, Nat.zero_le _⟩⟩
        rcases hkd with rfl | rfl | rfl
        · exact .inl ⟨[], rfl, by simp⟩
        · exact .inr (.inl ⟨0, by omega, rfl⟩)
        · exact .inr (.inr ⟨_, rfl⟩)
      · exact rest_what h3 hn'
theorem parse_what (s : ByteArray) : What s (parseF s) := by
  have h1 := skipE_le s 0 (Nat.zero_le _)
  have h2 := fieldE_le s _ h1
  unfold parseF
  split
  · exact What.bad s (by omega) (Nat.le_refl _)
  · split
    · exact named_what h2 (.inl rfl)
    · split
      · exact named_what h2 (.inr (.inl rfl))
      · split
        · exact What.tail h2 (.inl rfl) (Nat.zero_le _) (Nat.zero_le _)
        · split
          · exact named_what h2 (.inr (.inr rfl))
          · exact What.bad s (by omega) h1
/-- what was read and written again is read as itself -/
theorem parse_again {s : ByteArray} {c : CallP} {p : Nat} (h : parseF s = (c, 0, p)) : Fine c ∧ p = 0 ∧ printF c = (writ c, 0) ∧ parseF (writ c) = (c, 0, 0) := by
  have hw := parse_what s
  rw [h] at hw
  obtain ⟨h1, h2, _, _⟩ := hw.2 rfl
  exact ⟨h2, h1, fine_print h2, parse_writ h2 (k1 := 0) (k2 := 0) (by simp)⟩
theorem join_le (l : List Nat) (hw : ∀ n ∈ l, n < 2 ^ 64) : (joinF l).size ≤ 21 * l.length := by
  match l with
  | [] => exact Nat.le_refl _
  | [n] => have := Nu.dgt_size n (hw n (by simp)); show (dgt n).size ≤ 21 * 1; omega
  | n :: m :: r =>
    have h1 := Nu.dgt_size n (hw n (by simp))
    have h2 := join_le (m :: r) (fun x hx => hw x (by simp [hx]))
    show (dgt n ++ ⟨#[44]⟩ ++ joinF (m :: r)).size ≤ _
    rw [ByteArray.size_append, ByteArray.size_append]
    simp only [List.length_cons] at h2 ⊢
    have : (⟨#[44]⟩ : ByteArray).size = 1 := rfl
    omega
theorem quote_le (t : ByteArray) : (quoteF t).size ≤ 4 * t.size + 2 := by
  have := quoteZ_length t t.size
  unfold quoteF
  rw [strOfNums_size, List.length_append]
  simp; omega
theorem writ_le {c : CallP} (hf : Fine c) : (writ c).size ≤ 21 * c.words.length + 4 * c.text.size + 100 := by
  rcases hf with rfl | ⟨nm, hn, ⟨ws, rfl, hw⟩ | ⟨m, hm, rfl⟩ | ⟨t, rfl⟩⟩
  · show (4 : Nat) ≤ _; omega
  all_goals
    have hn64 : nm.size ≤ 64 := by unfold symOk at hn; simp at hn; exact hn.1.2
    have e1 : wField.size = 5 := rfl
    have e2 : wGroup.size = 5 := rfl
    have e3 : wData.size = 4 := rfl
    have e4 : sp.size = 1 := rfl
    unfold writ
  · have := join_le ws hw
    simp only []
    rw [if_neg (by omega), if_neg (by omega), if_neg (by omega)]
    split
    · simp only [ByteArray.size_append]; omega
    · simp only [ByteArray.size_append]; omega
  · have := Nu.dgt_size m (by omega)
    simp only []
    rw [if_neg (by omega), if_pos trivial]
    have e5 : ((m : Int)).toNat = m := by omega
    simp only [ByteArray.size_append, e5]; omega
  · have := quote_le t
    simp only []
    rw [if_neg (by omega), if_neg (by omega), if_pos trivial]
    simp only [ByteArray.size_append]; omega
end Go.Proofs.YtijnbohjcmcfjaaGreatDoor.Sc
