/-
  Plain laws: a call that is written is read as itself; what is read is written so that it is read as itself.
-/
import Derived.Test.YtijnbohjcmcfjaaGreatDoorSc0
namespace Go.Proofs.YtijnbohjcmcfjaaGreatDoor.Sc
open Go.RowKit Go.Proofs.YtijnbohjcmcfjaaGreatDoor.Kt Go.Proofs.YtijnbohjcmcfjaaGreatDoor.Lk Go.Proofs.YtijnbohjcmcfjaaGreatDoor.Sp
open Go.Proofs.YtijnbohjcmcfjaaGreatDoor.Nu (pwOf magN digEnd worthI dgt)
set_option linter.unusedSimpArgs false
set_option linter.unusedVariables false
set_option maxRecDepth 100000

/-- a text's letters -/
abbrev L (s : ByteArray) : List UInt8 := s.data.toList
theorem L_size (s : ByteArray) : (L s).length = s.size := by show s.data.toList.length = _; rw [Array.length_toList]; rfl
theorem L_app (a b : ByteArray) : L (a ++ b) = L a ++ L b := by show (a ++ b).data.toList = _; rw [ByteArray.data_append, Array.toList_append]
theorem L_inj {a b : ByteArray} (h : L a = L b) : a = b := ByteArray.ext (Array.toList_inj.1 h)
theorem gb_mid {s : ByteArray} {A C : List UInt8} {b : UInt8} (h : L s = A ++ b :: C) : A.length < s.size ∧ gb s A.length = b.toNat := by
  have hl : A.length < s.size := by rw [← L_size, h]; simp
  refine ⟨hl, ?_⟩
  have h1 := Nu.gb_list s A.length hl
  have h2 : s.data.toList[A.length]? = some b := by
    have : s.data.toList = A ++ b :: C := h
    rw [this]; simp
  rw [h2] at h1
  rw [gb_lt hl, ← Option.some.inj h1]
theorem gb_mid' {s : ByteArray} {A C : List UInt8} {b : UInt8} {k : Nat} (h : L s = A ++ b :: C) (hk : k = A.length) : k < s.size ∧ gb s k = b.toNat := by subst hk; exact gb_mid h
theorem toNat_ne {b : UInt8} {n : Nat} (hn : n < 256) (h : b ≠ UInt8.ofNat n) : b.toNat ≠ n := by
  intro e
  apply h
  apply UInt8.toNat_inj.1
  rw [e]; simp; omega
theorem field_at {s : ByteArray} : ∀ (B A C : List UInt8), L s = A ++ B ++ C → (∀ b ∈ B, b ≠ 32) → (C = [] ∨ ∃ r, C = 32 :: r) → fieldE s A.length = A.length + B.length
  | [], A, C, h, _, hC => by
    rw [List.append_nil] at h
    rcases hC with rfl | ⟨r, rfl⟩
    · have : A.length = s.size := by rw [← L_size, h]; simp
      rw [fieldE_stop (by omega)]; rfl
    · have h1 := gb_mid h
      rw [fieldE_stop (by rw [h1.2]; simp)]; rfl
  | b :: B, A, C, h, hB, hC => by
    have h1 := gb_mid (s := s) (A := A) (b := b) (C := B ++ C) (by rw [h]; simp)
    have hb : gb s A.length ≠ 32 := by rw [h1.2]; exact toNat_ne (by omega) (hB b (by simp))
    rw [← fieldE_go h1.1 hb]
    have := field_at B (A ++ [b]) C (by rw [h]; simp) (fun x hx => hB x (by simp [hx])) hC
    rw [List.length_append, List.length_singleton] at this
    rw [this, List.length_cons]; omega
theorem skip_at {s : ByteArray} : ∀ (n : Nat) (A C : List UInt8), L s = A ++ List.replicate n 32 ++ C → (C = [] ∨ ∃ c r, C = c :: r ∧ c ≠ 32) → skipE s A.length = A.length + n
  | 0, A, C, h, hC => by
    simp only [List.replicate_zero, List.append_nil] at h
    rcases hC with rfl | ⟨c, r, rfl, hc⟩
    · have : A.length = s.size := by rw [← L_size, h]; simp
      rw [skipE_stop (by omega)]; rfl
    · have h1 := gb_mid h
      rw [skipE_stop (by rw [h1.2]; intro hh; exact toNat_ne (n := 32) (by omega) hc hh.2)]; rfl
  | n + 1, A, C, h, hC => by
    have h1 := gb_mid (s := s) (A := A) (b := 32) (C := List.replicate n 32 ++ C) (by rw [h, List.replicate_succ]; simp)
    rw [← skipE_go h1.1 (by rw [h1.2]; rfl)]
    have := skip_at n (A ++ [32]) C (by rw [h, List.replicate_succ]; simp) hC
    rw [List.length_append, List.length_singleton] at this
    rw [this]; omega
theorem sub_at {s : ByteArray} {A B C : List UInt8} (h : L s = A ++ B ++ C) : sub s A.length (A.length + B.length) = ⟨B.toArray⟩ := by
  apply L_inj
  show (s.extract A.length (A.length + B.length)).data.toList = B
  rw [ByteArray.data_extract]
  simp only [Array.toList_extract]
  have e : s.data.toList = A ++ B ++ C := h
  show (s.data.toList.drop A.length).take (A.length + B.length - A.length) = B
  rw [e, List.append_assoc, List.drop_left, show A.length + B.length - A.length = B.length by omega, List.take_left]
theorem tail_at {s : ByteArray} {n : Nat} {A : List UInt8} {c : CallP} (h : L s = A ++ List.replicate n 32) : tailF s A.length c = (c, 0, 0) := by
  have h1 := skip_at n A [] (by simpa using h) (.inl rfl)
  have h2 : s.size = A.length + n := by rw [← L_size, h]; simp
  unfold tailF
  rw [h1, if_neg (by omega)]

/-! ### words -/
theorem fits8 {n : Nat} (hn : n < 2 ^ 64) : pwOf 8 (dgt n) = (n, 0, 0) := by
  have h := Nu.pw_text 8 (by unfold Nu.isInt; omega) 0 n hn
  have e : Nu.padS 0 ++ dgt n = dgt n := by
    apply L_inj; rw [L_app]; rfl
  rw [e] at h
  rw [h, if_pos]
  unfold Nu.fitsSpec
  simp [Nu.topOf, Nu.sizeOf]
  omega
theorem dgt_dig (n : Nat) : ∀ c ∈ L (dgt n), isDig c.toNat = true := Nu.dec_digC n
theorem dig_ne {c : UInt8} (h : isDig c.toNat = true) {m : Nat} (hm : m < 48) : c ≠ UInt8.ofNat m := by
  intro e
  rw [e] at h
  simp [isDig] at h
  omega
theorem dgt_ne (n : Nat) : L (dgt n) ≠ [] := by
  show (Lib.decDigits n) ≠ []
  rw [Lib.decDigits]; split <;> simp
theorem pcs_join : ∀ (l : List Nat), l ≠ [] → pcsC 44 (joinF l) = l.map dgt
  | [], h => absurd rfl h
  | [n], _ => by
    unfold pcsC joinF
    rw [splitL_none 44 _ (fun h => dig_ne (dgt_dig n _ h) (m := 44) (by omega) rfl)]
    rfl
  | n :: m :: r, _ => by
    have ih := pcs_join (m :: r) (by simp)
    unfold pcsC at ih ⊢
    show (splitL 44 (L (dgt n ++ ⟨#[44]⟩ ++ joinF (m :: r)))).map _ = _
    rw [L_app, L_app, List.append_assoc]
    show (splitL 44 (L (dgt n) ++ 44 :: L (joinF (m :: r)))).map _ = _
    rw [splitL_cat 44 _ _ (fun h => dig_ne (dgt_dig n _ h) (m := 44) (by omega) rfl), List.map_cons, ih]
    rfl
theorem listGo_words : ∀ (l : List Nat) (at' : Nat) (acc : List Nat), (∀ n ∈ l, n < 2 ^ 64) → listGo (l.map dgt) at' acc = (acc ++ l, 0, 0)
  | [], at', acc, _ => by simp [listGo]
  | n :: r, at', acc, h => by
    rw [List.map_cons, listGo, fits8 (h n (by simp))]
    rw [if_neg (by simp), listGo_words r _ _ (fun m hm => h m (by simp [hm]))]
    simp
theorem join_size {l : List Nat} (h : l ≠ []) : (joinF l).size ≠ 0 := by
  rw [← L_size]
  match l, h with
  | [n], _ =>
    show (L (dgt n)).length ≠ 0
    exact fun h => dgt_ne n (List.length_eq_zero_iff.1 h)
  | n :: m :: r, _ =>
    show (L (dgt n ++ ⟨#[44]⟩ ++ joinF (m :: r))).length ≠ 0
    rw [L_app, L_app]; simp
theorem list_join {l : List Nat} (h : l ≠ []) (hw : ∀ n ∈ l, n < 2 ^ 64) : listF (joinF l) = (l, 0, 0) := by
  unfold listF
  rw [if_neg (join_size h), pcs_join l h, listGo_words l 0 [] hw]
  rfl
theorem join_nosp : ∀ (l : List Nat), ∀ b ∈ L (joinF l), b ≠ 32
  | [], b, hb => by cases hb
  | [n], b, hb => dig_ne (dgt_dig n b hb) (m := 32) (by omega)
  | n :: m :: r, b, hb => by
    have hb' : b ∈ L (dgt n ++ ⟨#[44]⟩ ++ joinF (m :: r)) := hb
    rw [L_app, L_app] at hb'
    rcases List.mem_append.1 hb' with h | h
    · rcases List.mem_append.1 h with h | h
      · exact dig_ne (dgt_dig n b h) (m := 32) (by omega)
      · have : b = 44 := by simpa using h
        rw [this]; decide
    · exact join_nosp (m :: r) b h
theorem int_dgt {n : Nat} (hn : n ≤ 4294967295) : intF (dgt n) 4294967295 = (n, 0, 0) := by
  have hd : digEnd (dgt n) false 0 = (dgt n).size := Nu.digEnd_full _ _ _ (Nat.zero_le _) (Nu.digAt_list _ _ _ (fun c hc => .inl (dgt_dig n c (by simpa using hc))))
  have hz : (dgt n).size ≠ 0 := by rw [← L_size]; exact fun h => dgt_ne n (List.length_eq_zero_iff.1 h)
  have hm : magN (dgt n) 10 0 0 = some n := by
    rw [Nu.magN_list, List.drop_zero]
    have hv : Nu.valL 10 (Lib.decDigits n) 0 = n := Nu.valL_dec n
    have := Nu.magL_ok 10 (by omega) (Lib.decDigits n) 0 (by rw [hv]; omega)
    rw [hv] at this
    exact this
  unfold intF
  rw [hd, if_neg (by omega), hm]
  simp only []
  rw [if_neg (by omega)]

/-! ### texts -/
def u8 (z : Int) : UInt8 := UInt8.ofNat z.toNat
def qB (c : UInt8) : List UInt8 := (qb c.toNat).map u8
theorem u8_nat (n : Nat) : u8 (n : Int) = UInt8.ofNat n := rfl
theorem u8_of (c : UInt8) : u8 (c.toNat : Int) = c := by show UInt8.ofNat c.toNat = c; simp
theorem L_getElem (s : ByteArray) : (List.range s.size).map (gb s) = (L s).map UInt8.toNat := by
  apply List.ext_getElem
  · simp [L_size]
  · intro i h1 h2
    have hi : i < s.size := by simpa using h1
    simp only [List.getElem_map, List.getElem_range]
    rw [gb_lt hi]; rfl
theorem L_quote (s : ByteArray) : L (quoteF s) = 34 :: ((L s).flatMap qB ++ [34]) := by
  show ((quoteZ s s.size ++ [34]).map u8) = _
  unfold quoteZ
  have e : (List.range s.size).flatMap (fun i => qb (gb s i)) = (L s).flatMap fun c => qb c.toNat := by
    have h1 : (List.range s.size).flatMap (fun i => qb (gb s i)) = ((List.range s.size).map (gb s)).flatMap qb := by rw [List.flatMap_map]
    rw [h1, L_getElem, List.flatMap_map]
  rw [e, List.cons_append, List.map_cons, List.map_append, List.map_flatMap]
  rfl
theorem worth_hd : ∀ d, d < 16 → worthI (u8 (hd d)).toNat = (d : Int) := by decide
/-- an item that was written is read as its letter -/
theorem item_at {s : ByteArray} {A C : List UInt8} (c : UInt8) (h : L s = A ++ qB c ++ C) : A.length < s.size ∧ gb s A.length ≠ 34 ∧ itemF s A.length = .ok ((c.toNat : Int), A.length + (qB c).length) := by
  have hc := UInt8.toNat_lt c
  have key : ∀ (x : UInt8) (r : List UInt8), qB c = x :: r → A.length < s.size ∧ gb s A.length = x.toNat := fun x r hq => gb_mid (C := r ++ C) (by rw [h, hq]; simp)
  have key2 : ∀ (x y : UInt8) (r : List UInt8), qB c = x :: y :: r → A.length + 1 < s.size ∧ gb s (A.length + 1) = y.toNat := fun x y r hq => gb_mid' (A := A ++ [x]) (C := r ++ C) (by rw [h, hq]; simp) (by simp)
  have key3 : ∀ (x y z : UInt8) (r : List UInt8), qB c = x :: y :: z :: r → A.length + 2 < s.size ∧ gb s (A.length + 2) = z.toNat := fun x y z r hq => gb_mid' (A := A ++ [x, y]) (C := r ++ C) (by rw [h, hq]; simp) (by simp)
  have key4 : ∀ (x y z t : UInt8) (r : List UInt8), qB c = x :: y :: z :: t :: r → A.length + 3 < s.size ∧ gb s (A.length + 3) = t.toNat := fun x y z t r hq => gb_mid' (A := A ++ [x, y, z]) (C := r ++ C) (by rw [h, hq]; simp) (by simp)
  by_cases h1 : c.toNat = 92 ∨ c.toNat = 34
  · have hq : qB c = [92, c] := by unfold qB qb; rw [if_pos h1]; simp only [List.map_cons, List.map_nil, u8_of]; rfl
    obtain ⟨a1, a2⟩ := key _ _ hq
    obtain ⟨b1, b2⟩ := key2 _ _ _ hq
    have a2' : gb s A.length = 92 := a2
    refine ⟨a1, by omega, ?_⟩
    unfold itemF
    rw [if_neg (by omega), if_neg (by omega), b2, if_pos h1, hq]; rfl
  by_cases h2 : c.toNat = 10
  · have hq : qB c = [92, 110] := by unfold qB qb; rw [if_neg h1, if_pos h2]; rfl
    obtain ⟨a1, a2⟩ := key _ _ hq
    obtain ⟨b1, b2⟩ := key2 _ _ _ hq
    have a2' : gb s A.length = 92 := a2
    have b2' : gb s (A.length + 1) = 110 := b2
    refine ⟨a1, by omega, ?_⟩
    unfold itemF
    rw [if_neg (by omega), if_neg (by omega), b2', if_neg (by omega), if_pos rfl, hq, h2]; rfl
  by_cases h3 : c.toNat = 13
  · have hq : qB c = [92, 114] := by unfold qB qb; rw [if_neg h1, if_neg h2, if_pos h3]; rfl
    obtain ⟨a1, a2⟩ := key _ _ hq
    obtain ⟨b1, b2⟩ := key2 _ _ _ hq
    have a2' : gb s A.length = 92 := a2
    have b2' : gb s (A.length + 1) = 114 := b2
    refine ⟨a1, by omega, ?_⟩
    unfold itemF
    rw [if_neg (by omega), if_neg (by omega), b2', if_neg (by omega), if_neg (by omega), if_pos rfl, hq, h3]; rfl
  by_cases h4 : c.toNat = 9
  · have hq : qB c = [92, 116] := by unfold qB qb; rw [if_neg h1, if_neg h2, if_neg h3, if_pos h4]; rfl
    obtain ⟨a1, a2⟩ := key _ _ hq
    obtain ⟨b1, b2⟩ := key2 _ _ _ hq
    have a2' : gb s A.length = 92 := a2
    have b2' : gb s (A.length + 1) = 116 := b2
    refine ⟨a1, by omega, ?_⟩
    unfold itemF
    rw [if_neg (by omega), if_neg (by omega), b2', if_neg (by omega), if_neg (by omega), if_neg (by omega), if_pos rfl, hq, h4]; rfl
  by_cases h5 : 32 ≤ c.toNat ∧ c.toNat ≤ 126
  · have hq : qB c = [c] := by unfold qB qb; rw [if_neg h1, if_neg h2, if_neg h3, if_neg h4, if_pos h5]; simp only [List.map_cons, List.map_nil, u8_of]
    obtain ⟨a1, a2⟩ := key _ _ hq
    refine ⟨a1, by omega, ?_⟩
    unfold itemF
    rw [if_pos (by omega), if_neg (by omega), a2, hq]; rfl
  · have hq : qB c = [92, 120, u8 (hd (c.toNat / 16)), u8 (hd (c.toNat % 16))] := by unfold qB qb; rw [if_neg h1, if_neg h2, if_neg h3, if_neg h4, if_neg h5]; rfl
    obtain ⟨a1, a2⟩ := key _ _ hq
    obtain ⟨b1, b2⟩ := key2 _ _ _ hq
    obtain ⟨c1, c2⟩ := key3 _ _ _ _ hq
    obtain ⟨d1, d2⟩ := key4 _ _ _ _ _ hq
    have a2' : gb s A.length = 92 := a2
    have b2' : gb s (A.length + 1) = 120 := b2
    have w1 : worthI (gb s (A.length + 2)) = ((c.toNat / 16 : Nat) : Int) := by rw [c2, worth_hd _ (by omega)]
    have w2 : worthI (gb s (A.length + 3)) = ((c.toNat % 16 : Nat) : Int) := by rw [d2, worth_hd _ (by omega)]
    refine ⟨a1, by omega, ?_⟩
    unfold itemF
    rw [if_neg (by omega), if_neg (by omega), b2', if_neg (by omega), if_neg (by omega), if_neg (by omega), if_neg (by omega), if_neg (by omega), if_neg (by omega), w1, if_neg (by omega), if_neg (by omega), w2, if_neg (by omega), hq]
    have e : 16 * ((c.toNat / 16 : Nat) : Int) + ((c.toNat % 16 : Nat) : Int) = (c.toNat : Int) := by omega
    rw [e]; rfl
theorem unq_at {s : ByteArray} : ∀ (xs A C : List UInt8) (out : List Int), L s = A ++ (xs.flatMap qB ++ 34 :: C) → unqGo s A.length out = (out ++ xs.map (fun c => (c.toNat : Int)), A.length + (xs.flatMap qB).length + 1, 0)
  | [], A, C, out, h => by
    have h' : L s = A ++ 34 :: C := h
    obtain ⟨h1, h2⟩ := gb_mid h'
    rw [unqGo_quote h1 h2]; simp
  | x :: xs, A, C, out, h => by
    have h' : L s = A ++ qB x ++ (xs.flatMap qB ++ 34 :: C) := by rw [h]; simp
    obtain ⟨h1, h2, h3⟩ := item_at x h'
    rw [unqGo_next h1 h2 h3]
    have := unq_at xs (A ++ qB x) C (out ++ [(x.toNat : Int)]) (by rw [h']; try simp)
    rw [List.length_append] at this
    rw [this]
    simp [Nat.add_assoc]
theorem unq_quote {s t : ByteArray} {C : List UInt8} (h : L s = L (quoteF t) ++ C) : unqF s = ((L t).map (fun c => (c.toNat : Int)), (quoteF t).size, 0) := by
  rw [L_quote] at h
  have h0 := gb_mid (s := s) (A := []) (b := 34) (C := ((L t).flatMap qB ++ [34]) ++ C) (by rw [h]; simp)
  have h1 := unq_at (s := s) (L t) [34] C [] (by rw [h]; simp)
  unfold unqF
  have e : gb s 0 = 34 := h0.2
  rw [if_neg (by omega)]
  have e1 : ([34] : List UInt8).length = 1 := rfl
  rw [e1] at h1
  rw [h1]
  have hs : (quoteF t).size = 1 + ((L t).flatMap qB).length + 1 := by rw [← L_size, L_quote]; simp; omega
  rw [hs]; rfl
theorem str_letters (t : ByteArray) : strOfNums ((L t).map fun c => (c.toNat : Int)) = t := by
  apply L_inj
  show (((L t).map fun c => (c.toNat : Int)).map fun n => UInt8.ofNat n.toNat) = L t
  rw [List.map_map]
  conv => rhs; rw [← List.map_id (L t)]
  apply List.map_congr_left
  intro c _
  simp
end Go.Proofs.YtijnbohjcmcfjaaGreatDoor.Sc
