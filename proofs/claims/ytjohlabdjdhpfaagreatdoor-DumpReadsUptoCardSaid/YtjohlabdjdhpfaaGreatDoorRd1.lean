/-
  What a line's reading asks of the world; the library's answers; package dump's decimal.
-/
import Derived.Test.YtjohlabdjdhpfaaGreatDoorLookText2
import Derived.Test.YtjohlabdjdhpfaaGreatDoorCut
import Derived.Lib.AtoiAllCases
namespace Go.Proofs.YtjohlabdjdhpfaaGreatDoor.Rd
open Go.RowKit Go.Proofs.YtjohlabdjdhpfaaGreatDoor.Kt Go.Proofs.YtjohlabdjdhpfaaGreatDoor.Lk Go.Proofs.YtjohlabdjdhpfaaGreatDoor.Rw Go.Proofs.YtjohlabdjdhpfaaGreatDoor.Ct
set_option linter.unusedSimpArgs false
set_option linter.unusedVariables false
set_option maxRecDepth 100000

/-- the words of the kinds -/
def kindsL : List ByteArray := [⟨#[104, 101, 97, 100]⟩, ⟨#[102, 105, 101, 108, 100]⟩, ⟨#[112, 97, 100]⟩, ⟨#[100, 105, 109]⟩, ⟨#[108, 101, 110, 103, 116, 104]⟩, ⟨#[100, 97, 116, 97]⟩]
/-- a variable that holds an error or none -/
def ErrAt (w : World) (g : Nat) : Prop := ∃ ev, w.cell? ⟨g, 0, none⟩ = some ev ∧ (ev = .nilIface ∨ ∃ te pe, ev = .iface te pe)
structure Env (w : World) : Prop where
  tab : Tab w
  most : ∃ m, w.cell? ⟨1, 0, none⟩ = some (.int .i64 m)
  errS : ErrAt w 2
  errR : ErrAt w 3
  kinds : ∀ j, j < 6 → w.cell? ⟨0, j, none⟩ = some (.string (kindsL.getD j ByteArray.empty))
theorem ErrAt.below {w w' : World} {g : Nat} (h : ErrAt w g) (hb : Below w.heap.size w w') : ErrAt w' g := by
  obtain ⟨ev, h1, h2⟩ := h
  exact ⟨ev, cell_later hb h1, h2⟩
theorem Env.below {w w' : World} (h : Env w) (hb : Below w.heap.size w w') : Env w' :=
  ⟨h.tab.below hb, by obtain ⟨m, hm⟩ := h.most; exact ⟨m, cell_later hb hm⟩, h.errS.below hb, h.errR.below hb, fun j hj => cell_later hb (h.kinds j hj)⟩
theorem below_bytes (w : World) (e : TypeId) (s : ByteArray) : Below w.heap.size w (Lib.bytesWorld w e s) :=
  ⟨rfl, rfl, rfl, by rw [Lib.bytesWorld_size]; omega, fun k hk => Lib.bytesWorld_at_old w e s k hk⟩

/-- Split at spaces: a row of the pieces -/
theorem split_any (s : ByteArray) (w : World) (hm : s.size ≤ 1048576) (he : Env w) : Calls Tryz.prog 11 #[.string s, .string ⟨#[32]⟩] w (CutPost s w) := by
  obtain ⟨m, hmx⟩ := he.most
  refine (Tryz.strings_Split s ⟨#[32]⟩ m w (by omega) hmx (by decide)).mono ?_
  rintro e w' ⟨rfl, rfl⟩
  have hl := pcs_length s
  refine ⟨_, rfl, ?_, (Below.refl _ _).alloc (Nat.le_refl _) _⟩
  rw [splitB_eq, ← pcs_len]
  have := World.ownsRow_lit (base := w.heap.size) (e := 9) (size := 1) w ((pcs s).map Value.string).toArray (pcs s).length (Nat.le_refl _) (by unfold maxLen; omega) (by simp)
  simpa using this

/-! ### Atoi and Itoa -/
theorem parse_append (a : List UInt8) (b : List UInt8) : ∀ acc v : Nat, Lib.parseUint10 acc a = .ok v → Lib.parseUint10 acc (a ++ b) = Lib.parseUint10 v b := by
  induction a with
  | nil => intro acc v h; simp only [Lib.parseUint10] at h; injection h with h; rw [h]; rfl
  | cons c r ih =>
    intro acc v h
    simp only [Lib.parseUint10, List.cons_append] at h ⊢
    split at h
    · rename_i hc
      rw [if_pos hc]
      split at h
      · cases h
      · rename_i h1
        rw [if_neg h1]
        split at h
        · cases h
        · rename_i h2
          rw [if_neg h2]
          exact ih _ _ h
    · cases h
theorem parse_dig {c acc : Nat} (hc : c < 10) (ha : acc < 1844674407370955162) (hs : acc * 10 + c < 18446744073709551616) : Lib.parseUint10 acc [UInt8.ofNat (48 + c)] = .ok (acc * 10 + c) := by
  have e : (UInt8.ofNat (48 + c)).toNat = 48 + c := by simp; omega
  simp only [Lib.parseUint10, e]
  rw [if_pos (by omega), if_neg (by omega), if_neg (by omega)]
  congr 1; omega
theorem parse_dec (n : Nat) (hn : n < 18446744073709551616) : Lib.parseUint10 0 (Lib.decDigits n) = .ok n := by
  induction n using Nat.strongRecOn with
  | _ n ih =>
    by_cases h : n < 10
    · rw [Lib.decDigits_one h, parse_dig h (by omega) (by omega)]; congr 1; omega
    · rw [Lib.decDigits, dif_neg h, parse_append _ _ 0 (n / 10) (ih (n / 10) (by omega) (by omega)), parse_dig (by omega) (by omega) (by omega)]
      congr 1; omega
theorem dec_head (n : Nat) : ∃ c r, Lib.decDigits n = c :: r ∧ 48 ≤ c.toNat ∧ c.toNat ≤ 57 := by
  induction n using Nat.strongRecOn with
  | _ n ih =>
    by_cases h : n < 10
    · exact ⟨_, _, Lib.decDigits_one h, by simp; omega, by simp; omega⟩
    · obtain ⟨c, r, h1, h2, h3⟩ := ih (n / 10) (by omega)
      rw [Lib.decDigits, dif_neg h, h1]
      exact ⟨c, _, rfl, h2, h3⟩
theorem atoi_dec (n : Nat) (hn : n < 9223372036854775808) : Lib.atoiAll (Lib.decDigits n) = .ok (n : Int) := by
  obtain ⟨c, r, h1, h2, h3⟩ := dec_head n
  have hp := parse_dec n (by omega)
  rw [h1] at hp ⊢
  rw [Lib.atoiAll_plain c r (by omega) (by omega)]
  unfold Lib.parseMag
  rw [if_neg (by simp), hp]
  show (if 9223372036854775808 ≤ n then Lib.NumEnd.range else Lib.NumEnd.ok (n : Int)) = _
  rw [if_neg (by omega)]

def AtoiNo (w : World) (e : Ending) (w' : World) : Prop := ∃ (x : Int) (t : TypeId) (p : Value), e = .returned (.tuple #[.int .i64 x, .iface t p]) ∧ Below w.heap.size w w'
theorem atoi_yes (s : ByteArray) (w : World) (hm : s.size ≤ 1048576) (v : Int) (h : Lib.atoiAll s.data.toList = .ok v) :
    Calls Tryz.prog 28 #[.string s] w fun e w' => e = .returned (.tuple #[.int .i64 v, .nilIface]) ∧ Below w.heap.size w w' := by
  refine (Tryz.strconv_Atoi_ok s (by omega) v h w).mono ?_
  rintro e w' ⟨he, rfl | ⟨t, rfl⟩⟩
  · exact ⟨he, Below.refl _ _⟩
  · exact ⟨he, below_bytes _ _ _⟩
theorem atoi_no (s : ByteArray) (w : World) (hm : s.size ≤ 1048576) (he : Env w) (h : ∀ v, Lib.atoiAll s.data.toList ≠ .ok v) :
    Calls Tryz.prog 28 #[.string s] w (AtoiNo w) := by
  by_cases hc : Lib.atoiAll s.data.toList = .range
  · obtain ⟨ev, h1, h2⟩ := he.errR
    refine (Tryz.strconv_Atoi_range s (by omega) hc ev w h1 h2).mono ?_
    rintro e w' ⟨N, rfl, _, _, hb⟩
    exact ⟨_, _, _, rfl, hb⟩
  · obtain ⟨ev, h1, h2⟩ := he.errS
    refine (Tryz.strconv_Atoi_syntax s (by omega) h hc ev w h1 h2).mono ?_
    rintro e w' ⟨N, rfl, _, _, hb⟩
    exact ⟨_, _, _, rfl, hb⟩
/-- Itoa of any int, as a text -/
theorem itoaI_any (v : Int) (h0 : -9223372036854775808 ≤ v) (h1 : v ≤ 9223372036854775807) (w : World) (ht : Tab w) :
    Calls Tryz.prog 29 #[.int .i64 v] w fun e w' => e = .returned (.string ⟨(Lib.itoa v).toArray⟩) ∧ Below w.heap.size w w' :=
  (Tryz.strconv_Itoa v h0 h1 w ht).mono fun e w' ⟨he, k, os, hw⟩ => by
    subst hw
    exact ⟨he, below_grow w k os⟩
theorem itoa_nat (n : Nat) : (⟨(Lib.itoa (n : Int)).toArray⟩ : ByteArray) = dgt n := by
  unfold Lib.itoa dgt; rw [if_neg (by omega), Int.toNat_natCast]
theorem itoa_toNat {v : Int} (h : 0 ≤ v) : (⟨(Lib.itoa v).toArray⟩ : ByteArray) = dgt v.toNat := by
  rw [← itoa_nat, Int.toNat_of_nonneg h]

/-- what decimal answers -/
def DecPost (s : ByteArray) (w : World) (e : Ending) (w' : World) : Prop :=
  ∃ (v : Int) (b : Bool), e = .returned (.tuple #[.int .i64 v, .bool b]) ∧ Below w.heap.size w w' ∧ (b = true → ∃ m : Nat, m < 9223372036854775808 ∧ s = dgt m ∧ v = (m : Int)) ∧ (∀ m : Nat, m < 9223372036854775808 → s = dgt m → b = true ∧ v = (m : Int))
theorem dgt_inj {m n : Nat} (hm : m < 9223372036854775808) (hn : n < 9223372036854775808) (h : dgt m = dgt n) : m = n := by
  have h1 := atoi_dec m hm
  have h2 := atoi_dec n hn
  have h3 : Lib.decDigits m = Lib.decDigits n := by
    have := congrArg (fun b : ByteArray => b.data.toList) h
    simpa [dgt] using this
  rw [h3, h2] at h1
  injection h1 with h1
  omega
theorem decPost_no {s : ByteArray} {w w' : World} {v : Int} (h : ∀ m : Nat, m < 9223372036854775808 → s ≠ dgt m) (hb : Below w.heap.size w w') : DecPost s w (.returned (.tuple #[.int .i64 v, .bool false])) w' :=
  ⟨_, _, rfl, hb, (fun h => by cases h), fun m h1 h2 => absurd h2 (h m h1)⟩
theorem decPost_yes {s : ByteArray} {w w' : World} {m : Nat} (hm : m < 9223372036854775808) (h : s = dgt m) (hb : Below w.heap.size w w') : DecPost s w (.returned (.tuple #[.int .i64 (m : Int), .bool true])) w' :=
  ⟨_, _, rfl, hb, fun _ => ⟨m, hm, h, rfl⟩, fun n h1 h2 => ⟨rfl, by rw [dgt_inj hm h1 (h ▸ h2)]⟩⟩
theorem str_eq {a b : ByteArray} (h : a = b) : (a.toList == b.toList) = true := by rw [h]; simp
theorem toList_inj {a b : ByteArray} (h : a.toList = b.toList) : a = b := by
  rw [Lib.toList_data, Lib.toList_data] at h
  apply ByteArray.ext
  exact Array.toList_inj.1 h
theorem str_ne {a b : ByteArray} (h : a ≠ b) : (a.toList == b.toList) = false := by
  rw [beq_eq_false_iff_ne]; exact fun e => h (toList_inj e)
set_option maxHeartbeats 1600000 in
theorem decimal_any' (s : ByteArray) (w : World) (hm : s.size ≤ 1048576) (he : Env w) : Calls Tryz.prog 12 #[.string s] w (DecPost s w) := by
  by_cases hok : ∃ v, Lib.atoiAll s.data.toList = .ok v
  · obtain ⟨v, hv⟩ := hok
    obtain ⟨b0, b1⟩ := Lib.atoiAll_bounds hv
    have HB0 : Hid (-9223372036854775808 ≤ v) := b0
    have HB1 : Hid (v ≤ 9223372036854775807) := b1
    have HV : Hid (Lib.atoiAll s.data.toList = .ok v) := hv
    have HE : Hid (Env w) := he
    obtain ⟨t, ht⟩ : ∃ t : ByteArray, t = ⟨(Lib.itoa v).toArray⟩ := ⟨_, rfl⟩
    have HT : Hid (t = ⟨(Lib.itoa v).toArray⟩) := ht
    have HI : Hid (∀ w : World, Tab w → Calls Tryz.prog 29 #[.int .i64 v] w fun e w' => e = .returned (.string t) ∧ Below w.heap.size w w') := fun w h => by rw [ht]; exact itoaI_any v b0 b1 w h
    clear b0 b1 hv he ht
    by_cases hst : t = s
    · by_cases hv0 : 0 ≤ v
      · obtain ⟨m, rfl⟩ : ∃ m : Nat, v = (m : Int) := ⟨v.toNat, by omega⟩
        have HM : Hid (m < 9223372036854775808) := by have := HB1.out; unfold Hid; omega
        have HS : Hid (s = dgt m) := by unfold Hid; rw [← hst, HT.out, itoa_nat]
        have hq := str_eq hst
        clear hst
        go_enter Tryz.func12, Tryz.ntmps12
        go_wp2_with (first
          | (go_at_call 28; refine (atoi_yes s _ hm _ HV.out).mono ?_; rintro e w1 ⟨rfl, hb1⟩)
          | (go_at_call 29; refine (HI.out _ (HE.out.below hb1).tab).mono ?_; rintro e w2 ⟨rfl, hb2⟩))
        go_ret2
        exact decPost_yes HM.out HS.out (hb1.trans (hb2.mono hb1.size))
      · have HNO : Hid (∀ m : Nat, m < 9223372036854775808 → s ≠ dgt m) := fun m hm h => by
          have h1 := HV.out
          rw [h, show (dgt m).data.toList = Lib.decDigits m by simp [dgt], atoi_dec m hm] at h1
          injection h1 with h1
          omega
        have hq := str_eq hst
        have hv1 : decide (0 ≤ v) = false := decide_eq_false hv0
        clear hst
        go_enter Tryz.func12, Tryz.ntmps12
        go_wp2_with (first
          | (go_at_call 28; refine (atoi_yes s _ hm _ HV.out).mono ?_; rintro e w1 ⟨rfl, hb1⟩)
          | (go_at_call 29; refine (HI.out _ (HE.out.below hb1).tab).mono ?_; rintro e w2 ⟨rfl, hb2⟩))
        go_ret2
        exact decPost_no HNO.out (hb1.trans (hb2.mono hb1.size))
    · have HNO : Hid (∀ m : Nat, m < 9223372036854775808 → s ≠ dgt m) := fun m hm h => by
        have h1 := HV.out
        rw [h, show (dgt m).data.toList = Lib.decDigits m by simp [dgt], atoi_dec m hm] at h1
        injection h1 with h1
        apply hst
        rw [HT.out, ← h1, itoa_nat, h]
      have hq := str_ne hst
      clear hst
      go_enter Tryz.func12, Tryz.ntmps12
      go_wp2_with (first
        | (go_at_call 28; refine (atoi_yes s _ hm _ HV.out).mono ?_; rintro e w1 ⟨rfl, hb1⟩)
        | (go_at_call 29; refine (HI.out _ (HE.out.below hb1).tab).mono ?_; rintro e w2 ⟨rfl, hb2⟩))
      go_ret2
      exact decPost_no HNO.out (hb1.trans (hb2.mono hb1.size))
  · have HNO : Hid (∀ m : Nat, m < 9223372036854775808 → s ≠ dgt m) := fun m hm h => by
      apply hok
      rw [h, show (dgt m).data.toList = Lib.decDigits m by simp [dgt]]
      exact ⟨_, atoi_dec m hm⟩
    have HO : Hid (∀ v, Lib.atoiAll s.data.toList ≠ .ok v) := fun v h => hok ⟨v, h⟩
    have HE : Hid (Env w) := he
    clear hok he
    go_enter Tryz.func12, Tryz.ntmps12
    go_wp2_with (go_at_call 28; refine (atoi_no s _ hm HE.out HO.out).mono ?_; rintro e w1 ⟨x, t, p, rfl, hb1⟩)
    go_ret2
    exact decPost_no HNO.out hb1
/-! ### a path's steps are no longer than its text -/
theorem stepName_le (s : ByteArray) (k : Nat) : (stepName s k).size ≤ s.size := by
  unfold stepName; rw [ByteArray.size_extract]; omega
theorem pathGo_bd (s : ByteArray) : ∀ (m k : Nat) (acc : List Step), s.size - k = m → k ≤ s.size → acc.length ≤ k → (∀ x ∈ acc, x.1.size ≤ s.size) → (pathGo s k acc).1.length ≤ s.size + 1 ∧ ∀ x ∈ (pathGo s k acc).1, x.1.size ≤ s.size := by
  intro m
  induction m using Nat.strongRecOn with
  | _ m ih =>
    intro k acc hm hk hl hx
    have hx' : ∀ x ∈ acc ++ [(stepName s k, stepEntry s k)], x.1.size ≤ s.size := fun x h => by
      rcases List.mem_append.1 h with h | h
      · exact hx x h
      · rw [List.mem_singleton.1 h]; exact stepName_le s k
    cases hb : stepOk s k with
    | false => rw [pathGo_bad hb]; exact ⟨Nat.zero_le _, fun x h => by simp at h⟩
    | true =>
      by_cases he : stepEnd s k = s.size
      · rw [pathGo_done hb he]
        exact ⟨by rw [List.length_append]; simp; omega, hx'⟩
      · by_cases h46 : gb s (stepEnd s k) = 46
        · have h1 : stepEnd s k < s.size := lt_of_gb (by rw [h46]; omega)
          have h2 := stepEnd_ge s k
          rw [← pathGo_next hb h46]
          exact ih (s.size - (stepEnd s k + 1)) (by omega) (stepEnd s k + 1) _ rfl (by omega) (by rw [List.length_append]; simp; omega) hx'
        · rw [pathGo_odd hb he h46]; exact ⟨Nat.zero_le _, fun x h => by simp at h⟩
theorem pathR_bd (s : ByteArray) : (pathR s).1.length ≤ s.size + 1 ∧ ∀ x ∈ (pathR s).1, x.1.size ≤ s.size := by
  unfold pathR
  split
  · exact ⟨Nat.zero_le _, fun x h => by simp at h⟩
  · exact pathGo_bd s _ 0 [] rfl (Nat.zero_le _) (Nat.zero_le _) (fun x h => by simp at h)
/-- a text that is a path has steps, if it has letters -/
theorem pathGo_some (s : ByteArray) : ∀ (m k : Nat) (acc : List Step), s.size - k = m → (pathGo s k acc).2.1 = 0 → (pathGo s k acc).1 ≠ [] := by
  intro m
  induction m using Nat.strongRecOn with
  | _ m ih =>
    intro k acc hm h0
    cases hb : stepOk s k with
    | false => rw [pathGo_bad hb] at h0; simp at h0
    | true =>
      by_cases he : stepEnd s k = s.size
      · rw [pathGo_done hb he]; simp
      · by_cases h46 : gb s (stepEnd s k) = 46
        · have h1 : stepEnd s k < s.size := lt_of_gb (by rw [h46]; omega)
          have h2 := stepEnd_ge s k
          rw [← pathGo_next hb h46] at h0 ⊢
          exact ih (s.size - (stepEnd s k + 1)) (by omega) (stepEnd s k + 1) _ rfl h0
        · rw [pathGo_odd hb he h46] at h0; simp at h0
theorem pathR_some {s : ByteArray} (h0 : (pathR s).2.1 = 0) : (pathR s).1 = [] ↔ s.size = 0 := by
  unfold pathR at h0 ⊢
  split
  · rename_i h; simp [h]
  · rename_i h
    rw [if_neg h] at h0
    exact ⟨fun h1 => absurd h1 (pathGo_some s _ 0 [] rfl h0), fun h1 => absurd h1 h⟩
theorem Reads.of_row {w : World} {base : Nat} {v : Value} {l : List Step} (h : w.ownsRow base 63 2 v l.length (cellsOf l)) : Reads w v l := by
  rcases h.2 with ⟨rfl, hn⟩ | ⟨g, cap, cur, rfl, hg, hh, hnc, hcm, hcs, htake⟩
  · exact .inl ⟨List.eq_nil_of_length_eq_zero hn, .inl rfl⟩
  · refine .inr ⟨g, 0, cap, rfl, fun i hi => ?_⟩
    have hc : ∀ j u, (cellsOf l)[j]? = some u → w.cell? ⟨g, j, none⟩ = some u := fun j u hu => by
      have := h.cells (g := g) rfl j u hu
      rwa [show (⟨g, 0, none⟩ : Addr).add j = ⟨g, j, none⟩ from by unfold Addr.add; split <;> simp_all] at this
    exact ⟨by rw [Nat.zero_add, Nat.mul_comm]; exact hc _ _ (cellsOf_name hi), by rw [Nat.zero_add, Nat.mul_comm]; exact hc _ _ (cellsOf_entry hi)⟩
end Go.Proofs.YtjohlabdjdhpfaaGreatDoor.Rd
