/-
  Walks: the document's lists of words: read, joined.
-/
import Derived.Test.YtijnbohjcmcfjaaGreatDoorLQd
import Derived.Test.YtijnbohjcmcfjaaGreatDoorLSl0
namespace Go.Proofs.YtijnbohjcmcfjaaGreatDoor.Sc
open Go.RowKit Go.Proofs.YtijnbohjcmcfjaaGreatDoor.Kt Go.Proofs.YtijnbohjcmcfjaaGreatDoor.Lk Go.Proofs.YtijnbohjcmcfjaaGreatDoor.Sp Go.Proofs.YtijnbohjcmcfjaaGreatDoor.Rw Go.Proofs.YtijnbohjcmcfjaaGreatDoor.Rg
open Go.Proofs.YtijnbohjcmcfjaaGreatDoor.Nu (dgt Sizes isInt pwOf)
set_option linter.unusedSimpArgs false
set_option linter.unusedVariables false
set_option maxRecDepth 100000

/-! ### plain -/
theorem L_sub (s : ByteArray) (a b : Nat) : L (sub s a b) = ((L s).drop a).take (b - a) := by
  show (s.extract a b).data.toList = _
  rw [ByteArray.data_extract, Array.toList_extract]
theorem gb_L {s : ByteArray} {k : Nat} (h : k < s.size) : ∃ c, (L s)[k]? = some c ∧ gb s k = c.toNat := by
  have hl : k < (L s).length := by rw [L_size]; exact h
  refine ⟨(L s)[k], List.getElem?_eq_getElem hl, ?_⟩
  rw [gb_lt h]
  rfl
/-- no comma between two places -/
def noC (s : ByteArray) (f k : Nat) : Prop := ∀ j, f ≤ j → j < k → gb s j ≠ 44
theorem noC_mem {s : ByteArray} {f k : Nat} (h : noC s f k) (hk : k ≤ s.size) : (44 : UInt8) ∉ L (sub s f k) := by
  intro hm
  rw [L_sub] at hm
  obtain ⟨i, hi, he⟩ := List.mem_iff_getElem.1 hm
  rw [List.getElem_take, List.getElem_drop] at he
  have hi2 : i < k - f := by have := List.length_take_le (k - f) ((L s).drop f); omega
  obtain ⟨c, hc, hg⟩ := gb_L (s := s) (k := f + i) (by omega)
  have : (L s)[f + i]'(by rw [L_size]; omega) = c := by
    have := List.getElem?_eq_getElem (l := L s) (i := f + i) (by rw [L_size]; omega)
    rw [this] at hc
    exact Option.some.inj hc
  rw [this] at he
  exact h (f + i) (by omega) (by omega) (by rw [hg, he]; rfl)
theorem pcs_one {s : ByteArray} {f : Nat} (h : noC s f s.size) : pcsC 44 (sub s f s.size) = [sub s f s.size] := by
  unfold pcsC
  have := splitL_none 44 (L (sub s f s.size)) (noC_mem h (Nat.le_refl _))
  show (splitL 44 (L (sub s f s.size))).map _ = _
  rw [this]
  show [(⟨(L (sub s f s.size)).toArray⟩ : ByteArray)] = _
  rw [mk_L]
theorem pcs_cut {s : ByteArray} {f k : Nat} (hf : f ≤ k) (hk : k < s.size) (h : noC s f k) (hc : gb s k = 44) : pcsC 44 (sub s f s.size) = sub s f k :: pcsC 44 (sub s (k + 1) s.size) := by
  obtain ⟨c, hc1, hc2⟩ := gb_L hk
  have hc44 : c = 44 := by
    have : c.toNat = 44 := by omega
    exact UInt8.toNat_inj.1 this
  have hl : (L s).length = s.size := L_size s
  have hs : L (sub s f s.size) = L (sub s f k) ++ 44 :: L (sub s (k + 1) s.size) := by
    rw [L_sub, L_sub, L_sub]
    rw [List.take_of_length_le (by rw [List.length_drop]; omega), List.take_of_length_le (l := (L s).drop (k + 1)) (by rw [List.length_drop]; omega)]
    have h1 : (L s).drop k = 44 :: (L s).drop (k + 1) := by
      have := List.drop_eq_getElem_cons (l := L s) (i := k) (by omega)
      rw [this]
      congr 1
      have h2 := List.getElem?_eq_getElem (l := L s) (i := k) (by omega)
      rw [h2] at hc1
      exact (Option.some.inj hc1).trans hc44
    rw [← h1]
    have h3 : (L s).drop k = ((L s).drop f).drop (k - f) := by rw [List.drop_drop]; congr 1; omega
    rw [h3, List.take_append_drop]
  unfold pcsC
  show (splitL 44 (L (sub s f s.size))).map _ = _
  rw [hs, splitL_cat 44 _ _ (noC_mem h (by omega)), List.map_cons]
theorem joinF_snoc : ∀ (l : List Nat) (n : Nat), l ≠ [] → joinF (l ++ [n]) = joinF l ++ ⟨#[44]⟩ ++ dgt n
  | [], _, h => absurd rfl h
  | [m], n, _ => rfl
  | m :: m2 :: r, n, _ => by
    have ih := joinF_snoc (m2 :: r) n (by simp)
    show dgt m ++ ⟨#[44]⟩ ++ joinF ((m2 :: r) ++ [n]) = dgt m ++ ⟨#[44]⟩ ++ joinF (m2 :: r) ++ ⟨#[44]⟩ ++ dgt n
    rw [ih]
    simp only [ByteArray.append_assoc]

/-! ### walks -/
/-- what the loop knows of its place -/
def LI (s : ByteArray) (k f : Nat) (acc : List Nat) : Prop :=
  (k ≤ s.size ∧ f ≤ k ∧ noC s f k ∧ listGo (pcsC 44 (sub s f s.size)) f acc = listF s) ∨ (k = s.size + 1 ∧ listF s = (acc, 0, 0))
set_option maxHeartbeats 3200000 in
theorem list3_any (s : ByteArray) (w : World) (hm : s.size ≤ 1048576) : Calls Tryz.prog 25 #[.int .i64 8, .string s] w (ListPost s w) := by
  by_cases h0 : s.size = 0
  · obtain rfl := empty_of_size h0
    go_enter Tryz.func25, Tryz.ntmps25
    go_wp2
    go_loopg [7, 8, 9] 0 (fun mm l a i wr => i = .int .i64 0 ∧ l = .slice none 0 0 ∧ wr = w)
    case atStart => exact ⟨rfl, rfl, rfl⟩
    case round =>
      obtain ⟨rfl, rfl, rfl⟩ := hrel
      go_wp2
      go_ret3
      exact ⟨.slice none 0 0, rfl, World.ownsRow_nil _ _ _ _, Below.refl _ _⟩
  · have ie := isEmpty_false h0
    have hst : LI s 0 0 [] := by
      refine .inl ⟨Nat.zero_le _, Nat.le_refl _, fun j h1 h2 => absurd h2 (by omega), ?_⟩
      have : sub s 0 s.size = s := by show s.extract 0 s.size = s; simp
      rw [this]; unfold listF; rw [if_neg h0]
    have HST : Hid (LI s 0 0 []) := hst
    clear hst h0
    go_enter Tryz.func25, Tryz.ntmps25
    go_wp2
    go_loopg [7, 8, 9] (s.size + 1) (fun mm l a i wr => ∃ (k f : Nat) (acc : List Nat), mm = s.size + 1 - k ∧ k ≤ s.size + 1 ∧ i = .int .i64 k ∧ a = .int .i64 f ∧ f ≤ s.size + 1 ∧ acc.length ≤ k ∧ LI s k f acc ∧ wr.ownsRow w.heap.size 30 1 l acc.length (wordsV acc) ∧ Below w.heap.size w wr)
    case atStart => exact ⟨0, 0, [], rfl, by omega, rfl, rfl, by omega, Nat.le_refl _, HST.out, World.ownsRow_nil _ _ _ _, Below.refl _ _⟩
    case round =>
      obtain ⟨k, f, acc, hmm, hk, rfl, rfl, hf, hal, hli, hown, hB⟩ := hrel
      have HM : Hid (gk = s.size + 1 - k) := hmm
      have HO : Hid (wr.ownsRow w.heap.size 30 1 u7 acc.length (wordsV acc)) := hown
      have HB : Hid (Below w.heap.size w wr) := hB
      have HL : Hid (LI s k f acc) := hli
      clear hmm hown hB hli HST
      by_cases hlt : k ≤ s.size
      · have hin : f ≤ k ∧ noC s f k ∧ listGo (pcsC 44 (sub s f s.size)) f acc = listF s := by
          rcases HL.out with ⟨_, h⟩ | ⟨h, _⟩
          · exact h
          · omega
        obtain ⟨hfk, hnc, hgo⟩ := hin
        have HNC : Hid (noC s f k) := hnc
        have HGO : Hid (listGo (pcsC 44 (sub s f s.size)) f acc = listF s) := hgo
        clear hnc hgo HL
        by_cases hplain : k < s.size ∧ gb s k ≠ 44
        · obtain ⟨hks, h44⟩ := hplain
          have hb := (gb_lt hks).symm
          have e44 : (((gb s k : Nat) : Int) != 44) = true := by rw [bne_iff_ne]; omega
          have HN : Hid (LI s (k + 1) f acc) := .inl ⟨by omega, by omega, fun j h1 h2 => by
            by_cases h : j = k
            · subst h; exact h44
            · exact HNC.out j h1 (by omega), HGO.out⟩
          clear h44
          go_wp2
          go_roundg (s.size + 1 - (k + 1))
          case measure => rw [HM.out]; omega
          case rel => exact ⟨k + 1, f, acc, rfl, by omega, by go_num, rfl, by omega, by omega, HN.out, HO.out, HB.out⟩
        · have hend : k = s.size ∨ (k < s.size ∧ gb s k = 44) := by omega
          have hsz : (sub s f k).size ≤ s.size := by show (s.extract _ _).size ≤ _; rw [ByteArray.size_extract]; omega
          have hszk : (sub s f k).size = k - f := sub_size s hlt
          have HNX : Hid (((pwOf 8 (sub s f k)).2.1 ≠ 0 → listF s = ([], (pwOf 8 (sub s f k)).2.1, f + (pwOf 8 (sub s f k)).2.2)) ∧ ((pwOf 8 (sub s f k)).2.1 = 0 → LI s (k + 1) (k + 1) (acc ++ [(pwOf 8 (sub s f k)).1]))) := by
            rcases hend with hke | ⟨hks, h44⟩
            · subst hke
              have h1 := HGO.out
              rw [pcs_one HNC.out, listGo] at h1
              refine ⟨fun h => by rw [if_pos h] at h1; exact h1.symm, fun h => ?_⟩
              rw [if_neg (by simpa using h)] at h1
              exact .inr ⟨rfl, h1.symm⟩
            · have h1 := HGO.out
              rw [pcs_cut hfk hks HNC.out h44, listGo] at h1
              refine ⟨fun h => by rw [if_pos h] at h1; exact h1.symm, fun h => ?_⟩
              rw [if_neg (by simpa using h), hszk, show f + (k - f) + 1 = k + 1 by omega] at h1
              exact .inl ⟨by omega, Nat.le_refl _, fun j h2 h3 => absurd h3 (by omega), h1⟩
          have hpl := (pw_lt (s := sub s f k)).2
          have hp1 := (pw_lt (s := sub s f k)).1
          have hparse : ∀ W : World, Calls Tryz.prog 48 #[.int .i64 8, .string (sub s f k)] W fun e w' => e = .returned (.tuple #[.int .u64 ((pwOf 8 (sub s f k)).1 : Int), .int .i64 ((pwOf 8 (sub s f k)).2.1 : Int), .int .i64 ((pwOf 8 (sub s f k)).2.2 : Int)]) ∧ Below W.heap.size W w' := fun W => R3.parse3_any (sub s f k) W (by omega)
          generalize pwOf 8 (sub s f k) = x at HNX hpl hp1 hparse
          obtain ⟨p1, p2, p3⟩ := x
          dsimp only at HNX hpl hp1 hparse
          have HPA : Hid (∀ W : World, Calls Tryz.prog 48 #[.int .i64 8, .string (sub s f k)] W fun e w' => e = .returned (.tuple #[.int .u64 (p1 : Int), .int .i64 (p2 : Int), .int .i64 (p3 : Int)]) ∧ Below W.heap.size W w') := hparse
          clear hparse hplain HGO HNC
          have hfin : ∀ W' : World, True := fun _ => trivial
          clear hfin
          have hcond : k < s.size → gb s k = 44 := fun h => by omega
          have HCD : Hid (k < s.size → gb s k = 44) := hcond
          clear hcond hend
          by_cases hks : k < s.size
          all_goals (try (have hb := (gb_lt hks).symm; rw [HCD.out hks] at hb))
          all_goals
            go_wp2_with (go_at_call 48; fail)
            refine (HPA.out _).mono ?_
            rintro e w3 ⟨rfl, b3⟩
            have HB3 : Hid (Below w.heap.size w w3) := HB.out.trans (b3.mono HB.out.size)
            have HO3 : Hid (w3.ownsRow w.heap.size 30 1 u7 acc.length (wordsV acc)) := row_kept HO.out b3
            clear b3
            by_cases hp2 : p2 = 0
            · have e1 : (((p2 : Nat) : Int) != 0) = false := by simp [hp2]
              have HN : Hid (LI s (k + 1) (k + 1) (acc ++ [p1])) := HNX.out.2 hp2
              have hown : (w3.alloc (.cells #[.int .u64 (p1 : Int)] 30)).ownsRow w.heap.size 30 1 u7 acc.length (wordsV acc) := HO3.out.alloc _
              have hbz := HB3.out.size
              clear hp2 HNX HO HB
              go_wp2_with (at_builtin; refine wpList_append_keep rfl _ _ rfl w.heap.size u7 acc rfl hown p1 ⟨w3.heap.size, 0, none⟩ 1 rfl ?c1 ?c2 ?c3 ?_)
              case c1 => exact (Blk.new w3 #[.int .u64 (p1 : Int)] 30).cell 0 rfl
              case c2 => omega
              case c3 => simp; omega
              intro v' w4 own4 _ grow4 _
              have HO4 : Hid (w4.ownsRow w.heap.size 30 1 v' (acc.length + 1) (wordsV (acc ++ [p1]))) := own4
              have HB5 : Hid (Below w.heap.size w w4) := below_row (HB3.out.alloc hbz _) (by simp; omega) (HO3.out.alloc _) grow4
              clear own4 grow4 hown
              go_wp2
              go_roundg (s.size + 1 - (k + 1))
              case measure => rw [HM.out]; omega
              case rel => exact ⟨k + 1, k + 1, acc ++ [p1], rfl, by omega, by go_num, by go_num, by omega, by rw [List.length_append]; simp; omega, HN.out, by rw [List.length_append]; exact HO4.out, HB5.out⟩
            · have e1 : (((p2 : Nat) : Int) != 0) = true := by simp [hp2]
              have HN : Hid (listF s = ([], p2, f + p3)) := HNX.out.1 hp2
              have ha0 : f + p3 ≤ 268435460 := by omega
              clear hp2 HNX
              go_wp2
              go_ret3
              refine ⟨.slice none 0 0, by rw [HN.out]; rfl, ?_, HB3.out⟩
              rw [HN.out]; exact World.ownsRow_nil _ _ _ _
      · have HR : Hid (listF s = (acc, 0, 0)) := by
          rcases HL.out with ⟨h, _⟩ | ⟨_, h⟩
          · omega
          · exact h
        clear HL
        go_wp2
        go_ret3
        refine ⟨u7, by rw [HR.out]; rfl, ?_, HB.out⟩
        rw [HR.out]
        exact HO.out

/-- what the document's Join has made of the first words -/
def jn (l : List Nat) (k : Nat) : ByteArray := joinF (l.take k)
theorem jn_succ {l : List Nat} {k : Nat} (h : k < l.length) : jn l (k + 1) = if k = 0 then dgt l[k] else jn l k ++ ⟨#[44]⟩ ++ dgt l[k] := by
  unfold jn
  rw [List.take_succ_eq_append_getElem h]
  by_cases hk : k = 0
  · subst hk; rw [if_pos rfl]; rfl
  · rw [if_neg hk, joinF_snoc _ _ (by intro e; rw [List.take_eq_nil_iff] at e; rcases e with e | e; exact hk e; rw [e] at h; exact absurd h (by simp))]
set_option maxHeartbeats 1600000 in
theorem join3_some (b off cap : Nat) (l : List Nat) (w : World) (hl : l.length ≤ 1048577) (hw : ∀ n ∈ l, n < 2 ^ 64) (hr : RW w b off l) (hne : l ≠ []) :
    Calls Tryz.prog 28 #[.int .i64 8, .slice (some ⟨b, off, none⟩) l.length cap] w (JoinPost l w) := by
  have HW : Hid (∀ n ∈ l, n < 2 ^ 64) := hw
  have HRW : Hid (RW w b off l) := hr
  clear hne hw hr
  go_enter Tryz.func28, Tryz.ntmps28
  go_wp2
  go_loopg [6, 7] l.length (fun mm v i wr => ∃ k : Nat, mm = l.length - k ∧ k ≤ l.length ∧ i = .int .i64 k ∧ v = .string (jn l k) ∧ (jn l k).size ≤ 21 * k ∧ Below w.heap.size w wr)
  case atStart => exact ⟨0, rfl, Nat.zero_le _, rfl, rfl, Nat.le_refl _, Below.refl _ _⟩
  case round =>
    obtain ⟨k, hmm, hk, rfl, rfl, hjs, hB⟩ := hrel
    have HM : Hid (gk = l.length - k) := hmm
    have HB : Hid (Below w.heap.size w wr) := hB
    have hr := HRW.out.below hB
    clear hmm hB
    by_cases hlt : k < l.length
    · have c0 := hr k hlt
      have hn := HW.out l[k] (List.getElem_mem hlt)
      have HJ : Hid (jn l (k + 1) = if k = 0 then dgt l[k] else jn l k ++ ⟨#[44]⟩ ++ dgt l[k]) := jn_succ hlt
      clear hr
      generalize l[k] = x at c0 hn HJ
      have hds := Nu.dgt_size x hn
      have HNX : Hid (x < 18446744073709551616) := hn
      clear hn
      go_wp2_with (go_at_call 54; fail)
      refine (R3.print8_any x HNX.out _).mono ?_
      rintro e w2 ⟨rfl, b2⟩
      have HB2 : Hid (Below w.heap.size w w2) := HB.out.trans (b2.mono HB.out.size)
      clear b2 c0 HB
      by_cases hk0 : k = 0
      · subst hk0
        have HJ2 : Hid (jn l (0 + 1) = dgt x) := by unfold Hid; rw [HJ.out, if_pos rfl]
        have HE : Hid (jn l 0 ++ dgt x = dgt x) := by
          unfold Hid
          show (⟨#[]⟩ : ByteArray) ++ dgt x = dgt x
          exact ByteArray.empty_append
        clear HJ
        generalize jn l 0 = J at hjs HE
        go_wp2
        go_roundg (l.length - (0 + 1))
        case measure => rw [HM.out]; omega
        case rel => exact ⟨1, rfl, by omega, by go_num, by rw [HE.out]; exact congrArg Value.string HJ2.out.symm, by rw [show (1 : Nat) = 0 + 1 from rfl, HJ2.out]; omega, HB2.out⟩
      · have HJ2 : Hid (jn l (k + 1) = jn l k ++ ⟨#[44]⟩ ++ dgt x) := by unfold Hid; rw [HJ.out, if_neg hk0]
        have hkp : 0 < k := by omega
        have h44 : (jn l k ++ (⟨#[44]⟩ : ByteArray)).size = (jn l k).size + 1 := by rw [ByteArray.size_append]; rfl
        have HS : Hid ((jn l (k + 1)).size ≤ 21 * (k + 1)) := by unfold Hid; rw [HJ2.out, ByteArray.size_append, h44]; omega
        clear HJ hk0 h44
        generalize jn l k = J at hjs HJ2
        go_wp2
        go_roundg (l.length - (k + 1))
        case measure => rw [HM.out]; omega
        case rel => exact ⟨k + 1, rfl, by omega, by go_num, congrArg Value.string HJ2.out.symm, HS.out, HB2.out⟩
    · obtain rfl : k = l.length := by omega
      have HJ : Hid (jn l l.length = joinF l) := by unfold Hid jn; rw [List.take_length]
      clear hr
      go_wp2
      go_ret2
      exact ⟨by rw [← HJ.out]; rfl, HB.out⟩
theorem join3_none (A : Option Addr) (cap : Nat) (w : World) : Calls Tryz.prog 28 #[.int .i64 8, .slice A 0 cap] w (JoinPost [] w) := by
  go_enter Tryz.func28, Tryz.ntmps28
  go_wp2
  go_loopg [6, 7] 0 (fun mm v i wr => i = .int .i64 0 ∧ v = .string ⟨#[]⟩ ∧ wr = w)
  case atStart => exact ⟨rfl, rfl, rfl⟩
  case round =>
    obtain ⟨rfl, rfl, rfl⟩ := hrel
    go_wp2
    go_ret2
    exact ⟨rfl, Below.refl _ _⟩
theorem join3_any (v : Value) (l : List Nat) (w : World) (hl : l.length ≤ 1048577) (hw : ∀ n ∈ l, n < 2 ^ 64) (hr : WA w v l) :
    Calls Tryz.prog 28 #[.int .i64 8, v] w (JoinPost l w) := by
  by_cases h0 : l = []
  · subst h0
    obtain ⟨A, c, rfl⟩ := hr.len
    exact join3_none A c w
  · rcases hr with ⟨_, h⟩ | ⟨_, _, _, h⟩ | ⟨b, off, cap, rfl, h2⟩
    · exact absurd h h0
    · exact absurd h h0
    · exact join3_some b off cap l w hl hw h2 h0

theorem int_big (s : ByteArray) : intF s 4294967295 = if Nu.digEnd s false 0 = 0 ∨ Nu.digEnd s false 0 < s.size then (0, 30, Nu.digEnd s false 0) else if 4294967295 < R3.bigV s 10 s.size then (0, 31, 0) else (R3.bigV s 10 s.size, 0, 0) := by
  unfold intF
  rw [R3.magN_all s (.inl rfl)]
  split
  · rfl
  · by_cases h : R3.bigV s 10 s.size < 18446744073709551616
    · rw [if_pos h]
    · rw [if_neg h, if_pos (by omega)]
set_option maxHeartbeats 3200000 in
theorem int3x_any (s : ByteArray) (w : World) (hm : s.size ≤ 1048576) :
    Calls Tryz.prog 26 #[.string s, .int .i64 4294967295] w fun e w' => e = .returned (triV (intF s 4294967295)) ∧ Below w.heap.size w w' := by
  have hde := Nu.digEnd_le s false 0 (Nat.zero_le _)
  have hall := Nu.digEnd_all s false 0
  have hIB := int_big s
  by_cases hbad : Nu.digEnd s false 0 = 0 ∨ Nu.digEnd s false 0 < s.size
  · have HR : Hid (intF s 4294967295 = (0, 30, Nu.digEnd s false 0)) := by unfold Hid; rw [hIB, if_pos hbad]
    obtain ⟨d, hd⟩ : ∃ d, d = Nu.digEnd s false 0 := ⟨_, rfl⟩
    rw [← hd] at HR hbad hde
    have HD : Hid (Nu.digEnd s false 0 = d) := hd.symm
    clear hd hall hIB
    by_cases hz : d = 0
    · subst hz
      clear hbad
      go_enter Tryz.func26, Tryz.ntmps26
      go_wp2_with (go_at_call 49; refine (R3.row3g_any s 0 false _ hm (Nat.zero_le _)).mono ?_; rintro e w' ⟨he, rfl⟩; rw [HD.out] at he; subst he)
      go_ret3
      exact ⟨by rw [HR.out]; rfl, Below.refl _ _⟩
    · have hlt : d < s.size := by omega
      have hz2 : ((d : Int) == 0) = false := by simp; omega
      clear hbad hz
      go_enter Tryz.func26, Tryz.ntmps26
      go_wp2_with (go_at_call 49; refine (R3.row3g_any s 0 false _ hm (Nat.zero_le _)).mono ?_; rintro e w' ⟨he, rfl⟩; rw [HD.out] at he; subst he)
      go_ret3
      exact ⟨by rw [HR.out]; rfl, Below.refl _ _⟩
  · have HS : Hid (Nu.digEnd s false 0 = s.size) := by unfold Hid; omega
    have hz2 : (((s.size : Nat) : Int) == 0) = false := by rw [beq_eq_false_iff_ne]; omega
    have HDG : Hid (∀ i, i < s.size → isDig (gb s i) = true) := fun i hi => by
      have := hall i (Nat.zero_le _) (by omega)
      unfold Nu.digAt at this
      simpa using this
    have HR : Hid (intF s 4294967295 = if 4294967295 < Bg.digVal s s.size then (0, 31, 0) else (Bg.digVal s s.size, 0, 0)) := by
      unfold Hid; rw [hIB, if_neg hbad, R3.bigV_dig s.size HDG.out]
    obtain ⟨M, hMM⟩ : ∃ M : Nat, M = 4294967295 := ⟨_, rfl⟩
    have HMM : Hid (M = 4294967295) := hMM
    have HM : Hid (M ≤ 4611686018427387904) := by unfold Hid; omega
    have hmx : max (M : Int) 0 = (M : Int) := by omega
    have hwr : IntKind.u64.wrap (M : Int) = (M : Int) := by simp [IntKind.wrap, IntKind.bits, IntKind.signed]; omega
    have hM0 : (0 : Int) ≤ (M : Int) := by omega
    have hlt64 : Hid (M < 18446744073709551616) := by unfold Hid; omega
    rw [show (4294967295 : Int) = (M : Int) by omega]
    clear hMM hbad hde hall hIB
    go_enter Tryz.func26, Tryz.ntmps26
    go_wp2_with (first
      | (go_at_call 49; refine (R3.row3g_any s 0 false _ hm (Nat.zero_le _)).mono ?_; rintro e w' ⟨he, rfl⟩; rw [HS.out] at he; subst he)
      | (go_at_call 50; fail))
    refine (R3.number3_any s _ hm HDG.out).mono ?_
    rintro e w1 ⟨v1, l1, rfl, i1, o1, t1, n1, z1, b1⟩
    have I1 : Hid (R3.Ints w1 v1 l1) := i1
    have O1 : Hid (Bg.okL l1) := o1
    have T1 : Hid (Bg.trimd l1) := t1
    have N1 : Hid (Bg.val l1 = Bg.digVal s s.size) := n1
    clear i1 o1 t1 n1
    go_wp2_with (go_at_call 51; fail)
    refine (R3.ofWord3_any M _ hlt64.out).mono ?_
    rintro e w2 ⟨v2, l2, rfl, i2, o2, t2, n2, z2, b2⟩
    have I1' : Hid (R3.Ints w2 v1 l1) := I1.out.below b2
    have I2 : Hid (R3.Ints w2 v2 l2) := i2
    have O2 : Hid (Bg.okL l2) := o2
    have T2 : Hid (Bg.trimd l2) := t2
    have N2 : Hid (Bg.val l2 = M) := n2
    have B2 : Below w.heap.size w w2 := b1.trans (b2.mono b1.size)
    clear i2 o2 t2 n2 I1 b1 b2
    go_wp2_with (go_at_call 52; fail)
    refine (R3.compare3_any v1 v2 l1 l2 _ (by omega) z2 I1'.out I2.out O1.out O2.out T1.out T2.out).mono ?_
    rintro e w3 ⟨c, rfl, hc, b3⟩
    have I3 : Hid (R3.Ints w3 v1 l1) := I1'.out.below b3
    have B3 : Below w.heap.size w w3 := B2.trans (b3.mono B2.size)
    have HC : Hid (0 < c ↔ Bg.val l2 < Bg.val l1) := hc
    clear hc I1' I2 b3 B2
    by_cases hcp : 0 < c
    · have HQ : Hid (intF s 4294967295 = (0, 31, 0)) := by
        have h1 := HC.out.1 hcp
        rw [N1.out, N2.out] at h1
        unfold Hid; rw [HR.out, if_pos (by have := HMM.out; omega)]
      go_wp2
      go_ret3
      exact ⟨by rw [HQ.out]; rfl, B3⟩
    · have HLE : Hid (Bg.digVal s s.size ≤ M) := by
        have h1 : ¬ Bg.val l2 < Bg.val l1 := fun h => hcp (HC.out.2 h)
        rw [N1.out, N2.out] at h1
        unfold Hid; omega
      have HQ : Hid (intF s 4294967295 = (Bg.digVal s s.size, 0, 0)) := by unfold Hid; rw [HR.out, if_neg (by have := HLE.out; have := HMM.out; omega)]
      have HVM : Hid (Bg.val l1 ≤ M) := by unfold Hid; rw [N1.out]; exact HLE.out
      obtain ⟨A, cap, rfl, e1, e2, _⟩ := I3.out
      unfold maxLen at e2
      go_wp2
      go_loop [11, 12] (fun nv jv => (∃ m : Nat, jv = .int .i64 m ∧ m < l1.length ∧ nv = .int .i64 (Bg.val (l1.drop (m + 1)) : Nat)) ∨ (jv = .int .i64 (-1) ∧ nv = .int .i64 (Bg.val l1 : Nat))) (fun _ jv => (intOf jv + 1).toNat)
      case atStart =>
        by_cases h0 : l1.length = 0
        · exact .inr ⟨by rw [h0]; rfl, by rw [List.eq_nil_of_length_eq_zero h0]; rfl⟩
        · exact .inl ⟨l1.length - 1, by congr 1; omega, by omega, by rw [List.drop_eq_nil_of_le (by omega)]; rfl⟩
      case round => as_aux_lemma =>
        rcases hrel with ⟨m, rfl, hmm, rfl⟩ | ⟨rfl, rfl⟩
        · obtain ⟨g, rfl, hg, hcell⟩ := R3.Ints.at I3.out hmm
          have hvd := Bg.val_drop hmm
          have hvl := Bg.val_drop_le l1 m
          obtain ⟨n, hn⟩ : ∃ n, n = Bg.val (l1.drop (m + 1)) := ⟨_, rfl⟩
          rw [← hn] at hvd ⊢
          generalize l1[m] = x at hcell hvd
          have hs1 : IntKind.i64.wrap ((n : Int) * 16777216) = (n : Int) * 16777216 := IntWalk.i64_in _ (by have := HM.out; have := HVM.out; omega)
          have hs2 : IntKind.i64.wrap ((n : Int) * 16777216 + (x : Int)) = (n : Int) * 16777216 + (x : Int) := IntWalk.i64_in _ (by have := HM.out; have := HVM.out; omega)
          have HVD : Hid (Bg.val (l1.drop m) = n * 16777216 + x) := hvd
          clear hvd hvl hn
          go_wp2
          go_round
          case rel =>
            by_cases h0 : m = 0
            · subst h0
              refine .inr ⟨rfl, ?_⟩
              have := HVD.out
              rw [List.drop_zero] at this
              rw [this]; congr 1
            · refine .inl ⟨m - 1, by congr 1; omega, by omega, ?_⟩
              rw [show m - 1 + 1 = m by omega, HVD.out]; congr 1
          case measure => simp [intOf] <;> omega
        · go_wp2
          go_ret3
          exact ⟨by rw [HQ.out, ← N1.out]; rfl, B3⟩
end Go.Proofs.YtijnbohjcmcfjaaGreatDoor.Sc
