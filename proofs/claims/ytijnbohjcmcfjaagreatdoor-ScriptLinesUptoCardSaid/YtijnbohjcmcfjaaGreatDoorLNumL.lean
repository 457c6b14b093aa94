/-
  Walks: package number's List of words of the widest type.
-/
import Derived.Test.YtijnbohjcmcfjaaGreatDoorLNumP
import Derived.Test.YtijnbohjcmcfjaaGreatDoorLSc10
import Derived.Test.YtijnbohjcmcfjaaGreatDoorLShelf
import Derived.Test.YtijnbohjcmcfjaaGreatDoorLRows2
namespace Go.Proofs.YtijnbohjcmcfjaaGreatDoor.Sc
open Go.RowKit Go.Proofs.YtijnbohjcmcfjaaGreatDoor.Kt Go.Proofs.YtijnbohjcmcfjaaGreatDoor.Lk Go.Proofs.YtijnbohjcmcfjaaGreatDoor.Sp Go.Proofs.YtijnbohjcmcfjaaGreatDoor.Rw
open Go.Proofs.YtijnbohjcmcfjaaGreatDoor.Nu (dgt Sizes isInt pwOf)
set_option linter.unusedSimpArgs false
set_option linter.unusedVariables false
set_option maxRecDepth 100000

/-- what the library's variables hold -/
structure EnvS (w : World) : Prop where
  sizes : Sizes w
  most : ∃ m, w.cell? ⟨3, 0, none⟩ = some (.int .i64 m)
  tab : Lib.TabIs Tryz.prog w "internal/strconv.uint64pow10" .u64 Lib.pow10Tab
theorem infoW : (Tryz.prog.info? 30).map (fun i => (i.zero, i.size, i.bytes)) = some (some (.int .u64 0), 1, 8) := by kernel_rfl
def wordsV (l : List Nat) : List Value := l.map fun (n : Nat) => Value.int .u64 (n : Int)
def ListPost (s : ByteArray) (w : World) (e : Ending) (w' : World) : Prop :=
  ∃ v, e = .returned (.tuple #[v, .int .i64 ((listF s).2.1 : Int), .int .i64 ((listF s).2.2 : Int)]) ∧ w'.ownsRow w.heap.size 30 1 v (listF s).1.length (wordsV (listF s).1) ∧ Below w.heap.size w w'

theorem own_mono {w : World} {base base' te size n : Nat} {v : Value} {xs : List Value} (h : w.ownsRow base te size v n xs) (hb : base' ≤ base) : w.ownsRow base' te size v n xs := by
  refine ⟨h.1, ?_⟩
  rcases h.2 with h2 | ⟨g, cap, cur, h3, hg, h4⟩
  · exact .inl h2
  · exact .inr ⟨g, cap, cur, h3, Nat.le_trans hb hg, h4⟩
theorem row_kept {w w' : World} {base te size n : Nat} {v : Value} {xs : List Value} (h : w.ownsRow base te size v n xs) (hb : Below w.heap.size w w') : w'.ownsRow base te size v n xs :=
  h.kept (row := none) ⟨hb.os, hb.tape, hb.output, hb.size, fun k hk _ => hb.block k hk⟩ (Classical.em _)
set_option maxHeartbeats 3200000 in
theorem list_any (s : ByteArray) (w : World) (hm : s.size ≤ 268435456) (he : EnvS w) : Calls Tryz.prog 58 #[.int .i64 8, .string s] w (ListPost s w) := by
  obtain ⟨m, hmx⟩ := he.most
  go_enter Tryz.func58, Tryz.ntmps58
  go_wp2_with (go_at_call 44; fail)
  refine (Nu.isPrim_any 8 int8 _ he.sizes).mono ?_
  rintro e w1 ⟨rfl, b1⟩
  by_cases h0 : s.size = 0
  · obtain rfl := empty_of_size h0
    go_wp2
    go_ret3
    exact ⟨.slice none 0 0, rfl, World.ownsRow_nil _ _ _ _, b1⟩
  · have ie := isEmpty_false h0
    have HZ : Hid (listF s = listGo (pcsC 44 s) 0 []) := by unfold Hid listF; rw [if_neg h0]
    have hm1 : w1.cell? ⟨3, 0, none⟩ = some (.int .i64 m) := cell_later b1 hmx
    clear h0
    go_wp2_with (go_at_call 83; fail)
    refine (Tryz.strings_Split s ⟨#[44]⟩ m _ (by omega) hm1 (by decide)).mono ?_
    rintro e w2 ⟨rfl, hw2⟩
    rw [splitB_eq] at hw2
    rw [← pcsC_len 44 s]
    have hN := pcsC_length 44 s
    have hS := pcs_sum 44 s
    have hb2 : Below w.heap.size w w2 := by rw [hw2]; exact b1.alloc b1.size _
    have hcells : ∀ j (hj : j < (pcsC 44 s).length), w2.cell? ⟨w1.heap.size, j, none⟩ = some (.string (pcsC 44 s)[j]) := by
      intro j hj
      rw [hw2]
      have := new_cells w1 ((pcsC 44 s).map Value.string) 9 j (.string (pcsC 44 s)[j]) (by simp [hj])
      rwa [show (⟨w1.heap.size, 0, none⟩ : Addr).add j = ⟨w1.heap.size, j, none⟩ from by unfold Addr.add; split <;> simp_all] at this
    have hs2 : Sizes w2 := he.sizes.below hb2
    have hlt2 : w1.heap.size < w2.heap.size := by rw [hw2]; simp
    clear hw2 hm1 ie
    generalize hps : pcsC 44 s = ps at *
    go_wp2
    go_loopg [7, 8, 24] ps.length (fun mm l a i wr => ∃ (k a0 : Nat) (acc : List Nat), mm = ps.length - k ∧ k ≤ ps.length ∧ i = .int .i64 k ∧ a = .int .i64 a0 ∧ listGo (ps.drop k) a0 acc = listF s ∧ acc.length = k ∧ a0 + ((ps.drop k).map ByteArray.size).sum + (ps.length - k) = s.size + 1 ∧ wr.ownsRow w2.heap.size 30 1 l k (wordsV acc) ∧ Below w2.heap.size w2 wr)
    case atStart => exact ⟨0, 0, [], rfl, Nat.zero_le _, rfl, rfl, by rw [HZ.out]; rfl, rfl, by simpa using hS, World.ownsRow_nil _ _ _ _, Below.refl _ _⟩
    case round =>
      obtain ⟨k, a0, acc, hmm, hk, rfl, rfl, hgo, hacc, hsum, hown, hB2⟩ := hrel
      have HM : Hid (gk = ps.length - k) := hmm
      have hB : Below w.heap.size w wr := hb2.trans (hB2.mono hb2.size)
      have HOWN : Hid (wr.ownsRow w2.heap.size 30 1 u7 k (wordsV acc)) := hown
      have HB : Hid (Below w.heap.size w wr) := hB
      have HB2 : Hid (Below w2.heap.size w2 wr) := hB2
      have HA : Hid (acc.length = k) := hacc
      clear hmm hown hB hacc
      by_cases hlt : k < ps.length
      · have c0 := cell_later hB2 (hcells k hlt)
        have hdr : ps.drop k = ps[k] :: ps.drop (k + 1) := List.drop_eq_getElem_cons hlt
        rw [hdr, listGo] at hgo
        rw [hdr, List.map_cons, List.sum_cons] at hsum
        have hsz : Sizes wr := hs2.below hB2
        clear hB2 hdr hcells
        generalize ps[k] = c at c0 hgo hsum
        have hp := pw_lt (s := c)
        have HPW : Hid (Nu.pwV (pwOf 8 c) = .tuple #[.int .u64 ((pwOf 8 c).1 : Int), .int .i64 ((pwOf 8 c).2.1 : Int), .int .i64 ((pwOf 8 c).2.2 : Int)]) := rfl
        obtain ⟨x, hx⟩ : ∃ x, x = pwOf 8 c := ⟨_, rfl⟩
        rw [← hx] at hgo hp HPW
        obtain ⟨p1, p2, p3⟩ := x
        dsimp only at hgo hp HPW
        have HX : Hid ((p1, p2, p3) = pwOf 8 c) := hx
        clear hx
        go_wp2_with (go_at_call 84; fail)
        refine (Nu.parse_any 8 int8 c _ hsz (by omega)).mono ?_
        rintro e w3 ⟨rfl, b3⟩
        rw [← HX.out, HPW.out]
        have HB3 : Hid (Below w.heap.size w w3) := HB.out.trans (b3.mono HB.out.size)
        have HB4 : Hid (Below w2.heap.size w2 w3) := HB2.out.trans (b3.mono HB2.out.size)
        have HO3 : Hid (w3.ownsRow w2.heap.size 30 1 u7 k (wordsV acc)) := row_kept HOWN.out b3
        clear b3 c0 HB HB2 HOWN
        by_cases hp2 : p2 = 0
        · have e1 : (((p2 : Nat) : Int) != 0) = false := by simp [hp2]
          rw [if_neg (by simpa using hp2)] at hgo
          have HG : Hid (listGo (ps.drop (k + 1)) (a0 + c.size + 1) (acc ++ [p1]) = listF s) := hgo
          have HS : Hid (a0 + c.size + 1 + ((ps.drop (k + 1)).map ByteArray.size).sum + (ps.length - (k + 1)) = s.size + 1) := by unfold Hid; omega
          obtain ⟨i1, hi1, hz10, hz11, hz12⟩ := info_parts infoW
          have hbz := HB4.out.size
          have ha0 : a0 + c.size + 1 ≤ 268435460 := by omega
          clear hgo hsum hp2 hp
          go_wp2_with (at_builtin; refine wpList_append_own_at _ rfl _ _ 23 rfl w2.heap.size 30 i1 (.int .u64 0) 1 8 Tryz.underlying23 hi1 hz10 hz11 hz12 rfl (by decide) u7 k (wordsV acc) rfl (HO3.out.alloc _) ⟨w3.heap.size, 0, none⟩ 1 1 [.int .u64 (p1 : Int)] rfl rfl (new_cells _ _ _) (by intro u hu; simp at hu; rcases hu with rfl; rfl) ?c3 ?c4 ?c5 ?_)
          case c3 => unfold maxLen; omega
          case c4 => omega
          case c5 => simp; omega
          intro v' w4 own4 grow4 _ _
          have HO4 : Hid (w4.ownsRow w2.heap.size 30 1 v' (k + 1) (wordsV (acc ++ [p1]))) := by unfold Hid wordsV; rw [List.map_append]; exact own4
          have HB5 : Hid (Below w2.heap.size w2 w4) := below_row (HB4.out.alloc hbz _) (by simp; omega) (HO3.out.alloc _) grow4
          clear own4 grow4
          go_wp2
          go_roundg (ps.length - (k + 1))
          case measure => rw [HM.out]; omega
          case rel => exact ⟨k + 1, a0 + c.size + 1, acc ++ [p1], rfl, by omega, by go_num, by go_num, HG.out, by rw [List.length_append, HA.out]; rfl, HS.out, HO4.out, HB5.out⟩
        · have e1 : (((p2 : Nat) : Int) != 0) = true := by simp [hp2]
          rw [if_pos (by simpa using hp2)] at hgo
          have HG : Hid (listF s = ([], p2, a0 + p3)) := hgo.symm
          have ha0 : a0 + p3 ≤ 268435460 := by omega
          clear hgo hsum hp2
          go_wp2
          go_ret3
          refine ⟨.slice none 0 0, by rw [HG.out]; rfl, ?_, HB3.out⟩
          rw [HG.out]; exact World.ownsRow_nil _ _ _ _
      · have HR : Hid (listF s = (acc, 0, 0)) := by unfold Hid; rw [← hgo, List.drop_eq_nil_of_le (by omega), listGo]
        obtain rfl : k = ps.length := by omega
        clear hgo hsum hcells
        go_wp2
        go_ret3
        refine ⟨u7, by rw [HR.out]; rfl, ?_, HB.out⟩
        rw [HR.out, HA.out]
        exact own_mono HOWN.out hb2.size
end Go.Proofs.YtijnbohjcmcfjaaGreatDoor.Sc
