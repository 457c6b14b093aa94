/-
  Walks: the document's texts in quotes, read.
-/
import Derived.Test.YtijnbohjcmcfjaaGreatDoorLQi
import Derived.Test.YtijnbohjcmcfjaaGreatDoorLSt
import Derived.Test.YtijnbohjcmcfjaaGreatDoorLRefSym
namespace Go.Proofs.YtijnbohjcmcfjaaGreatDoor.Sc
open Go.RowKit Go.Proofs.YtijnbohjcmcfjaaGreatDoor.Kt Go.Proofs.YtijnbohjcmcfjaaGreatDoor.Lk Go.Proofs.YtijnbohjcmcfjaaGreatDoor.Sp Go.Proofs.YtijnbohjcmcfjaaGreatDoor.Rw Go.Proofs.YtijnbohjcmcfjaaGreatDoor.Rg Go.Proofs.YtijnbohjcmcfjaaGreatDoor.Ap
open Go.Proofs.YtijnbohjcmcfjaaGreatDoor.Nu (worthI)
set_option linter.unusedSimpArgs false
set_option linter.unusedVariables false
set_option maxRecDepth 100000

set_option maxHeartbeats 3200000 in
theorem runquote_any (s : ByteArray) (w : World) (hm : s.size ≤ 268435456) : Calls Tryz.prog 27 #[.string s] w (UnqPost s w) := by
  go_enter Tryz.func27, Tryz.ntmps27
  by_cases h0 : s.size = 0
  · obtain rfl := empty_of_size h0
    have HR : Hid (unqF ⟨#[]⟩ = ([], 0, 23)) := rfl
    go_wp2
    go_ret3
    exact unqPost_bad HR.out (Below.refl _ _)
  · have l0 : 0 < s.size := by omega
    have b0 := (gb_lt l0).symm
    have ie := isEmpty_false h0
    clear h0
    by_cases h34 : gb s 0 = 34
    · have HF : Hid (unqGo s 1 [] = unqF s) := by unfold Hid unqF; rw [if_neg (by omega)]
      rw [h34] at b0
      clear h34
      go_wp2
      go_loopg [5, 6, 7, 8, 9] (s.size - 1) (fun m v i _ _ _ wr => ∃ (k : Nat) (out : List Int), m = s.size - k ∧ i = .int .i64 k ∧ 1 ≤ k ∧ k ≤ s.size ∧ unqGo s k out = unqF s ∧ out.length ≤ k ∧ wr.ownsRow w.heap.size 5 1 v out.length (out.map (Value.int .u8)) ∧ Below w.heap.size w wr)
      case atStart => exact ⟨1, [], rfl, rfl, Nat.le_refl _, l0, HF.out, Nat.zero_le _, row_nil _ _, Below.refl _ _⟩
      case round =>
        obtain ⟨k, out, hmm, rfl, hk1, hk2, hgo, hol, hown, hB⟩ := hrel
        have HM : Hid (gk = s.size - k) := hmm
        have HG : Hid (unqGo s k out = unqF s) := hgo
        have HO : Hid (wr.ownsRow w.heap.size 5 1 u5 out.length (out.map (Value.int .u8))) := hown
        have HB : Hid (Below w.heap.size w wr) := hB
        clear hmm hgo hown hB b0 ie HF
        by_cases hlt : k < s.size
        · have hbk := (gb_lt hlt).symm
          by_cases hq : gb s k = 34
          · have HR : Hid (unqF s = (out, k + 1, 0)) := by unfold Hid; rw [← HG.out]; exact unqGo_quote hlt hq out
            have hcv := conv_row (P := Tryz.prog) HO.out 72 5 Tryz.underlying72 Tryz.underlying5 9 Tryz.underlying9
            rw [hq] at hbk
            clear hq
            go_wp2
            go_ret3
            exact unqPost_ok HR.out HB.out
          · have HQ : Hid (gb s k ≠ 34) := hq
            have e34 : (((gb s k : Nat) : Int) != 34) = true := by rw [bne_iff_ne]; omega
            clear hq
            go_wp2_with (go_at_call 53; fail)
            refine (ritem_any s k _ hlt hm).mono ?_
            rintro e w1 ⟨⟨c, k', h1, rfl⟩ | ⟨p, y, x, h1, rfl, h3, h4⟩, n, rfl⟩
            · have HN : Hid (unqGo s k' (out ++ [c]) = unqF s) := by unfold Hid; rw [← HG.out]; exact (unqGo_next hlt HQ.out h1 out).symm
              have hgt := (itemF_gt h1).1
              have hle := (itemF_le hlt).2 c k' h1
              have HO2 : Hid ((wr.drewN n).ownsRow w.heap.size 5 1 u5 out.length (out.map (Value.int .u8))) := HO.out
              have HB2 : Hid (Below w.heap.size w (wr.drewN n)) := below_drewN HB.out n
              have hbz := HB2.out.size
              clear h1
              generalize wr.drewN n = wn at HO2 HB2 hbz ⊢
              go_wp2_with (at_builtin; refine wpList_app rfl _ _ rfl w.heap.size u5 out.length out rfl HO2.out HB2.out hbz [c] 1 rfl _ rfl rfl (by omega) ?_)
              intro v' w2 own2 hB2 _ _
              have HO3 : Hid (w2.ownsRow w.heap.size 5 1 v' (out ++ [c]).length ((out ++ [c]).map (Value.int .u8))) := by
                unfold Hid
                rw [List.length_append, List.map_append]
                exact own2
              have HB3 : Hid (Below w.heap.size w w2) := hB2
              clear own2 hB2
              go_wp2
              go_roundg (s.size - k')
              case measure => rw [HM.out]; omega
              case rel => exact ⟨k', out ++ [c], rfl, rfl, by omega, hle, HN.out, by simp; omega, HO3.out, HB3.out⟩
            · have HR : Hid (unqF s = ([], p, 23)) := by unfold Hid; rw [← HG.out]; exact unqGo_bad hlt HQ.out h1 out
              by_cases h92 : gb s k = 92
              · obtain rfl : y = p := h4 h92
                rw [h92] at hbk e34
                clear h92 h1 h3 h4
                go_wp2
                go_ret3
                exact unqPost_bad HR.out (below_drewN HB.out _)
              · obtain rfl : p = k := h3 h92
                have e92 : (((gb s p : Nat) : Int) != 92) = true := by rw [bne_iff_ne]; omega
                clear h92 h1 h3 h4
                go_wp2
                go_ret3
                exact unqPost_bad HR.out (below_drewN HB.out _)
        · have HR : Hid (unqF s = ([], s.size, 23)) := by unfold Hid; rw [← HG.out]; exact unqGo_end hlt out
          obtain rfl : k = s.size := by omega
          go_wp2
          go_ret3
          exact unqPost_bad HR.out HB.out
    · have HR : Hid (unqF s = ([], 0, 23)) := by unfold Hid unqF; rw [if_pos h34]
      have en : (((gb s 0 : Nat) : Int) != 34) = true := by simp; omega
      go_wp2
      go_ret3
      exact unqPost_bad HR.out (Below.refl _ _)
end Go.Proofs.YtijnbohjcmcfjaaGreatDoor.Sc
/-
  Walks: what a decoder's call told, as a line: package script's and the document's.
-/
namespace Go.Proofs.YtijnbohjcmcfjaaGreatDoor.Sc
open Go.RowKit Go.Proofs.YtijnbohjcmcfjaaGreatDoor.Kt Go.Proofs.YtijnbohjcmcfjaaGreatDoor.Lk Go.Proofs.YtijnbohjcmcfjaaGreatDoor.Sp Go.Proofs.YtijnbohjcmcfjaaGreatDoor.Rw Go.Proofs.YtijnbohjcmcfjaaGreatDoor.Rg
open Go.Proofs.YtijnbohjcmcfjaaGreatDoor.Nu (dgt Sizes isInt pwOf)
set_option linter.unusedSimpArgs false
set_option linter.unusedVariables false
set_option maxRecDepth 100000

/-- what was told, as a value -/
def toldV (v : Value) (ct : Int) (tx : ByteArray) : Array Value := #[v, .int .i64 ct, .string tx]
/-- words that were told -/
def dtl (tw : List Nat) : ByteArray := if tw = [] then ⟨#[61]⟩ else ⟨#[61, 32]⟩ ++ joinF tw
/-- .. as a line -/
def toldF (kd : Int) (tw : List Nat) (ct : Int) (tx : ByteArray) (er : Int) : ByteArray :=
  if er ≠ 0 then refS er else if kd = 0 then dtl tw else if kd = 1 then ⟨#[61, 32]⟩ ++ itz ct else if kd = 3 then ⟨#[61, 32]⟩ ++ quoteF tx else ⟨#[111, 107]⟩
def ToldPost (x : ByteArray) (w : World) (e : Ending) (w' : World) : Prop := e = .returned (.string x) ∧ Below w.heap.size w w'
theorem sjoin0 (sep : ByteArray) (w : World) : Calls Tryz.prog 46 #[.slice none 0 0, .string sep] w fun e w' => e = .returned (.string ⟨#[]⟩) ∧ w = w' := by
  go_enter Tryz.func46, Tryz.ntmps46
  go_wp2
  go_ret
  exact ⟨rfl, rfl⟩
theorem join_nil (A : Option Addr) (cap : Nat) (w : World) (h : Sizes w) : Calls Tryz.prog 21 #[.int .i64 8, .slice A 0 cap] w (JoinPost [] w) := by
  go_enter Tryz.func21, Tryz.ntmps21
  go_wp2_with (go_at_call 44; fail)
  refine (Nu.isPrim_any 8 int8 _ h).mono ?_
  rintro e w1 ⟨rfl, b1⟩
  have HB1 : Hid (Below w.heap.size w w1) := b1
  clear b1
  go_wp2
  go_loopg [6, 16] 0 (fun mm v i wr => v = .slice none 0 0 ∧ i = .int .i64 0 ∧ wr = w1)
  case atStart => exact ⟨rfl, rfl, rfl⟩
  case round =>
    obtain ⟨rfl, rfl, rfl⟩ := hrel
    go_wp2_with (go_at_call 46; refine (sjoin0 _ _).mono ?_; rintro e w' ⟨rfl, rfl⟩)
    go_ret2
    exact ⟨rfl, HB1.out⟩
theorem join_any (v : Value) (l : List Nat) (w : World) (hl : l.length ≤ 1048577) (hw : ∀ n ∈ l, n < 2 ^ 64) (hr : WA w v l) (h : Sizes w) :
    Calls Tryz.prog 21 #[.int .i64 8, v] w (JoinPost l w) := by
  by_cases h0 : l = []
  · subst h0
    obtain ⟨A, c, rfl⟩ := hr.len
    exact join_nil A c w h
  · rcases hr with ⟨_, h1⟩ | ⟨_, _, _, h1⟩ | ⟨b, off, cap, rfl, h2⟩
    · exact absurd h1 h0
    · exact absurd h1 h0
    · exact join_some b off cap l w hl hw h2 h h0
theorem trim_eq (l : List Nat) : (⟨(Lib.trimSuffix ((⟨#[61, 32]⟩ : ByteArray) ++ joinF l).data.toList (⟨#[32]⟩ : ByteArray).data.toList).toArray⟩ : ByteArray) = if l = [] then ⟨#[61]⟩ else ⟨#[61, 32]⟩ ++ joinF l := by
  have hL : ((⟨#[61, 32]⟩ : ByteArray) ++ joinF l).data.toList = [61, 32] ++ L (joinF l) := L_app _ _
  rw [hL]
  by_cases h0 : l = []
  · subst h0
    rw [if_pos rfl]
    rfl
  · rw [if_neg h0]
    have hs : Lib.hasSuffix ([61, 32] ++ L (joinF l)) (⟨#[32]⟩ : ByteArray).data.toList = false := by
      unfold Lib.hasSuffix
      rw [Bool.eq_false_iff]
      intro h
      have h2 : [32] <:+ [61, 32] ++ L (joinF l) := List.isSuffixOf_iff_suffix.1 h
      have hne : L (joinF l) ≠ [] := fun e => join_size h0 (by rw [← L_size, e]; rfl)
      have h3 := List.IsSuffix.getLast h2 (by simp)
      rw [List.getLast_append_of_ne_nil _ hne] at h3
      exact join_nosp l _ (List.getLast_mem hne) (by rw [← h3]; rfl)
    unfold Lib.trimSuffix
    rw [hs, if_neg (by simp), ← hL]
set_option maxHeartbeats 1600000 in
theorem told_any (kd ct' : Int) (nm tx' : ByteArray) (A : Option Addr) (n cap : Nat) (v : Value) (tw : List Nat) (ct : Int) (tx : ByteArray) (er : Int) (w : World) (hl : tw.length ≤ 1048577) (hws : ∀ n ∈ tw, n < 2 ^ 64) (hr : WA w v tw) (ht : tx.size ≤ 67108864)
    (he0 : -9223372036854775808 ≤ er) (he1 : er ≤ 9223372036854775807) (hc0 : -9223372036854775808 ≤ ct) (hc1 : ct ≤ 9223372036854775807) (he : EnvS w) :
    Calls Tryz.prog 13 #[.agg #[.int .i64 kd, .string nm, .slice A n cap, .int .i64 ct', .string tx'], .agg (toldV v ct tx), .int .i64 er] w (ToldPost (toldF kd tw ct tx er) w) := by
  have HR : Hid (WA w v tw) := hr
  have HWS : Hid (∀ n ∈ tw, n < 2 ^ 64) := hws
  have HE : Hid (EnvS w) := he
  obtain ⟨A2, cap2, rfl⟩ := hr.len
  clear hr hws he
  unfold toldV
  have hb0 : Below w.heap.size w ((w.alloc (.cells #[.int .i64 kd, .string nm, .slice A n cap, .int .i64 ct', .string tx'] 25)).alloc (.cells #[.slice A2 tw.length cap2, .int .i64 ct, .string tx] 36)) := ((Below.refl _ _).alloc (Nat.le_refl _) _).alloc (by simp) _
  by_cases h0 : er = 0
  · subst h0
    clear he0 he1
    by_cases hk0 : kd = 0
    · subst hk0
      have HF : Hid (toldF 0 tw ct tx 0 = dtl tw) := by unfold Hid toldF; rw [if_neg (by simp), if_pos rfl]
      have hd := join_le tw HWS.out
      have hj : Calls Tryz.prog 21 #[.int .i64 8, .slice A2 tw.length cap2] ((w.alloc (.cells #[.int .i64 0, .string nm, .slice A n cap, .int .i64 ct', .string tx'] 25)).alloc (.cells #[.slice A2 tw.length cap2, .int .i64 ct, .string tx] 36)) (JoinPost tw _) :=
        join_any _ tw _ hl HWS.out (HR.out.below hb0) (HE.out.sizes.below hb0)
      have HT := trim_eq tw
      have HTR : Hid ((⟨(Lib.trimSuffix ((⟨#[61, 32]⟩ : ByteArray) ++ joinF tw).data.toList (⟨#[32]⟩ : ByteArray).data.toList).toArray⟩ : ByteArray) = dtl tw) := HT
      have hsz : ((⟨#[61, 32]⟩ : ByteArray) ++ joinF tw).size ≤ 9223372036854775807 := by
        rw [ByteArray.size_append]
        have : (⟨#[61, 32]⟩ : ByteArray).size = 2 := rfl
        omega
      have HSZ : Hid (((⟨#[61, 32]⟩ : ByteArray) ++ joinF tw).size ≤ 9223372036854775807) := hsz
      clear HT hsz
      go_enter Tryz.func13, Tryz.ntmps13
      go_wp2_with (go_at_call 21; fail)
      refine hj.mono ?_
      rintro e w1 ⟨rfl, hb1⟩
      have HB1 : Hid (Below w.heap.size w w1) := hb0.trans (hb1.mono (by simp; omega))
      clear hb0 hb1 hj
      go_wp2_with (go_at_call 32; fail)
      refine (Tryz.strings_TrimSuffix _ _ _ HSZ.out).mono ?_
      rintro e w' ⟨rfl, rfl⟩
      rw [HTR.out]
      go_wp2
      go_ret
      exact ⟨by rw [HF.out]; rfl, HB1.out⟩
    · by_cases hk1 : kd = 1
      · subst hk1
        have HF : Hid (toldF 1 tw ct tx 0 = ⟨#[61, 32]⟩ ++ itz ct) := by unfold Hid toldF; rw [if_neg (by simp), if_neg (by decide), if_pos rfl]
        have hz : (itz ct).size ≤ 268435460 := by have := itz_size hc0 hc1; omega
        have hj : Calls Tryz.prog 19 #[.int .i64 ct] ((w.alloc (.cells #[.int .i64 1, .string nm, .slice A n cap, .int .i64 ct', .string tx'] 25)).alloc (.cells #[.slice A2 tw.length cap2, .int .i64 ct, .string tx] 36)) fun e w' => e = .returned (.string (itz ct)) ∧ Below ((w.alloc (.cells #[.int .i64 1, .string nm, .slice A n cap, .int .i64 ct', .string tx'] 25)).alloc (.cells #[.slice A2 tw.length cap2, .int .i64 ct, .string tx] 36)).heap.size ((w.alloc (.cells #[.int .i64 1, .string nm, .slice A n cap, .int .i64 ct', .string tx'] 25)).alloc (.cells #[.slice A2 tw.length cap2, .int .i64 ct, .string tx] 36)) w' := itoaz_any ct hc0 hc1 _ (Tab.below HE.out.tab hb0)
        have HB0 : Hid (Below w.heap.size w ((w.alloc (.cells #[.int .i64 1, .string nm, .slice A n cap, .int .i64 ct', .string tx'] 25)).alloc (.cells #[.slice A2 tw.length cap2, .int .i64 ct, .string tx] 36))) := hb0
        clear hb0 hk0
        generalize itz ct = J at hz hj HF
        go_enter Tryz.func13, Tryz.ntmps13
        go_wp2_with (go_at_call 19; fail)
        refine hj.mono ?_
        rintro e w1 ⟨rfl, hb1⟩
        have HB1 : Hid (Below w.heap.size w w1) := HB0.out.trans (hb1.mono (by simp; omega))
        clear hb1 hj
        go_wp2
        go_ret
        exact ⟨by rw [HF.out]; rfl, HB1.out⟩
      · by_cases hk3 : kd = 3
        · subst hk3
          have HF : Hid (toldF 3 tw ct tx 0 = ⟨#[61, 32]⟩ ++ quoteF tx) := by unfold Hid toldF; rw [if_neg (by simp), if_neg (by decide), if_neg (by decide), if_pos rfl]
          have hz : (quoteF tx).size ≤ 268435460 := by have := quote_le tx; omega
          have hj : Calls Tryz.prog 20 #[.string tx] ((w.alloc (.cells #[.int .i64 3, .string nm, .slice A n cap, .int .i64 ct', .string tx'] 25)).alloc (.cells #[.slice A2 tw.length cap2, .int .i64 ct, .string tx] 36)) fun e w' => e = .returned (.string (quoteF tx)) ∧ Below ((w.alloc (.cells #[.int .i64 3, .string nm, .slice A n cap, .int .i64 ct', .string tx'] 25)).alloc (.cells #[.slice A2 tw.length cap2, .int .i64 ct, .string tx] 36)).heap.size ((w.alloc (.cells #[.int .i64 3, .string nm, .slice A n cap, .int .i64 ct', .string tx'] 25)).alloc (.cells #[.slice A2 tw.length cap2, .int .i64 ct, .string tx] 36)) w' := tquote_any tx _ ht
          have HB0 : Hid (Below w.heap.size w ((w.alloc (.cells #[.int .i64 3, .string nm, .slice A n cap, .int .i64 ct', .string tx'] 25)).alloc (.cells #[.slice A2 tw.length cap2, .int .i64 ct, .string tx] 36))) := hb0
          clear hb0 hk0
          generalize quoteF tx = J at hz hj HF
          go_enter Tryz.func13, Tryz.ntmps13
          go_wp2_with (go_at_call 20; fail)
          refine hj.mono ?_
          rintro e w1 ⟨rfl, hb1⟩
          have HB1 : Hid (Below w.heap.size w w1) := HB0.out.trans (hb1.mono (by simp; omega))
          clear hb1 hj
          go_wp2
          go_ret
          exact ⟨by rw [HF.out]; rfl, HB1.out⟩
        · have HF : Hid (toldF kd tw ct tx 0 = ⟨#[111, 107]⟩) := by unfold Hid toldF; rw [if_neg (by simp), if_neg hk0, if_neg hk1, if_neg hk3]
          have e0 : (kd == 0) = false := by rw [beq_eq_false_iff_ne]; exact hk0
          have e1 : (kd == 1) = false := by rw [beq_eq_false_iff_ne]; exact hk1
          have e3 : (kd == 3) = false := by rw [beq_eq_false_iff_ne]; exact hk3
          have HB0 : Hid (Below w.heap.size w ((w.alloc (.cells #[.int .i64 kd, .string nm, .slice A n cap, .int .i64 ct', .string tx'] 25)).alloc (.cells #[.slice A2 tw.length cap2, .int .i64 ct, .string tx] 36))) := hb0
          clear hb0 hk0 hk1 hk3
          go_enter Tryz.func13, Tryz.ntmps13
          go_wp2
          go_ret
          exact ⟨by rw [HF.out]; rfl, HB0.out⟩
  · have HF : Hid (toldF kd tw ct tx er = refS er) := by unfold Hid toldF; rw [if_pos h0]
    have e0 : (er != 0) = true := by rw [bne_iff_ne]; exact h0
    have hrf : ∀ W : World, Tab W → Calls Tryz.prog 31 #[.int .i64 er] W fun e w' => e = .returned (.string (refS er)) ∧ Below W.heap.size W w' := fun W hT => refused_any er he0 he1 W hT
    have HRF : Hid (∀ W : World, Tab W → Calls Tryz.prog 31 #[.int .i64 er] W fun e w' => e = .returned (.string (refS er)) ∧ Below W.heap.size W w') := hrf
    have HTB : Hid (Tab ((w.alloc (.cells #[.int .i64 kd, .string nm, .slice A n cap, .int .i64 ct', .string tx'] 25)).alloc (.cells #[.slice A2 tw.length cap2, .int .i64 ct, .string tx] 36))) := Tab.below HE.out.tab hb0
    have HB0 : Hid (Below w.heap.size w ((w.alloc (.cells #[.int .i64 kd, .string nm, .slice A n cap, .int .i64 ct', .string tx'] 25)).alloc (.cells #[.slice A2 tw.length cap2, .int .i64 ct, .string tx] 36))) := hb0
    clear hrf h0 hb0 he0 he1
    go_enter Tryz.func13, Tryz.ntmps13
    go_wp2_with (go_at_call 31; fail)
    refine (HRF.out _ HTB.out).mono ?_
    rintro e w1 ⟨rfl, hb1⟩
    have HB1 : Hid (Below w.heap.size w w1) := HB0.out.trans (hb1.mono (by simp; omega))
    clear hb1
    go_wp2
    go_ret
    exact ⟨by rw [HF.out]; rfl, HB1.out⟩
end Go.Proofs.YtijnbohjcmcfjaaGreatDoor.Sc
/-
  Walks: what a decoder's call told, as a line: the document's.
-/
namespace Go.Proofs.YtijnbohjcmcfjaaGreatDoor.Sc
open Go.RowKit Go.Proofs.YtijnbohjcmcfjaaGreatDoor.Kt Go.Proofs.YtijnbohjcmcfjaaGreatDoor.Lk Go.Proofs.YtijnbohjcmcfjaaGreatDoor.Sp Go.Proofs.YtijnbohjcmcfjaaGreatDoor.Rw Go.Proofs.YtijnbohjcmcfjaaGreatDoor.Rg
open Go.Proofs.YtijnbohjcmcfjaaGreatDoor.Nu (dgt Sizes isInt pwOf)
set_option linter.unusedSimpArgs false
set_option linter.unusedVariables false
set_option maxRecDepth 100000

set_option maxHeartbeats 1600000 in
theorem rtold_any (kd ct' : Int) (nm tx' : ByteArray) (A : Option Addr) (n cap : Nat) (v : Value) (tw : List Nat) (ct : Int) (tx : ByteArray) (er : Int) (w : World) (hl : tw.length ≤ 1048577) (hws : ∀ n ∈ tw, n < 2 ^ 64) (hr : WA w v tw) (ht : tx.size ≤ 67108864)
    (he0 : -9223372036854775808 ≤ er) (he1 : er ≤ 9223372036854775807) (hc0 : -9223372036854775808 ≤ ct) (hc1 : ct ≤ 9223372036854775807) (he : EnvS w) :
    Calls Tryz.prog 14 #[.agg #[.int .i64 kd, .string nm, .slice A n cap, .int .i64 ct', .string tx'], .agg (toldV v ct tx), .int .i64 er] w (ToldPost (toldF kd tw ct tx er) w) := by
  have HR : Hid (WA w v tw) := hr
  have HWS : Hid (∀ n ∈ tw, n < 2 ^ 64) := hws
  have HE : Hid (EnvS w) := he
  obtain ⟨A2, cap2, rfl⟩ := hr.len
  clear hr hws he
  unfold toldV
  have hb0 : Below w.heap.size w ((w.alloc (.cells #[.int .i64 kd, .string nm, .slice A n cap, .int .i64 ct', .string tx'] 25)).alloc (.cells #[.slice A2 tw.length cap2, .int .i64 ct, .string tx] 36)) := ((Below.refl _ _).alloc (Nat.le_refl _) _).alloc (by simp) _
  by_cases h0 : er = 0
  · subst h0
    clear he0 he1
    by_cases hk0 : kd = 0
    · subst hk0
      have HF : Hid (toldF 0 tw ct tx 0 = dtl tw) := by unfold Hid toldF; rw [if_neg (by simp), if_pos rfl]
      by_cases hw0 : tw = []
      · have HQ : Hid (dtl tw = ⟨#[61]⟩) := by unfold Hid dtl; rw [if_pos hw0]
        have e9 : ((tw.length : Int) == 0) = true := by rw [hw0]; rfl
        have HB0 : Hid (Below w.heap.size w ((w.alloc (.cells #[.int .i64 0, .string nm, .slice A n cap, .int .i64 ct', .string tx'] 25)).alloc (.cells #[.slice A2 tw.length cap2, .int .i64 ct, .string tx] 36))) := hb0
        clear hw0 hb0
        go_enter Tryz.func14, Tryz.ntmps14
        go_wp2
        go_ret
        exact ⟨by rw [HF.out, HQ.out]; rfl, HB0.out⟩
      · have HQ : Hid (dtl tw = ⟨#[61, 32]⟩ ++ joinF tw) := by unfold Hid dtl; rw [if_neg hw0]
        have hp := List.length_pos_iff.2 hw0
        have e9 : ((tw.length : Int) == 0) = false := by rw [beq_eq_false_iff_ne]; omega
        have hd := join_le tw HWS.out
        have hj : Calls Tryz.prog 28 #[.int .i64 8, .slice A2 tw.length cap2] ((w.alloc (.cells #[.int .i64 0, .string nm, .slice A n cap, .int .i64 ct', .string tx'] 25)).alloc (.cells #[.slice A2 tw.length cap2, .int .i64 ct, .string tx] 36)) (JoinPost tw ((w.alloc (.cells #[.int .i64 0, .string nm, .slice A n cap, .int .i64 ct', .string tx'] 25)).alloc (.cells #[.slice A2 tw.length cap2, .int .i64 ct, .string tx] 36))) :=
          join3_any _ tw _ hl HWS.out (HR.out.below hb0)
        have HB0 : Hid (Below w.heap.size w ((w.alloc (.cells #[.int .i64 0, .string nm, .slice A n cap, .int .i64 ct', .string tx'] 25)).alloc (.cells #[.slice A2 tw.length cap2, .int .i64 ct, .string tx] 36))) := hb0
        clear hw0 hb0
        go_enter Tryz.func14, Tryz.ntmps14
        go_wp2_with (go_at_call 28; fail)
        refine hj.mono ?_
        rintro e w1 ⟨rfl, hb1⟩
        have HB1 : Hid (Below w.heap.size w w1) := HB0.out.trans (hb1.mono (by simp; omega))
        clear hb1 hj
        go_wp2
        go_ret
        exact ⟨by rw [HF.out, HQ.out]; rfl, HB1.out⟩
    · by_cases hk1 : kd = 1
      · subst hk1
        have HF : Hid (toldF 1 tw ct tx 0 = ⟨#[61, 32]⟩ ++ itz ct) := by unfold Hid toldF; rw [if_neg (by simp), if_neg (by decide), if_pos rfl]
        have hz : (itz ct).size ≤ 268435460 := by have := itz_size hc0 hc1; omega
        have hj : Calls Tryz.prog 34 #[.int .i64 ct] ((w.alloc (.cells #[.int .i64 1, .string nm, .slice A n cap, .int .i64 ct', .string tx'] 25)).alloc (.cells #[.slice A2 tw.length cap2, .int .i64 ct, .string tx] 36)) fun e w' => e = .returned (.string (itz ct)) ∧ Below ((w.alloc (.cells #[.int .i64 1, .string nm, .slice A n cap, .int .i64 ct', .string tx'] 25)).alloc (.cells #[.slice A2 tw.length cap2, .int .i64 ct, .string tx] 36)).heap.size ((w.alloc (.cells #[.int .i64 1, .string nm, .slice A n cap, .int .i64 ct', .string tx'] 25)).alloc (.cells #[.slice A2 tw.length cap2, .int .i64 ct, .string tx] 36)) w' := rnumber_any ct hc0 hc1 _
        have HB0 : Hid (Below w.heap.size w ((w.alloc (.cells #[.int .i64 1, .string nm, .slice A n cap, .int .i64 ct', .string tx'] 25)).alloc (.cells #[.slice A2 tw.length cap2, .int .i64 ct, .string tx] 36))) := hb0
        clear hb0 hk0
        generalize itz ct = J at hz hj HF
        go_enter Tryz.func14, Tryz.ntmps14
        go_wp2_with (go_at_call 34; fail)
        refine hj.mono ?_
        rintro e w1 ⟨rfl, hb1⟩
        have HB1 : Hid (Below w.heap.size w w1) := HB0.out.trans (hb1.mono (by simp; omega))
        clear hb1 hj
        go_wp2
        go_ret
        exact ⟨by rw [HF.out]; rfl, HB1.out⟩
      · by_cases hk3 : kd = 3
        · subst hk3
          have HF : Hid (toldF 3 tw ct tx 0 = ⟨#[61, 32]⟩ ++ quoteF tx) := by unfold Hid toldF; rw [if_neg (by simp), if_neg (by decide), if_neg (by decide), if_pos rfl]
          have hz : (quoteF tx).size ≤ 268435460 := by have := quote_le tx; omega
          have hj : Calls Tryz.prog 30 #[.string tx] ((w.alloc (.cells #[.int .i64 3, .string nm, .slice A n cap, .int .i64 ct', .string tx'] 25)).alloc (.cells #[.slice A2 tw.length cap2, .int .i64 ct, .string tx] 36)) fun e w' => e = .returned (.string (quoteF tx)) ∧ Below ((w.alloc (.cells #[.int .i64 3, .string nm, .slice A n cap, .int .i64 ct', .string tx'] 25)).alloc (.cells #[.slice A2 tw.length cap2, .int .i64 ct, .string tx] 36)).heap.size ((w.alloc (.cells #[.int .i64 3, .string nm, .slice A n cap, .int .i64 ct', .string tx'] 25)).alloc (.cells #[.slice A2 tw.length cap2, .int .i64 ct, .string tx] 36)) w' := rquote_any tx _ ht
          have HB0 : Hid (Below w.heap.size w ((w.alloc (.cells #[.int .i64 3, .string nm, .slice A n cap, .int .i64 ct', .string tx'] 25)).alloc (.cells #[.slice A2 tw.length cap2, .int .i64 ct, .string tx] 36))) := hb0
          clear hb0 hk0
          generalize quoteF tx = J at hz hj HF
          go_enter Tryz.func14, Tryz.ntmps14
          go_wp2_with (go_at_call 30; fail)
          refine hj.mono ?_
          rintro e w1 ⟨rfl, hb1⟩
          have HB1 : Hid (Below w.heap.size w w1) := HB0.out.trans (hb1.mono (by simp; omega))
          clear hb1 hj
          go_wp2
          go_ret
          exact ⟨by rw [HF.out]; rfl, HB1.out⟩
        · have HF : Hid (toldF kd tw ct tx 0 = ⟨#[111, 107]⟩) := by unfold Hid toldF; rw [if_neg (by simp), if_neg hk0, if_neg hk1, if_neg hk3]
          have e0 : (kd == 0) = false := by rw [beq_eq_false_iff_ne]; exact hk0
          have e1 : (kd == 1) = false := by rw [beq_eq_false_iff_ne]; exact hk1
          have e3 : (kd == 3) = false := by rw [beq_eq_false_iff_ne]; exact hk3
          have HB0 : Hid (Below w.heap.size w ((w.alloc (.cells #[.int .i64 kd, .string nm, .slice A n cap, .int .i64 ct', .string tx'] 25)).alloc (.cells #[.slice A2 tw.length cap2, .int .i64 ct, .string tx] 36))) := hb0
          clear hb0 hk0 hk1 hk3
          go_enter Tryz.func14, Tryz.ntmps14
          go_wp2
          go_ret
          exact ⟨by rw [HF.out]; rfl, HB0.out⟩
  · have HF : Hid (toldF kd tw ct tx er = refS er) := by unfold Hid toldF; rw [if_pos h0]
    have e0 : (er != 0) = true := by rw [bne_iff_ne]; exact h0
    have hrf : ∀ W : World, Tab W → Calls Tryz.prog 33 #[.int .i64 er] W fun e w' => e = .returned (.string (refS er)) ∧ Below W.heap.size W w' := fun W hT => rrefused_any er he0 he1 W
    have HRF : Hid (∀ W : World, Tab W → Calls Tryz.prog 33 #[.int .i64 er] W fun e w' => e = .returned (.string (refS er)) ∧ Below W.heap.size W w') := hrf
    have HTB : Hid (Tab ((w.alloc (.cells #[.int .i64 kd, .string nm, .slice A n cap, .int .i64 ct', .string tx'] 25)).alloc (.cells #[.slice A2 tw.length cap2, .int .i64 ct, .string tx] 36))) := Tab.below HE.out.tab hb0
    have HB0 : Hid (Below w.heap.size w ((w.alloc (.cells #[.int .i64 kd, .string nm, .slice A n cap, .int .i64 ct', .string tx'] 25)).alloc (.cells #[.slice A2 tw.length cap2, .int .i64 ct, .string tx] 36))) := hb0
    clear hrf h0 hb0 he0 he1
    go_enter Tryz.func14, Tryz.ntmps14
    go_wp2_with (go_at_call 33; fail)
    refine (HRF.out _ HTB.out).mono ?_
    rintro e w1 ⟨rfl, hb1⟩
    have HB1 : Hid (Below w.heap.size w w1) := HB0.out.trans (hb1.mono (by simp; omega))
    clear hb1
    go_wp2
    go_ret
    exact ⟨by rw [HF.out]; rfl, HB1.out⟩
end Go.Proofs.YtijnbohjcmcfjaaGreatDoor.Sc
