/-
  Walks: a text in quotes read: package text's Unquote.
-/
import Derived.Test.YtijnbohjcmcfjaaGreatDoorUnq3
import Derived.Test.YtijnbohjcmcfjaaGreatDoorSc10
namespace Go.Proofs.YtijnbohjcmcfjaaGreatDoor.Sc
open Go.RowKit Go.Proofs.YtijnbohjcmcfjaaGreatDoor.Kt Go.Proofs.YtijnbohjcmcfjaaGreatDoor.Lk Go.Proofs.YtijnbohjcmcfjaaGreatDoor.Rw Go.Proofs.YtijnbohjcmcfjaaGreatDoor.Rg Go.Proofs.YtijnbohjcmcfjaaGreatDoor.Ap
open Go.Proofs.YtijnbohjcmcfjaaGreatDoor.Nu (worthI)
set_option linter.unusedSimpArgs false
set_option linter.unusedVariables false
set_option maxRecDepth 100000

/-- what a text in quotes, read, answers -/
def UnqPost (s : ByteArray) (w : World) (e : Ending) (w' : World) : Prop :=
  e = .returned (.tuple #[.string (if (unqF s).2.2 = 0 then strOfNums (unqF s).1 else ⟨#[]⟩), .int .i64 ((unqF s).2.1 : Int), .int .i64 ((unqF s).2.2 : Int)]) ∧ Below w.heap.size w w'
theorem unqPost_bad {s : ByteArray} {w w' : World} {p : Nat} {o : List Int} (h : unqF s = (o, p, 23)) (hb : Below w.heap.size w w') : UnqPost s w (.returned (.tuple #[.string ⟨#[]⟩, .int .i64 (p : Int), .int .i64 23])) w' := by
  unfold UnqPost; rw [h]; exact ⟨rfl, hb⟩
theorem unqPost_ok {s : ByteArray} {w w' : World} {p : Nat} {o : List Int} (h : unqF s = (o, p, 0)) (hb : Below w.heap.size w w') : UnqPost s w (.returned (.tuple #[.string (strOfNums o), .int .i64 (p : Int), .int .i64 0])) w' := by
  unfold UnqPost; rw [h]; exact ⟨rfl, hb⟩

set_option maxHeartbeats 3200000 in
theorem unquote_any (s : ByteArray) (w : World) (hm : s.size ≤ 268435456) : Calls Tryz.prog 60 #[.string s] w (UnqPost s w) := by
  go_enter Tryz.func60, Tryz.ntmps60
  by_cases h0 : s.size = 0
  · obtain rfl := empty_of_size h0
    have HR : Hid (unqF ⟨#[]⟩ = ([], 0, 23)) := rfl
    go_wp2
    go_ret3
    exact unqPost_bad HR.out (Below.refl _ _)
  · have l0 : 0 < s.size := by omega
    have b0 := (gb_lt l0).symm
    have ie := isEmpty_false h0
    clear h0
    by_cases h34 : gb s 0 = 34
    · have HF : Hid (unqGo s 1 [] = unqF s) := by unfold Hid unqF; rw [if_neg (by omega)]
      rw [h34] at b0
      clear h34
      go_wp2
      go_loopg [6] (s.size - 1) (fun m u wr => ∃ (k : Nat) (out : List Int), m = s.size - k ∧ 1 ≤ k ∧ k ≤ s.size ∧ unqGo s k out = unqF s ∧ out.length ≤ k ∧ U w.heap.size w.heap.size s k out wr ∧ Below w.heap.size w wr)
      case atStart =>
        refine ⟨1, [], rfl, Nat.le_refl _, l0, HF.out, Nat.zero_le _, ⟨.slice none 0 0, ⟨Nat.le_refl _, Blk.new _ _ _, row_nil _ _, by simp [Value.ownBlock]⟩⟩, (Below.refl _ _).alloc (Nat.le_refl _) _⟩
      case round =>
        obtain ⟨k, out, hmm, hk1, hk2, hgo, hol, ⟨v, hv⟩, hB⟩ := hrel
        have HM : Hid (gk = s.size - k) := hmm
        have HG : Hid (unqGo s k out = unqF s) := hgo
        have HV : Hid (UV w.heap.size w.heap.size s k out v wr) := hv
        have HB : Hid (Below w.heap.size w wr) := hB
        obtain ⟨c0, c1, c2⟩ := hv.cells
        have hcv := fun n => conv_row (P := Tryz.prog) (hv.drewN n).own 72 5 Tryz.underlying72 Tryz.underlying5 9 Tryz.underlying9
        have HCV : Hid (∀ n, (convert 72 9 v).run Tryz.prog (wr.drewN n) = .ok (.string (strOfNums out)) (wr.drewN n)) := hcv
        clear hmm hgo hv hB hcv b0 ie HF
        by_cases hlt : k < s.size
        · have hbk := (gb_lt hlt).symm
          by_cases hq : gb s k = 34
          · have HR : Hid (unqF s = (out, k + 1, 0)) := by unfold Hid; rw [← HG.out]; exact unqGo_quote hlt hq out
            have hcv := HCV.out
            rw [hq] at hbk
            clear hq
            go_wp2
            go_big_quiet (fail)
            go_wp2
            go_ret3
            exact unqPost_ok HR.out (below_drewN HB.out _)
          · have HQ : Hid (gb s k ≠ 34) := hq
            have e34 : (((gb s k : Nat) : Int) == 34) = false := by rw [beq_eq_false_iff_ne]; omega
            clear hq
            have hbs := HB.out.size
            by_cases h92 : gb s k = 92
            · have H92 : Hid (gb s k = 92) := h92
              rw [h92] at hbk e34
              clear h92
              go_wp2_with (go_at_call 88; fail)
              refine (escaped_any w.heap.size w.heap.size s k out _ ⟨v, HV.out⟩ hlt hm H92.out hbs (by omega)).mono ?_
              rintro e w1 ⟨⟨p, h1, rfl, v1, hv1⟩ | ⟨c, k', h1, rfl, hu⟩, hB1⟩
              · have HR : Hid (unqF s = ([], p, 23)) := by unfold Hid; rw [← HG.out]; exact unqGo_bad hlt HQ.out h1 out
                obtain ⟨d0, d1, d2⟩ := hv1.cells
                have HBB : Hid (Below w.heap.size w w1) := HB.out.trans hB1
                clear h1 hB1 c0 c1 c2 hv1
                go_wp2
                go_big_quiet (fail)
                go_wp2
                go_ret3
                exact unqPost_bad HR.out (below_drewN HBB.out _)
              · have HN : Hid (unqGo s k' (out ++ [c]) = unqF s) := by unfold Hid; rw [← HG.out]; exact (unqGo_next hlt HQ.out h1 out).symm
                have hgt := (itemF_gt h1).1
                have hle := (itemF_le hlt).2 c k' h1
                have HBB : Hid (Below w.heap.size w w1) := HB.out.trans hB1
                have HU : Hid (U w.heap.size w.heap.size s k' (out ++ [c]) w1) := hu
                clear h1 hB1 c0 c1 c2 hu
                go_wp2
                go_roundg (s.size - k')
                case measure => rw [HM.out]; omega
                case rel => exact ⟨k', _, rfl, by omega, hle, HN.out, by simp; omega, HU.out, HBB.out⟩
            · have H92 : Hid (gb s k ≠ 92) := h92
              have e92 : (((gb s k : Nat) : Int) == 92) = false := by rw [beq_eq_false_iff_ne]; omega
              clear h92
              go_wp2_with (go_at_call 87; fail)
              refine (plain_any w.heap.size w.heap.size s k out _ ⟨v, HV.out⟩ hlt hm H92.out hbs (by omega)).mono ?_
              rintro e w1 ⟨⟨p, h1, rfl, v1, hv1⟩ | ⟨c, k', h1, rfl, hu⟩, hB1⟩
              · have HR : Hid (unqF s = ([], p, 23)) := by unfold Hid; rw [← HG.out]; exact unqGo_bad hlt HQ.out h1 out
                obtain ⟨d0, d1, d2⟩ := hv1.cells
                have HBB : Hid (Below w.heap.size w w1) := HB.out.trans hB1
                clear h1 hB1 c0 c1 c2 hv1
                go_wp2
                go_big_quiet (fail)
                go_wp2
                go_ret3
                exact unqPost_bad HR.out (below_drewN HBB.out _)
              · have HN : Hid (unqGo s k' (out ++ [c]) = unqF s) := by unfold Hid; rw [← HG.out]; exact (unqGo_next hlt HQ.out h1 out).symm
                have hgt := (itemF_gt h1).1
                have hle := (itemF_le hlt).2 c k' h1
                have HBB : Hid (Below w.heap.size w w1) := HB.out.trans hB1
                have HU : Hid (U w.heap.size w.heap.size s k' (out ++ [c]) w1) := hu
                clear h1 hB1 c0 c1 c2 hu
                go_wp2
                go_roundg (s.size - k')
                case measure => rw [HM.out]; omega
                case rel => exact ⟨k', _, rfl, by omega, hle, HN.out, by simp; omega, HU.out, HBB.out⟩
        · have HR : Hid (unqF s = ([], s.size, 23)) := by unfold Hid; rw [← HG.out]; exact unqGo_end hlt out
          go_wp2
          go_ret3
          exact unqPost_bad HR.out HB.out
    · have HR : Hid (unqF s = ([], 0, 23)) := by unfold Hid unqF; rw [if_pos h34]
      have en : (((gb s 0 : Nat) : Int) != 34) = true := by simp; omega
      go_wp2
      go_ret3
      exact unqPost_bad HR.out (Below.refl _ _)
end Go.Proofs.YtijnbohjcmcfjaaGreatDoor.Sc
