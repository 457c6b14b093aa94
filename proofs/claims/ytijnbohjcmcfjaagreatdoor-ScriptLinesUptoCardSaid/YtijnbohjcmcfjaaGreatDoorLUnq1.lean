/-
  Walks: a text in quotes read: package text's unquoter, one letter that is its own.
-/
import Derived.Test.YtijnbohjcmcfjaaGreatDoorLRows2
import Derived.Test.YtijnbohjcmcfjaaGreatDoorLReg
import Derived.Test.YtijnbohjcmcfjaaGreatDoorLSplit
import Derived.Deep.DeepCutAuto
import Derived.Deep.CutBlock
namespace Go.Proofs.YtijnbohjcmcfjaaGreatDoor.Sc
open Go.RowKit Go.Proofs.YtijnbohjcmcfjaaGreatDoor.Kt Go.Proofs.YtijnbohjcmcfjaaGreatDoor.Lk Go.Proofs.YtijnbohjcmcfjaaGreatDoor.Rw Go.Proofs.YtijnbohjcmcfjaaGreatDoor.Rg Go.Proofs.YtijnbohjcmcfjaaGreatDoor.Ap
set_option linter.unusedSimpArgs false
set_option linter.unusedVariables false
set_option maxRecDepth 100000

/-- the unquoter in block g: the text, the place, the letters so far in a row of one's own -/
structure UV (base g : Nat) (s : ByteArray) (k : Nat) (out : List Int) (v : Value) (w : World) : Prop where
  ge : base ≤ g
  blk : Blk w g #[.string s, .int .i64 k, v] 117
  own : w.ownsRow base 5 1 v out.length (out.map (Value.int .u8))
  ne : v.ownBlock ≠ some g
def U (base g : Nat) (s : ByteArray) (k : Nat) (out : List Int) (w : World) : Prop := ∃ v, UV base g s k out v w
theorem row_is {w : World} {base : Nat} {te : TypeId} {size : Nat} {v : Value} {n : Nat} {xs : List Value} (h : w.ownsRow base te size v n xs) : ∃ A cap, v = .slice A n cap := by
  rcases h.2 with ⟨rfl, h0⟩ | ⟨g, cap, cur, rfl, _⟩
  · subst h0; exact ⟨_, _, rfl⟩
  · exact ⟨_, _, rfl⟩
/-- what reads the block's cells -/
def Cells3 (g : Nat) (s : ByteArray) (k : Nat) (v : Value) (w : World) : Prop := w.cell? ⟨g, 0, none⟩ = some (.string s) ∧ w.cell? ⟨g, 1, none⟩ = some (.int .i64 k) ∧ w.cell? ⟨g, 2, none⟩ = some v
theorem UV.cells {base g k : Nat} {s : ByteArray} {out : List Int} {v : Value} {w : World} (h : UV base g s k out v w) : Cells3 g s k v w := ⟨h.blk.cell 0 rfl, h.blk.cell 1 rfl, h.blk.cell 2 rfl⟩
theorem UV.drew {base g k : Nat} {s : ByteArray} {out : List Int} {v : Value} {w : World} (h : UV base g s k out v w) : UV base g s k out v w.drew := ⟨h.ge, h.blk, h.own, h.ne⟩
theorem UV.drewN {base g k : Nat} {s : ByteArray} {out : List Int} {v : Value} {w : World} (h : UV base g s k out v w) (n : Nat) : UV base g s k out v (w.drewN n) := ⟨h.ge, h.blk, h.own, h.ne⟩
theorem UV.at' {base g k : Nat} {s : ByteArray} {out : List Int} {v : Value} {w : World} (h : UV base g s k out v w) (k' : Nat) : UV base g s k' out v (w.setCell ⟨g, 1, none⟩ (.int .i64 k')) := by
  refine ⟨h.ge, h.blk.set 1 _, ?_, h.ne⟩
  refine h.own.kept (row := some g) ⟨rfl, rfl, rfl, by simp [World.setCell], fun j _ hj => Below.heap_setCell _ _ _ _ (fun e => hj (by simp [e]))⟩ (Or.inr h.ne)
/-- the letters that were laid behind are put into the block -/
theorem UV.put {base g k : Nat} {s : ByteArray} {out ys : List Int} {v v' : Value} {w0 w1 : World} (h : UV base g s k out v w0) (hown : w1.ownsRow base 5 1 v' (out.length + ys.length) ((out ++ ys).map (Value.int .u8)))
    (hg : w0.grownBy w1 v.ownBlock) (hat : v'.ownBlock = v.ownBlock ∨ ∃ q, v'.ownBlock = some q ∧ w0.heap.size ≤ q) : UV base g s k (out ++ ys) v' (w1.setCell ⟨g, 2, none⟩ v') := by
  have hgl := h.blk.lt
  have hne : v'.ownBlock ≠ some g := by
    rcases hat with e | ⟨q, e, hq⟩
    · rw [e]; exact h.ne
    · rw [e]; intro h'; injection h' with h'; omega
  refine ⟨h.ge, (h.blk.grown hg (Ne.symm h.ne)).set 2 _, ?_, hne⟩
  have h2 := hown.kept (row := some g) (w' := w1.setCell ⟨g, 2, none⟩ v') ⟨rfl, rfl, rfl, by simp [World.setCell], fun j _ hj => Below.heap_setCell _ _ _ _ (fun e => hj (by simp [e]))⟩ (Or.inr hne)
  simpa using h2
theorem below_set {base g i : Nat} {a w : World} {u : Value} (h : Below base a w) (hg : base ≤ g) : Below base a (w.setCell ⟨g, i, none⟩ u) := h.setCell (p := ⟨g, i, none⟩) hg _
/-- what an item's reading answers -/
def ItemPost (base g : Nat) (s : ByteArray) (k : Nat) (out : List Int) (w : World) (e : Ending) (w' : World) : Prop :=
  ((∃ p, itemF s k = .error p ∧ e = .returned (.bool false) ∧ U base g s p out w') ∨ (∃ c k', itemF s k = .ok (c, k') ∧ e = .returned (.bool true) ∧ U base g s k' (out ++ [c]) w')) ∧ Below base w w'

set_option maxHeartbeats 1600000 in
theorem plain_any (base g : Nat) (s : ByteArray) (k : Nat) (out : List Int) (w : World) (hU : U base g s k out w) (hk : k < s.size) (hm : s.size ≤ 268435456) (hq : gb s k ≠ 92) (hb : base ≤ w.heap.size) (ho : out.length ≤ s.size) :
    Calls Tryz.prog 87 #[.pointer (some ⟨g, 0, none⟩)] w (ItemPost base g s k out w) := by
  obtain ⟨v, hv⟩ := hU
  have HV : Hid (UV base g s k out v w) := hv
  obtain ⟨c0, c1, c2⟩ := hv.cells
  have HQ : Hid (gb s k ≠ 92) := hq
  have hbk := (gb_lt hk).symm
  clear hv hq
  go_enter Tryz.func87, Tryz.ntmps87
  by_cases h32 : gb s k < 32
  · have HI : Hid (itemF s k = .error k) := by unfold Hid itemF; rw [if_pos HQ.out, if_pos h32]
    go_wp2
    go_big_quiet (fail)
    go_wp2
    go_ret
    exact ⟨.inl ⟨k, HI.out, rfl, v, HV.out.drewN _⟩, below_drewN (Below.refl _ _) _⟩
  · have HI : Hid (itemF s k = .ok ((gb s k : Int), k + 1)) := by unfold Hid itemF; rw [if_pos HQ.out, if_neg h32]
    go_wp2
    go_big_quiet (fail)
    go_upto_region 3 with (fail)
    have HV1 : Hid (UV base g s k out v (w.drewN nq).drew) := (HV.out.drewN nq).drew
    clear c0 c1 c2
    refine wp_region_planS (Cells3 g s k v) [13, 15] [(some 13, 0), (some 14, 1), (some 15, 2), (some 16, 3), (some 17, 4), (some 18, 5), (some 19, 6), (some 20, 7), (some 21, 8), (some 22, 9), (some 23, 10), (some 24, 11), (some 25, 12), (none, 13), (none, 14), (none, 15), (none, 16), (none, 17), (none, 18)] (by kernel_rfl) (by kernel_rfl) (fun _ _ d _ _ h => by cases d <;> exact h) HV1.out.cells ?_
    repeat (first | (refine planS_pure (v := ?_) (a' := ?_) rfl rfl (by rfl) ?_ ?_ ?_; rotate_left; (intro w'; go_simp; with_reducible rfl); rotate_left; (simp only [Act.put, List.setIfInBounds_toArray, List.set_cons_zero, List.set_cons_succ]; rfl)) | (refine planS_load (v := ?_) (a' := ?_) rfl rfl (by rfl) (by kernel_rfl) ?_ ?_ ?_; rotate_left; (intro w' hS'; obtain ⟨c0, c1, c2⟩ := hS'; go_simp; with_reducible rfl); rotate_left; (simp only [Act.put, List.setIfInBounds_toArray, List.set_cons_zero, List.set_cons_succ]; rfl)))
    refine planS_alone _ _ _ _ _ ?_
    simp only [picks, List.getElem?_cons_succ, List.getElem?_cons_zero]
    go_wp2
    refine ⟨fun _ => HV1.out.cells, ?_⟩
    refine planS_alone _ _ _ _ _ ?_
    simp only [picks, List.getElem?_cons_succ, List.getElem?_cons_zero]
    go_wp2
    refine ⟨fun _ => ⟨(HV1.out.blk.alloc _).cell 0 rfl, (HV1.out.blk.alloc _).cell 1 rfl, (HV1.out.blk.alloc _).cell 2 rfl⟩, ?_⟩
    refine planS_alone _ _ _ _ _ ?_
    simp only [picks, List.getElem?_cons_succ, List.getElem?_cons_zero]
    go_wp2_with (at_builtin; refine wpList_app rfl _ _ rfl base v out.length out rfl HV1.out.own ((below_drewN (Below.refl base w) nq).drew) hb [(gb s k : Int)] 1 rfl _ rfl rfl (by omega) ?_)
    intro v' w1 hown' hB' hg' hat
    obtain ⟨A', cap', rfl⟩ := row_is hown'
    refine ⟨fun h0 => absurd (show pend _ _ = false from by kernel_rfl) (by rw [h0]; simp), ?_⟩
    refine planS_free _ _ _ _ (by kernel_rfl) rfl ?_
    refine plan_seq _ _ _ rfl ?_
    simp only [picks, List.getElem?_cons_succ, List.getElem?_cons_zero]
    have HP : Hid (UV base g s k (out ++ [(gb s k : Int)]) (.slice A' (out.length + 1) cap') (w1.setCell ⟨g, 2, none⟩ (.slice A' (out.length + 1) cap'))) := HV1.out.put (by rw [List.map_append]; exact hown') hg' hat
    have f2 : w1.frozen? ⟨g, 2, none⟩ = false := (HV1.out.blk.grown hg' (Ne.symm HV1.out.ne)).free 2
    have d2 : w1.cell? ⟨g, 2, none⟩ = some v := (HV1.out.blk.grown hg' (Ne.symm HV1.out.ne)).cell 2 rfl
    have HBB : Hid (Below base w (w1.setCell ⟨g, 2, none⟩ (.slice A' (out.length + 1) cap'))) := below_set hB' HV1.out.ge
    clear hown' hB' hg' hat
    have e1 := HP.out.blk.cell 1 (v := .int .i64 k) rfl
    have f1 := HP.out.blk.free 1
    go_wp2
    go_ret
    have h9 := HP.out.at' (k + 1)
    exact ⟨.inr ⟨_, _, HI.out, rfl, _, h9⟩, below_set HBB.out HV.out.ge⟩
end Go.Proofs.YtijnbohjcmcfjaaGreatDoor.Sc
