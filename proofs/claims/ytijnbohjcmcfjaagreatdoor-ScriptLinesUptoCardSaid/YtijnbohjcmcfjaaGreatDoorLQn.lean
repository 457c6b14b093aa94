/-
  Walks: the document's Parse of a line.
-/
import Derived.Test.YtijnbohjcmcfjaaGreatDoorLQf
import Derived.Test.YtijnbohjcmcfjaaGreatDoorLSp
import Derived.Test.YtijnbohjcmcfjaaGreatDoorLSr
namespace Go.Proofs.YtijnbohjcmcfjaaGreatDoor.Sc
open Go.RowKit Go.Proofs.YtijnbohjcmcfjaaGreatDoor.Kt Go.Proofs.YtijnbohjcmcfjaaGreatDoor.Lk Go.Proofs.YtijnbohjcmcfjaaGreatDoor.Sp Go.Proofs.YtijnbohjcmcfjaaGreatDoor.Rw Go.Proofs.YtijnbohjcmcfjaaGreatDoor.Rg
open Go.Proofs.YtijnbohjcmcfjaaGreatDoor.Nu (dgt Sizes isInt pwOf)
set_option linter.unusedSimpArgs false
set_option linter.unusedVariables false
set_option maxRecDepth 100000

theorem skipE_no32 {s : ByteArray} {k : Nat} (h : skipE s k < s.size) : gb s (skipE s k) ≠ 32 := by
  intro e
  have h1 := skipE_go h e
  rw [skipE_skip] at h1
  have h2 := skipE_ge s (skipE s k + 1)
  omega
theorem fieldE_gt {s : ByteArray} {k : Nat} (h : skipE s k < s.size) : skipE s k < fieldE s (skipE s k) := by
  have h1 := fieldE_go h (skipE_no32 h)
  have h2 := fieldE_ge s (skipE s k + 1)
  omega
theorem fieldE_size (s : ByteArray) : fieldE s s.size = s.size := fieldE_stop (fun h => Nat.lt_irrefl _ h.1)
/-- the four words -/
def kw (q : Nat) : ByteArray := if q = 0 then wField else if q = 1 then wGroup else if q = 2 then wNext else wData
/-- the kind that a word names, among the first q -/
def kq (t : ByteArray) : Nat → Int
  | 0 => -1
  | q + 1 => if t = kw q then (q : Int) else kq t q
theorem kq_yes {t : ByteArray} {q : Nat} (h : t = kw q) : kq t (q + 1) = (q : Int) := by unfold kq; rw [if_pos h]
theorem kq_no {t : ByteArray} {q : Nat} (h : t ≠ kw q) : kq t (q + 1) = kq t q := by rw [kq, if_neg h]
theorem kq4 (t : ByteArray) : kq t 4 = if t = wField then 0 else if t = wGroup then 1 else if t = wNext then 2 else if t = wData then 3 else -1 := by
  show (if t = wData then (3 : Int) else if t = wNext then 2 else if t = wGroup then 1 else if t = wField then 0 else -1) = _
  by_cases h0 : t = wField
  · subst h0
    rw [if_neg (by decide : ¬ wField = wData), if_neg (by decide : ¬ wField = wNext), if_neg (by decide : ¬ wField = wGroup), if_pos rfl, if_pos rfl]
  · by_cases h1 : t = wGroup
    · subst h1
      rw [if_neg (by decide : ¬ wGroup = wData), if_neg (by decide : ¬ wGroup = wNext), if_pos rfl, if_neg h0, if_pos rfl]
    · by_cases h2 : t = wNext
      · subst h2
        rw [if_neg (by decide : ¬ wNext = wData), if_pos rfl, if_neg h0, if_neg h1, if_pos rfl]
      · by_cases h3 : t = wData
        · subst h3
          rw [if_pos rfl, if_neg h0, if_neg h1, if_neg h2, if_pos rfl]
        · rw [if_neg h3, if_neg h2, if_neg h1, if_neg h0, if_neg h0, if_neg h1, if_neg h2, if_neg h3]
/-- a line by its kind -/
theorem parse_kq (s : ByteArray) (h : skipE s 0 < s.size) : parseF s =
    if kq (sub s (skipE s 0) (fieldE s (skipE s 0))) 4 < 0 then (CallP.none, 250, skipE s 0)
    else if kq (sub s (skipE s 0) (fieldE s (skipE s 0))) 4 = 2 then tailF s (fieldE s (skipE s 0)) ⟨2, ⟨#[]⟩, [], 0, ⟨#[]⟩⟩
    else namedF s (kq (sub s (skipE s 0) (fieldE s (skipE s 0))) 4) (fieldE s (skipE s 0)) := by
  have h1 := fieldE_gt h
  unfold parseF
  rw [if_neg (by omega), kq4]
  generalize sub s (skipE s 0) (fieldE s (skipE s 0)) = t
  split
  · rw [if_neg (by decide), if_neg (by decide)]
  · split
    · rw [if_neg (by decide), if_neg (by decide)]
    · split
      · rw [if_neg (by decide), if_pos rfl]
      · split
        · rw [if_neg (by decide), if_neg (by decide)]
        · rw [if_pos (by decide)]
theorem kq_range (t : ByteArray) : kq t 4 = -1 ∨ kq t 4 = 0 ∨ kq t 4 = 1 ∨ kq t 4 = 2 ∨ kq t 4 = 3 := by
  rw [kq4]; repeat' split
  all_goals simp
/-- a name behind its spaces -/
theorem rnamed_some {s : ByteArray} {k : Nat} (kd : Int) (hk : k ≤ s.size) (h : skipE s k < s.size) : namedF s kd k =
    if symOk (sub s (skipE s k) (fieldE s (skipE s k))) = false then (CallP.none, 250, skipE s k)
    else if skipE s (fieldE s (skipE s k)) = s.size then (⟨kd, sub s (skipE s k) (fieldE s (skipE s k)), [], 0, ⟨#[]⟩⟩, 0, 0)
    else restF s kd (sub s (skipE s k) (fieldE s (skipE s k))) (skipE s (fieldE s (skipE s k))) := by
  have h1 := fieldE_gt h
  unfold namedF
  rw [if_neg (by omega)]
theorem rnamed_none {s : ByteArray} {k : Nat} (kd : Int) (h : skipE s k = s.size) : namedF s kd k = (CallP.none, 250, s.size) := by
  unfold namedF
  rw [if_pos (by rw [h, fieldE_size])]
theorem rparse_none {s : ByteArray} (h : skipE s 0 = s.size) : parseF s = (CallP.none, 250, s.size) := by
  unfold parseF
  rw [if_pos (by rw [h, fieldE_size])]
end Go.Proofs.YtijnbohjcmcfjaaGreatDoor.Sc
