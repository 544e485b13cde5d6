import Derived.Test.YthbmjamgidfneaaGreatDoorZAv
/-
  ShowCalls: a call's text is its parts': plain.
-/
namespace Go.Proofs.YthbmjamgidfneaaGreatDoor
open Go.RowKit Go.Lib
theorem partT_ex {f : Nat} {t : Nd} (h : exF f t = true) (deep : Nat) : partT (typF f) (exT f) deep t = exT f deep false t := by
  have := exF_kind h
  unfold partT
  rw [if_neg (by omega)]
theorem call_text (f : Nat) (a x y : Nd) (ps : Int) (ha : a.kind = 18) (hx : exF f x = true) (hy : exF f y = true) :
    exT (f + 1) 0 false (.mk 21 [] [a, x, y] ps) = exT f 0 false a ++ [40] ++ exT f 0 false x ++ [44, 32] ++ exT f 0 false y ++ [41] := by
  rw [exT_succ]
  unfold exT1
  rw [if_neg (by simp [Nd.kind]), if_neg (by simp [Nd.kind]), if_neg (by simp [Nd.kind]), if_pos (by simp [Nd.kind])]
  unfold fstT othT brT
  show (if (a.kind == 19 || a.kind == 20) = true then _ else exT f 0 false a) ++ [40] ++ Lib.join [partT (typF f) (exT f) 0 x, partT (typF f) (exT f) 0 y] sComma ++ [41] = _
  rw [partT_ex hx, partT_ex hy, ha, if_neg (by simp)]
  simp [Lib.join, sComma]
theorem index_text (f : Nat) (a x : Nd) (ps : Int) (ha : a.kind = 18) (hx : exF f x = true) :
    exT (f + 1) 0 false (.mk 22 [] [a, x] ps) = exT f 0 false a ++ [91] ++ exT f 0 false x ++ [93] := by
  rw [exT_succ]
  unfold exT1
  rw [if_neg (by simp [Nd.kind]), if_neg (by simp [Nd.kind]), if_neg (by simp [Nd.kind]), if_neg (by simp [Nd.kind]), if_pos (by simp [Nd.kind])]
  unfold fstT othT brT
  show (if (a.kind == 19 || a.kind == 20) = true then _ else exT f 0 false a) ++ [91] ++ Lib.join [partT (typF f) (exT f) 0 x] sComma ++ [93] = _
  rw [partT_ex hx, ha, if_neg (by simp)]
  simp [Lib.join, sComma]
theorem field_text (f : Nat) (a : Nd) (ps : Int) (ha : a.kind = 18) :
    exT (f + 1) 0 false (.mk 23 [97] [a] ps) = exT f 0 false a ++ [46, 97] := by
  rw [exT_succ]
  unfold exT1
  rw [if_neg (by simp [Nd.kind]), if_neg (by simp [Nd.kind]), if_neg (by simp [Nd.kind]), if_neg (by simp [Nd.kind]), if_neg (by simp [Nd.kind]), if_pos (by simp [Nd.kind])]
  unfold fstT brT
  show (if (a.kind == 19 || a.kind == 20) = true then _ else exT f 0 false a) ++ [46] ++ [97] = _
  rw [ha, if_neg (by simp)]
  simp
end Go.Proofs.YthbmjamgidfneaaGreatDoor
