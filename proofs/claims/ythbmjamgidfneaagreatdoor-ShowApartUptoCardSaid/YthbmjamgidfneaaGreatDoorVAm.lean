import Derived.Test.YthbmjamgidfneaaGreatDoorVAb
import Derived.Test.YthbmjamgidfneaaGreatDoorVAf
import Derived.Test.YthbmjamgidfneaaGreatDoorVAj
import Derived.Test.YthbmjamgidfneaaGreatDoorVAl
import Derived.Test.YthbmjamgidfneaaGreatDoorVAi
import Derived.Test.YthbmjamgidfneaaGreatDoorVAh
import Derived.Test.YthbmjamgidfneaaGreatDoorVAe
set_option maxRecDepth 100000
set_option maxHeartbeats 6400000
namespace Go.Proofs.YthbmjamgidfneaaGreatDoor
open Go.RowKit Go.Lib Go.BigFrame
set_option linter.unusedVariables false
set_option linter.unusedSimpArgs false
theorem kid_size {t : Nd} {i : Nat} (h : i < t.kids.length) : (t.kid i).size < t.size := by
 have e : t.kid i = t.kids[i] := by unfold Nd.kid; rw [List.getD_eq_getElem?_getD, List.getElem?_eq_getElem h]; rfl
 rw [e]
 exact Nd.size_kid (List.getElem_mem h)
end Go.Proofs.YthbmjamgidfneaaGreatDoor
namespace Go.Proofs.YthbmjamgidfneaaGreatDoor
open Go.RowKit Go.Lib
def jn (p : Nd → List UInt8) (sep : List UInt8) (l : List Nd) (i : Nat) : List UInt8 := Lib.join ((l.take i).map p) sep
theorem jn_all (p : Nd → List UInt8) (sep : List UInt8) (l : List Nd) : jn p sep l l.length = Lib.join (l.map p) sep := by unfold jn; rw [List.take_length]
theorem jn_ne {p : Nd → List UInt8} {sep : List UInt8} {l : List Nd} (h : ∀ x ∈ l, p x ≠ []) : Lib.join (l.map p) sep = [] ↔ l = [] := by
 cases l with
 | nil => simp [Lib.join_nil]
 | cons a r =>
  rw [List.map_cons, Lib.join_cons]
  simp [h a (by simp)]
theorem ty_name_parts {f : Nat} {t : Nd} (h : tyF nmB (f + 1) t = true) (hk : t.kind = 10) : nmB t.text = true ∧ ∀ x ∈ t.kids, tyF nmB f x = true := by
 rw [tyF, if_pos hk] at h
 simp only [Bool.and_eq_true, List.all_eq_true] at h
 exact h
theorem ty_slice_parts {f : Nat} {t : Nd} (h : tyF nmB (f + 1) t = true) (hk : t.kind = 11) : t.kids.length = 1 ∧ tyF nmB f (t.kid 0) = true := by
 rw [tyF, if_neg (by omega), if_pos hk] at h
 obtain ⟨_, _, h3⟩ := ofB_parts h
 obtain ⟨x, hx, htx⟩ := one_kid h3
 rw [kid_one hx, hx]
 exact ⟨rfl, htx⟩
theorem ty_sig_parts {f : Nat} {t : Nd} (h : tyF nmB (f + 1) t = true) (hk : t.kind = 12) : sigB (tyF nmB f) noT t = true := by
 rw [tyF, if_neg (by omega), if_neg (by omega), if_pos hk] at h
 exact h
theorem typ_text10 {f : Nat} {t : Nd} (h : tyF nmB (f + 1) t = true) (hk : t.kind = 10) : typF (f + 1) t = t.text ++ (if jn (typF f) sComma t.kids t.kids.length = [] then [] else 91 :: (jn (typF f) sComma t.kids t.kids.length ++ [93])) := by
 rw [typF, if_neg (by omega), if_neg (by omega), jn_all]
 have hp := (ty_name_parts h hk).2
 have := jn_ne (sep := sComma) (p := typF f) (l := t.kids) fun x hx => ty_ne (hp x hx)
 by_cases hl : t.kids = []
 · rw [if_pos hl, if_pos (this.2 hl)]; simp
 · rw [if_neg hl, if_neg fun e => hl (this.1 e)]; simp
theorem typ_text11 {f : Nat} {t : Nd} (hk : t.kind = 11) : typF (f + 1) t = 91 :: 93 :: typF f (t.kid 0) := by rw [typF, if_pos hk]; rfl
theorem typ_text12 {f : Nat} {t : Nd} (h : tyF nmB (f + 1) t = true) (hk : t.kind = 12) : typF (f + 1) t = 102 :: 117 :: 110 :: 99 :: sigT (typF f) t := by
 rw [typF, if_neg (by omega), if_pos hk, sig_text (fun x hx => ty_ne hx) (ty_sig_parts h hk)]
 rfl
end Go.Proofs.YthbmjamgidfneaaGreatDoor
namespace Go.Proofs.YthbmjamgidfneaaGreatDoor
open Go.Lib
set_option linter.unusedVariables false
set_option linter.unusedSimpArgs false
inductive Md | o | b | s | n | q | e | x
 deriving DecidableEq
def sdO (m : Md) (c : UInt8) : Md :=
 if c = 10 then (if m = .b then .x else .n)
 else if c = 32 ∨ c = 9 then .b
 else if c = 34 then .q
 else if c = 47 then (if m = .s then .x else .s)
 else if c = 42 then (if m = .s then .x else .o)
 else if idB c = true ∨ [c] ∈ signs1 then .o
 else .x
def sd (m : Md) (c : UInt8) : Md := match m with
 | .x => .x
 | .q => if c = 34 then .o else if c = 92 then .e else if 32 ≤ c.toNat ∧ c.toNat ≤ 126 then .q else .x
 | .e => if 32 ≤ c.toNat ∧ c.toNat ≤ 126 then .q else .x
 | .o => sdO .o c
 | .b => sdO .b c
 | .s => sdO .s c
 | .n => sdO .n c
def rd (m : Md) (l : List UInt8) : Md := l.foldl sd m
def Out (m : Md) : Prop := m = .o ∨ m = .b ∨ m = .s ∨ m = .n
theorem sd_out {m : Md} (h : Out m) (c : UInt8) : sd m c = sdO m c := by rcases h with rfl | rfl | rfl | rfl <;> rfl
theorem rd_append (m : Md) (a b : List UInt8) : rd m (a ++ b) = rd (rd m a) b := List.foldl_append ..
theorem rd_cons (m : Md) (c : UInt8) (l : List UInt8) : rd m (c :: l) = rd (sd m c) l := rfl
theorem out_o : Out .o := .inl rfl
def Tx (l : List UInt8) : Prop := ∀ m, Out m → rd m l = .o
theorem Tx.go {a : List UInt8} (h : Tx a) {m : Md} (hm : Out m) (r : List UInt8) : rd m (a ++ r) = rd .o r := by rw [rd_append, h m hm]
theorem Tx.app {a b : List UInt8} (h : Tx a) (k : Tx b) : Tx (a ++ b) := fun m hm => by rw [h.go hm]; exact k _ out_o
theorem nmB_ids {s : List UInt8} (h : nmB s = true) : (∀ c ∈ s, idB c = true) ∧ s ≠ [] := by
 unfold nmB at h
 rw [Bool.and_eq_true] at h
 have h := h.2
 cases s with
 | nil => cases h
 | cons c l =>
  unfold nameB at h
  simp only [Bool.and_eq_true, List.all_eq_true] at h
  exact ⟨h.2, by simp⟩
theorem sd1 {m : Md} (hm : Out m) {c : UInt8} (h : [c] ∈ signs1 ∧ c ≠ 47 ∧ c ≠ 42) : sd m c = .o := by
 rw [sd_out hm]
 obtain ⟨h1, h2, h3⟩ := h
 have n : ∀ k : UInt8, [k] ∉ signs1 → c ≠ k := fun k hk e => hk (e ▸ h1)
 unfold sdO
 rw [if_neg (n 10 (by decide)), if_neg (fun h => h.elim (n 32 (by decide)) (n 9 (by decide))), if_neg (n 34 (by decide)), if_neg h2, if_neg h3, if_pos (.inr h1)]
theorem noT_tx : ∀ s, noT s = true → s = [] ∨ nmB s = true := fun s h => by
 unfold noT at h
 exact .inl (by simpa using h)
theorem nm_tx : ∀ s, nmB s = true → s = [] ∨ nmB s = true := fun s h => .inr h
theorem Tx.cons {c : UInt8} (h : [c] ∈ signs1 ∧ c ≠ 47 ∧ c ≠ 42) {l : List UInt8} (hl : Tx l) : Tx (c :: l) := fun m hm => by rw [rd_cons, sd1 hm h]; exact hl _ out_o
theorem bnd_nm {s : List UInt8} (h : bndB s = true) : nmB s = true := by
 unfold bndB at h
 rw [Bool.and_eq_true] at h
 exact h.1
def SimB (ex : Nd → Bool) (t : Nd) : Prop := shB ex t = true ∨ setB ex t = true ∨ incrB ex t = true ∨ callB ex t = true
theorem rng_ids {s : List UInt8} (h : rngB s = true) : ∀ c ∈ s, idB c = true ∨ c = 44 := by
 unfold rngB at h
 split at h
 · rw [Bool.and_eq_true] at h
   intro c hc
   have h1 := (nmB_ids h.1).1
   have h2 := (nmB_ids (bnd_nm h.2)).1
   rw [← List.takeWhile_append_dropWhile (p := (· != 44)) (l := s)] at hc
   rcases List.mem_append.1 hc with hc | hc
   · exact .inl (h1 c hc)
   · cases hd : s.dropWhile (· != 44) with
     | nil => rw [hd] at hc; cases hc
     | cons y l =>
      rw [hd] at hc h2
      have hy : y = 44 := by
       have := List.head?_dropWhile_not (· != 44) s
       rw [hd] at this
       simpa using this
      rcases List.mem_cons.1 hc with rfl | hc
      · exact .inr hy
      · exact .inl (h2 c (by simpa using hc))
 · simp only [Bool.or_eq_true, beq_iff_eq] at h
   intro c hc
   rcases h with rfl | h
   · cases hc
   · exact .inl ((nmB_ids (bnd_nm h)).1 c hc)
inductive Mo where
 | ty
 | tys
 | sig
 | pas
 | ex (m : Nat) (head : Bool) (deep : Nat)
 | lp (m : Nat) (head : Bool) (deep : Nat) (l : Nd)
 | un (head : Bool) (deep : Nat)
 | sf (head : Bool) (deep : Nat) (l : Nd)
 | ars (deep : Nat)
 | st (deep : Nat)
 | si (head : Bool) (deep : Nat)
 | bl (deep : Nat)
 | sts (deep : Nat)
abbrev Rd := Option (Nd × List UInt8)
def mkN (k : Int) (s : List UInt8) (l : List Nd) : Nd := .mk k s l 0
abbrev zN : Nd := Nd.zero
def idR (s : List UInt8) : List UInt8 := s.takeWhile idB
def idT (s : List UInt8) : List UInt8 := s.dropWhile idB
def tyC (c : UInt8) : Bool := letterB c.toNat || c == 91
def kVar : List UInt8 := [118, 97, 114]
def kIf : List UInt8 := [105, 102]
def kFor : List UInt8 := [102, 111, 114]
def kRange : List UInt8 := [114, 97, 110, 103, 101]
def kReturn : List UInt8 := [114, 101, 116, 117, 114, 110]
def kBreak : List UInt8 := [98, 114, 101, 97, 107]
def kCont : List UInt8 := [99, 111, 110, 116, 105, 110, 117, 101]
def kElse : List UInt8 := [32, 101, 108, 115, 101, 32]
def opAt : List UInt8 → Option (List UInt8 × List UInt8)
 | 32 :: r => if r.takeWhile (· != 32) ∈ binS then (match r.dropWhile (· != 32) with
  | _ :: r' => some (r.takeWhile (· != 32), r')
  | [] => none) else none
 | _ => none
def hexv (c : UInt8) : UInt8 := if c.toNat < 58 then c - 48 else c - 87
def uq : Nat → List UInt8 → Option (List UInt8 × List UInt8)
 | 0, _ => none
 | n + 1, s => match s with
  | [] => none
  | c :: r => if c = 34 then some ([], r)
   else if c = 92 then (match r with
    | 120 :: h :: l :: r' => (uq n r').map fun x => ((hexv h * 16 + hexv l) :: x.1, x.2)
    | d :: r' => (uq n r').map fun x => ((if d = 110 then 10 else if d = 116 then 9 else d) :: x.1, x.2)
    | [] => none)
   else (uq n r).map fun x => (c :: x.1, x.2)
mutual
def toTy : Nd → Nd
 | .mk k s l p => if k = 18 then .mk 10 s [] 0 else if k = 22 then .mk 10 (match l with | [] => [] | a :: _ => a.text) ((toTyL l).drop 1) 0 else .mk k s l p
def toTyL : List Nd → List Nd
 | [] => []
 | t :: r => toTy t :: toTyL r
end
def rngAt (s : List UInt8) : Option (List UInt8 × List UInt8) :=
 if idR s = kRange then some ([], (idT s).drop 1)
 else match idT s with
  | 44 :: 32 :: r => if (idT r).take 10 = [32, 58, 61, 32] ++ kRange ++ [32] then some (idR s ++ 44 :: idR r, (idT r).drop 10) else none
  | r => if r.take 10 = [32, 58, 61, 32] ++ kRange ++ [32] then some (idR s, r.drop 10) else none
def mp (f : Nd → Nd) (o : Rd) : Rd := o.map fun x => (f x.1, x.2)
def stepR (p : Mo → List UInt8 → Rd) : Mo → List UInt8 → Rd
 | .ty, s => match s with
  | 91 :: 93 :: r => mp (fun x => mkN 11 [] [x]) (p .ty r)
  | s => if idR s = wFunc then p .sig (idT s) else if idR s = [] then none else match idT s with
   | 91 :: r => (match p .tys r with
    | some (l, 93 :: r') => some (mkN 10 (idR s) l.kids, r')
    | _ => none)
   | r => some (mkN 10 (idR s) [], r)
 | .tys, s => match p .ty s with
  | some (x, 44 :: 32 :: r) => mp (fun y => mkN 0 [] (x :: y.kids)) (p .tys r)
  | some (x, r) => some (mkN 0 [] [x], r)
  | none => none
 | .sig, s => match s with
  | 40 :: r => (match (if r.head? = some 41 then some (mkN 0 [] [], r) else p .pas r) with
   | some (l, 41 :: r1) => (match r1 with
    | 32 :: c :: r2 => if tyC c = true then mp (fun x => mkN 12 [] [mkN 6 [] l.kids, x]) (p .ty (c :: r2)) else some (mkN 12 [] [mkN 6 [] l.kids, zN], r1)
    | _ => some (mkN 12 [] [mkN 6 [] l.kids, zN], r1))
   | _ => none)
  | _ => none
 | .pas, s => match (if idR s ≠ [] ∧ (idT s).head? = some 32 then mp (fun x => mkN 8 (idR s) [x]) (p .ty ((idT s).drop 1)) else mp (fun x => mkN 8 [] [x]) (p .ty s) : Rd) with
  | some (x, 44 :: 32 :: r) => mp (fun y => mkN 0 [] (x :: y.kids)) (p .pas r)
  | some (x, r) => some (mkN 0 [] [x], r)
  | none => none
 | .ex m head deep, s => match p (.un head deep) s with
  | some (u, r) => p (.lp m head deep u) r
  | none => none
 | .lp m head deep l, s => match opAt s with
  | some (o, r) => if m ≤ tightN o then (match p (.ex (tightN o + 1) head deep) r with
   | some (b, r') => p (.lp m head deep (mkN 20 o [l, b])) r'
   | none => none) else some (l, s)
  | none => some (l, s)
 | .un head deep, s => match s with
  | [] => none
  | c :: r => if c = 45 ∨ c = 33 then mp (fun x => mkN 19 [c] [x]) (p (.un head deep) r)
   else if c = 40 then (match p (.ex 1 false deep) r with
    | some (x, 41 :: r') => p (.sf head deep x) r'
    | _ => none)
   else if c = 34 then (match uq r.length r with
    | some (t, r') => p (.sf head deep (mkN 17 t [])) r'
    | none => none)
   else if c = 91 then (match p .ty (c :: r) with
    | some (x, 123 :: r') => (match p (.ars deep) r' with
     | some (l, 125 :: r2) => p (.sf head deep (mkN 24 [] (x :: l.kids))) r2
     | _ => none)
    | some (x, r') => some (x, r')
    | none => none)
   else if figB c.toNat = true then p (.sf head deep (mkN 16 (idR (c :: r)) [])) (idT (c :: r))
   else if letterB c.toNat = true then
    (if idR (c :: r) = wFunc then (match p .sig (idT (c :: r)) with
     | some (g, 32 :: 123 :: r') => (match p (.bl deep) (123 :: r') with
      | some (b, r2) => p (.sf head deep (mkN 25 [] [g, b])) r2
      | none => none)
     | x => x)
    else p (.sf head deep (mkN 18 (idR (c :: r)) [])) (idT (c :: r)))
   else none
 | .sf head deep l, s => match s with
  | [] => some (l, s)
  | c :: r => if c = 40 then (match p (.ars deep) r with
    | some (a, 41 :: r') => p (.sf head deep (mkN 21 [] (l :: a.kids))) r'
    | _ => none)
   else if c = 91 then (match p (.ars deep) r with
    | some (a, 93 :: r') => p (.sf head deep (mkN 22 [] (l :: a.kids))) r'
    | _ => none)
   else if c = 46 then p (.sf head deep (mkN 23 (idR r) [l])) (idT r)
   else if c = 123 ∧ head = false then (match p (.ars deep) r with
    | some (a, 125 :: r') => p (.sf head deep (mkN 24 [] (toTy l :: a.kids))) r'
    | _ => none)
   else some (l, s)
 | .ars deep, s => if s.head? = some 41 ∨ s.head? = some 93 ∨ s.head? = some 125 then some (mkN 0 [] [], s) else match p (.ex 1 false deep) s with
  | some (x, 44 :: 32 :: r) => mp (fun y => mkN 0 [] (x :: y.kids)) (p (.ars deep) r)
  | some (x, r) => some (mkN 0 [] [x], r)
  | none => none
 | .bl deep, s => match s with
  | 123 :: 10 :: r => (match p (.sts (deep + 1)) r with
   | some (l, r') => if r'.take deep = tabsT deep then (match r'.drop deep with
    | 125 :: r2 => some (mkN 36 [] l.kids, r2)
    | _ => none) else none
   | none => none)
  | _ => none
 | .sts deep, s => if s.take deep = tabsT deep then (match p (.st deep) (s.drop deep) with
   | some (x, 10 :: r) => mp (fun y => mkN 0 [] (x :: y.kids)) (p (.sts deep) r)
   | _ => none) else some (mkN 0 [] [], s)
 | .si head deep, s => match p (.ex 1 head deep) s with
  | some (e, r) => if r.take 4 = [32, 58, 61, 32] then mp (fun x => mkN 26 e.text [x]) (p (.ex 1 head deep) (r.drop 4))
   else if r.take 3 = [32, 61, 32] then mp (fun x => mkN 27 [] [e, x]) (p (.ex 1 head deep) (r.drop 3))
   else if r.take 2 = [43, 43] ∨ r.take 2 = [45, 45] then some (mkN 28 (r.take 2) [e], r.drop 2)
   else some (mkN 29 [] [e], r)
  | none => none
 | .st deep, s =>
  if idR s = kVar then
   (let n := idR ((idT s).drop 1)
    let r2 := idT ((idT s).drop 1)
    match (match r2 with
     | 32 :: c :: r3 => if tyC c = true then p .ty (c :: r3) else some (zN, r2)
     | _ => some (zN, r2)) with
   | some (x, r4) => if r4.take 3 = [32, 61, 32] then mp (fun e => mkN 5 n [x, e]) (p (.ex 1 false deep) (r4.drop 3)) else some (mkN 5 n [x, zN], r4)
   | none => none)
  else if idR s = kIf then (match p (.ex 1 true deep) ((idT s).drop 1) with
   | some (c, _ :: r2) => (match p (.bl deep) r2 with
    | some (b, r3) => if r3.take 6 = kElse then mp (fun e => mkN 30 [] [c, b, e]) (p (.st deep) (r3.drop 6)) else some (mkN 30 [] [c, b, zN], r3)
    | none => none)
   | _ => none)
  else if idR s = kFor then
   (let r1 := (idT s).drop 1
    if r1.head? = some 123 then mp (fun b => mkN 31 [] [zN, zN, zN, b]) (p (.bl deep) r1)
    else match rngAt r1 with
     | some (n, r2) => (match p (.ex 1 true deep) r2 with
      | some (e, _ :: r3) => mp (fun b => mkN 32 n [e, b]) (p (.bl deep) r3)
      | _ => none)
     | none => (match (if r1.head? = some 59 then some (zN, r1) else p (.si true deep) r1) with
      | some (i, 59 :: _ :: r2) => (match (if r2.head? = some 59 then some (zN, r2) else p (.ex 1 true deep) r2) with
       | some (c, _ :: _ :: r3) => (match (if r3.head? = some 123 then some (zN, 32 :: r3) else p (.si true deep) r3) with
        | some (q, _ :: r4) => mp (fun b => mkN 31 [] [i, c, q, b]) (p (.bl deep) r4)
        | _ => none)
       | _ => none)
      | some (i, _ :: r2) => mp (fun b => mkN 31 [] [zN, i.kid 0, zN, b]) (p (.bl deep) r2)
      | _ => none))
  else if idR s = kReturn then (match idT s with
   | 32 :: r => mp (fun e => mkN 33 [] [e]) (p (.ex 1 false deep) r)
   | r => some (mkN 33 [] [zN], r))
  else if idR s = kBreak then some (mkN 34 [] [], idT s)
  else if idR s = kCont then some (mkN 35 [] [], idT s)
  else if s.head? = some 123 then p (.bl deep) s
  else p (.si false deep) s
def P : Nat → Mo → List UInt8 → Rd
 | 0, _, _ => none
 | n + 1, m, s => stepR (P n) m s
def Ev (m : Mo) (s : List UInt8) (x : Nd) (r : List UInt8) : Prop := ∃ N, ∀ n, N ≤ n → P n m s = some (x, r)
theorem Ev.one {m : Mo} {s : List UInt8} {x y : Nd} {r q : List UInt8} (h : Ev m s x r) (k : Ev m s y q) : x = y ∧ r = q := by
 obtain ⟨N, h⟩ := h
 obtain ⟨M, k⟩ := k
 have h := h (N + M) (by omega)
 rw [k (N + M) (by omega)] at h
 simp only [Option.some.injEq, Prod.mk.injEq] at h
 exact ⟨h.1.symm, h.2.symm⟩
theorem Ev.of {m : Mo} {s : List UInt8} {x : Nd} {r : List UInt8} (h : ∃ N, ∀ n, N ≤ n → stepR (P n) m s = some (x, r)) : Ev m s x r := by
 obtain ⟨N, h⟩ := h
 refine ⟨N + 1, fun n hn => ?_⟩
 cases n with
 | zero => omega
 | succ n => exact h n (by omega)
def Go2 (m : Mo) (s : List UInt8) (m' : Mo) (s' : List UInt8) : Prop := ∀ y r, Ev m' s' y r → Ev m s y r
theorem Go2.trans {a b c : Mo} {s t u : List UInt8} (h : Go2 a s b t) (k : Go2 b t c u) : Go2 a s c u := fun y r e => h y r (k y r e)
def NI (r : List UInt8) : Prop := ∀ c, r.head? = some c → idB c = false
theorem ni_cons {c : UInt8} {r : List UInt8} (h : idB c = false) : NI (c :: r) := fun d hd => by
 rw [List.head?_cons] at hd
 injection hd with hd
 exact hd ▸ h
theorem idR_app {a r : List UInt8} (ha : ∀ c ∈ a, idB c = true) (hr : NI r) : idR (a ++ r) = a := by
 unfold idR
 rw [List.takeWhile_append_of_pos ha]
 cases r with
 | nil => simp
 | cons c r => rw [List.takeWhile_cons_of_neg (by rw [hr c rfl]; simp), List.append_nil]
theorem idT_app {a r : List UInt8} (ha : ∀ c ∈ a, idB c = true) (hr : NI r) : idT (a ++ r) = r := by
 unfold idT
 rw [List.dropWhile_append_of_pos ha]
 cases r with
 | nil => simp
 | cons c r => rw [List.dropWhile_cons_of_neg (by rw [hr c rfl]; simp)]
theorem idR_ni {r : List UInt8} (hr : NI r) : idR r = [] := idR_app (a := []) (by simp) hr
theorem idT_ni {r : List UInt8} (hr : NI r) : idT r = r := idT_app (a := []) (by simp) hr
structure FT (r : List UInt8) : Prop where
 ni : NI r
 br : r.head? ≠ some 91
 sp : ∀ c l, r = 32 :: c :: l → tyC c = false
theorem ft_cons {c : UInt8} {r : List UInt8} (h : idB c = false ∧ c ≠ 91 ∧ c ≠ 32) : FT (c :: r) :=
 ⟨ni_cons h.1, by simp [h.2.1], fun d l e => absurd (List.cons.inj e).1 h.2.2⟩
theorem join_two (x y : List UInt8) (r : List (List UInt8)) (sep : List UInt8) : Lib.join (x :: y :: r) sep = x ++ (sep ++ Lib.join (y :: r) sep) := by
 rw [Lib.join_cons, Lib.join_cons]
 unfold Lib.joinTail
 simp
theorem nmB_head {s : List UInt8} (h : nmB s = true) : ∃ c l, s = c :: l ∧ letterB c.toNat = true ∧ idB c = true := by
 obtain ⟨h1, h2⟩ := nmB_ids h
 cases s with
 | nil => exact absurd rfl h2
 | cons c l =>
  refine ⟨c, l, rfl, ?_, h1 c (by simp)⟩
  unfold nmB at h
  rw [Bool.and_eq_true] at h
  have h := h.2
  unfold nameB at h
  simp only [Bool.and_eq_true, Bool.not_eq_true', beq_iff_eq] at h
  have h3 := h1 c (by simp)
  unfold idB at h3
  rw [h.1.1, Bool.or_false] at h3
  exact h3
theorem nm_word {s : List UInt8} (h : nmB s = true) : s ∉ words1 ∧ s ∉ words2 := by
 unfold nmB at h
 rw [Bool.and_eq_true] at h
 have h := h.2
 cases s with
 | nil => cases h
 | cons c l =>
  unfold nameB at h
  simp only [Bool.and_eq_true, Bool.not_eq_true', beq_iff_eq] at h
  have h2 := h.1.2
  unfold wordK at h2
  by_cases h3 : c :: l ∈ words1
  · rw [if_pos h3] at h2; omega
  · rw [if_neg h3] at h2
    by_cases h4 : c :: l ∈ words2
    · rw [if_pos h4] at h2; omega
    · exact ⟨h3, h4⟩
theorem nm_not {s w : List UInt8} (h : nmB s = true) (hw : w ∈ words1) : s ≠ w := fun e => (nm_word h).1 (e ▸ hw)
theorem e_ty_nm (p : Mo → List UInt8 → Rd) (s : List UInt8) (h : s.head? ≠ some 91) : stepR p .ty s = (if idR s = wFunc then p .sig (idT s) else if idR s = [] then none else match idT s with
   | 91 :: r => (match p .tys r with
    | some (l, 93 :: r') => some (mkN 10 (idR s) l.kids, r')
    | _ => none)
   | r => some (mkN 10 (idR s) [], r)) := by
 show (match s with | 91 :: 93 :: r => _ | s => _) = _
 split
 · exact absurd rfl h
 · rfl
theorem ev_tys {p : Nd → List UInt8} : ∀ {l : List Nd}, (∀ x ∈ l, ∀ r, FT r → Ev .ty (p x ++ r) (strip x) r) → l ≠ [] → ∀ r, r.head? = some 93 → Ev .tys (Lib.join (l.map p) sComma ++ r) (mkN 0 [] (l.map strip)) r
 | [], _, h, _, _ => absurd rfl h
 | [x], h, _, r, hr => by
  obtain ⟨q, rfl⟩ : ∃ q, r = 93 :: q := by cases r with
   | nil => cases hr
   | cons c q => rw [List.head?_cons] at hr; injection hr with hr; subst hr; exact ⟨q, rfl⟩
  obtain ⟨N, h1⟩ := h x (by simp) (93 :: q) (ft_cons (by decide))
  refine Ev.of ⟨N, fun n hn => ?_⟩
  rw [List.map_cons, List.map_nil, Lib.join_one]
  show (match P n .ty _ with | some (x, 44 :: 32 :: r) => _ | some (x, r) => _ | none => _) = _
  rw [h1 n hn]
  rfl
 | x :: y :: l, h, _, r, hr => by
  obtain ⟨N, h1⟩ := h x (by simp) (44 :: 32 :: (Lib.join ((y :: l).map p) sComma ++ r)) (ft_cons (by decide))
  obtain ⟨M, h2⟩ := ev_tys (l := y :: l) (fun z hz => h z (by simp [hz])) (by simp) r hr
  refine Ev.of ⟨N + M, fun n hn => ?_⟩
  rw [List.map_cons, List.map_cons, join_two]
  show (match P n .ty _ with | some (x, 44 :: 32 :: r) => _ | some (x, r) => _ | none => _) = _
  rw [show (p x ++ (sComma ++ Lib.join (p y :: l.map p) sComma)) ++ r = p x ++ (44 :: 32 :: (Lib.join ((y :: l).map p) sComma ++ r)) by simp [sComma], h1 n (by omega)]
  show mp _ (P n .tys _) = _
  rw [h2 n (by omega)]
  rfl
theorem ev_pas {p : Nd → List UInt8} : ∀ {l : List Nd}, (∀ x ∈ l, ∃ y, x.kind = 8 ∧ x.kids = [y] ∧ (x.text = [] ∨ nmB x.text = true) ∧ (∀ r, FT r → Ev .ty (p y ++ r) (strip y) r) ∧ (∀ r, NI r → r.head? ≠ some 32 → ¬ (idR (p y ++ r) ≠ [] ∧ (idT (p y ++ r)).head? = some 32))) → l ≠ [] → ∀ r, r.head? = some 41 → Ev .pas (Lib.join (l.map (paT p)) sComma ++ r) (mkN 0 [] (l.map strip)) r := by
 have one : ∀ x y, x.kind = 8 → x.kids = [y] → (x.text = [] ∨ nmB x.text = true) → (∀ r, FT r → Ev .ty (p y ++ r) (strip y) r) → (∀ r, NI r → r.head? ≠ some 32 → ¬ (idR (p y ++ r) ≠ [] ∧ (idT (p y ++ r)).head? = some 32)) → ∀ r, FT r → r.head? ≠ some 32 → ∃ N, ∀ n, N ≤ n → (if idR (paT p x ++ r) ≠ [] ∧ (idT (paT p x ++ r)).head? = some 32 then mp (fun z => mkN 8 (idR (paT p x ++ r)) [z]) (P n .ty ((idT (paT p x ++ r)).drop 1)) else mp (fun z => mkN 8 [] [z]) (P n .ty (paT p x ++ r)) : Rd) = some (strip x, r) := by
  intro x y hk hy hx h1 h2 r hr hr32
  obtain ⟨N, h⟩ := h1 r hr
  have hs : strip x = mkN 8 x.text [strip y] := by rw [strip_eq, hk, hy]; rfl
  refine ⟨N, fun n hn => ?_⟩
  unfold paT
  rw [kid_one hy]
  by_cases e : x.text = []
  · rw [if_pos e, List.nil_append, if_neg (h2 r hr.ni hr32), h n hn, hs, e]; rfl
  · have hnm := hx.resolve_left e
    have hid := (nmB_ids hnm).1
    rw [if_neg e, show x.text ++ [32] ++ p y ++ r = x.text ++ (32 :: (p y ++ r)) by simp, idR_app hid (ni_cons (by decide)), idT_app hid (ni_cons (by decide)), if_pos ⟨e, rfl⟩]
    show mp _ (P n .ty (p y ++ r)) = _
    rw [h n hn, hs]
    rfl
 intro l
 induction l with
 | nil => exact fun _ h => absurd rfl h
 | cons x l ih =>
  intro h _ r hr
  obtain ⟨y, hk, hy, hx, h1, h2⟩ := h x (by simp)
  obtain ⟨q, rfl⟩ : ∃ q, r = 41 :: q := by cases r with
   | nil => cases hr
   | cons c q => rw [List.head?_cons] at hr; injection hr with hr; subst hr; exact ⟨q, rfl⟩
  cases l with
  | nil =>
   obtain ⟨N, h3⟩ := one x y hk hy hx h1 h2 (41 :: q) (ft_cons (by decide)) (by simp)
   refine Ev.of ⟨N, fun n hn => ?_⟩
   rw [List.map_cons, List.map_nil, Lib.join_one]
   unfold stepR
   simp only
   rw [h3 n hn]
   rfl
  | cons z l =>
   obtain ⟨N, h3⟩ := one x y hk hy hx h1 h2 (44 :: 32 :: (Lib.join ((z :: l).map (paT p)) sComma ++ 41 :: q)) (ft_cons (by decide)) (by simp)
   obtain ⟨M, h4⟩ := ih (fun u hu => h u (by simp [hu])) (by simp) (41 :: q) rfl
   refine Ev.of ⟨N + M, fun n hn => ?_⟩
   rw [List.map_cons, List.map_cons, join_two, show (paT p x ++ (sComma ++ Lib.join (paT p z :: l.map (paT p)) sComma)) ++ 41 :: q = paT p x ++ (44 :: 32 :: (Lib.join ((z :: l).map (paT p)) sComma ++ 41 :: q)) by simp [sComma]]
   unfold stepR
   simp only
   rw [h3 n (by omega)]
   show mp _ (P n .pas _) = _
   rw [h4 n (by omega)]
   rfl
theorem strip_sig {t l r : Nd} (hk : t.kind = 12) (ht : t.text = []) (hl : t.kids = [l, r]) (h6 : l.kind = 6) (hl2 : l.text = []) : strip t = mkN 12 [] [mkN 6 [] (l.kids.map strip), strip r] := by
 rw [strip_eq, hk, ht, hl, List.map_cons, List.map_cons, List.map_nil, strip_eq l, h6, hl2]
 rfl
theorem ev_sig {f : Nat} {so : List UInt8 → Bool} (hso : ∀ s, so s = true → s = [] ∨ nmB s = true) {t : Nd} (h : sigB (tyF nmB f) so t = true)
  (H : ∀ x, tyF nmB f x = true → ∀ r, FT r → Ev .ty (typF f x ++ r) (strip x) r) (H2 : ∀ x, tyF nmB f x = true → ∀ r, NI r → r.head? ≠ some 32 → ¬ (idR (typF f x ++ r) ≠ [] ∧ (idT (typF f x ++ r)).head? = some 32))
  (H3 : ∀ x, tyF nmB f x = true → ∃ c l, typF f x = c :: l ∧ tyC c = true) (r : List UInt8) (hr : FT r) : Ev .sig (sigT (typF f) t ++ r) (strip t) r := by
 obtain ⟨hk, ht, l, q, hkk, h6, hl2, hps, hq⟩ := sigB_parts h
 obtain ⟨e0, e1⟩ := kid_two hkk
 rw [strip_sig hk ht hkk h6 hl2]
 have key : ∃ N, ∀ n, N ≤ n → (if (Lib.join (l.kids.map (paT (typF f))) sComma ++ (41 :: ((if q.kind = 0 then [] else [32] ++ typF f q) ++ r))).head? = some 41 then some (mkN 0 [] [], Lib.join (l.kids.map (paT (typF f))) sComma ++ (41 :: ((if q.kind = 0 then [] else [32] ++ typF f q) ++ r))) else P n .pas (Lib.join (l.kids.map (paT (typF f))) sComma ++ (41 :: ((if q.kind = 0 then [] else [32] ++ typF f q) ++ r))) : Rd) = some (mkN 0 [] (l.kids.map strip), 41 :: ((if q.kind = 0 then [] else [32] ++ typF f q) ++ r)) := by
  by_cases e : l.kids = []
  · rw [e]
    exact ⟨0, fun n _ => rfl⟩
  · obtain ⟨N, h1⟩ := ev_pas (p := typF f) (l := l.kids) (fun x hx => by
     obtain ⟨g1, g2, y, hy, hy1⟩ := hps x hx
     exact ⟨y, g1, hy, hso _ g2, H y hy1, H2 y hy1⟩) e (41 :: ((if q.kind = 0 then [] else [32] ++ typF f q) ++ r)) rfl
    refine ⟨N, fun n hn => ?_⟩
    rw [if_neg, h1 n hn]
    cases hl : l.kids with
    | nil => exact absurd hl e
    | cons x xs =>
     obtain ⟨g1, g2, y, hy, hy1⟩ := hps x (by rw [hl]; simp)
     have hh : ∃ c m, paT (typF f) x = c :: m ∧ c ≠ 41 := by
      obtain ⟨c, m, hcm, hc⟩ := H3 y hy1
      have c41 : ∀ c : UInt8, tyC c = true → c ≠ 41 := fun c hc e => by subst e; revert hc; decide
      unfold paT
      rw [kid_one hy]
      by_cases e : x.text = []
      · rw [if_pos e, hcm]; exact ⟨c, m, rfl, c41 c hc⟩
      · rw [if_neg e]
        obtain ⟨c, m, hcm, hl, hi⟩ := nmB_head ((hso _ g2).resolve_left e)
        rw [hcm]
        exact ⟨c, _, rfl, fun e => by subst e; revert hi; decide⟩
     obtain ⟨c, m, hcm, hc⟩ := hh
     rw [List.map_cons, Lib.join_cons, hcm]
     intro he
     rw [List.cons_append, List.cons_append, List.head?_cons] at he
     injection he with he
     exact hc he
 obtain ⟨N, h1⟩ := key
 have es : sigT (typF f) t ++ r = 40 :: (Lib.join (l.kids.map (paT (typF f))) sComma ++ (41 :: ((if q.kind = 0 then [] else [32] ++ typF f q) ++ r))) := by
  unfold sigT
  rw [e0, e1]
  simp
 rw [es]
 by_cases e : q.kind = 0
 · refine Ev.of ⟨N, fun n hn => ?_⟩
   show (match (if (_ : List UInt8).head? = some 41 then some (mkN 0 [] [], _) else P n .pas _ : Rd) with | some (l, 41 :: r1) => _ | _ => none) = _
   rw [h1 n hn]
   have hz : strip q = zN := strip_empty (hq.elim id fun h => by have := tyF_kind h; omega)
   rw [hz]
   simp only [e, if_true, List.nil_append]
   have hsp := hr.sp
   match r, hsp with
   | [], _ => rfl
   | [c], _ =>
    show (match [c] with | 32 :: c :: r2 => _ | _ => _) = _
    split
    · rename_i e; exact absurd (List.cons.inj e).2 (by simp)
    · rfl
   | c :: d :: r, hsp =>
    by_cases hc : c = 32
    · subst hc
      show (if tyC d = true then _ else _) = _
      rw [if_neg (by rw [hsp d r rfl]; simp)]
      rfl
    · show (match c :: d :: r with | 32 :: c :: r2 => _ | _ => _) = _
      split
      · rename_i e; exact absurd (List.cons.inj e).1 hc
      · rfl
 · have hty := hq.resolve_left fun h => e (emptyB_kind h)
   obtain ⟨M, h2⟩ := H q hty r hr
   obtain ⟨c, m, hcm, hc⟩ := H3 q hty
   refine Ev.of ⟨N + M, fun n hn => ?_⟩
   show (match (if (_ : List UInt8).head? = some 41 then some (mkN 0 [] [], _) else P n .pas _ : Rd) with | some (l, 41 :: r1) => _ | _ => none) = _
   rw [h1 n (by omega)]
   simp only [e, if_false, List.cons_append, List.nil_append]
   have h3 := h2 n (by omega)
   rw [hcm, List.cons_append] at h3 ⊢
   show (if tyC c = true then mp _ (P n .ty (c :: (m ++ r))) else _) = _
   rw [if_pos hc, h3]
   rfl
theorem ty_head : ∀ (f : Nat) (t : Nd), tyF nmB f t = true → ∃ c l, typF f t = c :: l ∧ tyC c = true
 | 0, t, h => by cases h
 | f + 1, t, h => by
  rcases tyF_kind h with hk | hk | hk
  · obtain ⟨h1, _⟩ := ty_name_parts h hk
    obtain ⟨c, l, hc, hl, _⟩ := nmB_head h1
    rw [typ_text10 h hk, hc]
    exact ⟨c, _, rfl, by unfold tyC; rw [hl]; rfl⟩
  · rw [typ_text11 hk]; exact ⟨91, _, rfl, by decide⟩
  · rw [typ_text12 h hk]; exact ⟨102, _, rfl, by decide⟩
theorem ty_no32 : ∀ (f : Nat) (t : Nd), tyF nmB f t = true → ∀ r, NI r → r.head? ≠ some 32 → ¬ (idR (typF f t ++ r) ≠ [] ∧ (idT (typF f t ++ r)).head? = some 32)
 | 0, t, h => by cases h
 | f + 1, t, h => fun r hni hr => by
  rcases tyF_kind h with hk | hk | hk
  · obtain ⟨h1, _⟩ := ty_name_parts h hk
    rw [typ_text10 h hk]
    have hid := (nmB_ids h1).1
    intro hh
    split at hh
    · rw [List.append_nil, idT_app hid hni] at hh
      exact hr hh.2
    · rw [List.append_assoc, List.cons_append, idT_app hid (ni_cons (by decide))] at hh
      simp at hh
  · rw [typ_text11 hk, List.cons_append, idR_ni (ni_cons (by decide))]
    simp
  · rw [typ_text12 h hk]
    unfold sigT
    intro hh
    have e : ∀ x y z : List UInt8, 102 :: 117 :: 110 :: 99 :: ([40] ++ x ++ [41] ++ y) ++ z = [102, 117, 110, 99] ++ (40 :: (x ++ [41] ++ y ++ z)) := fun x y z => by simp
    rw [e, idT_app (by decide) (ni_cons (by decide))] at hh
    simp at hh
end Go.Proofs.YthbmjamgidfneaaGreatDoor
