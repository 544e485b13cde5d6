import Derived.Test.YthbmjamgidfneaaGreatDoorVAb
import Derived.Test.YthbmjamgidfneaaGreatDoorVAf
import Derived.Test.YthbmjamgidfneaaGreatDoorVAa
import Derived.Test.YthbmjamgidfneaaGreatDoorVAd
import Derived.Shelf.Vars
import Derived.Test.YthbmjamgidfneaaGreatDoorVAg
import Derived.Test.YthbmjamgidfneaaGreatDoorVAi
import Derived.Test.YthbmjamgidfneaaGreatDoorVAh
import Derived.Test.YthbmjamgidfneaaGreatDoorVAe
import Derived.Lib.IndexMore
set_option maxRecDepth 100000
set_option maxHeartbeats 6400000
namespace Go.Proofs.YthbmjamgidfneaaGreatDoor
open Go.RowKit Go.Lib
def MaxL (w : World) : Prop := 2 < w.heap.size ∧ ∃ m, w.cell? ⟨2, 0, none⟩ = some (.int .i64 m)
theorem MaxL.ext {F : Nat → Prop} {w w' : World} (h : MaxL w) (x : Ext F w w') (hF : ¬ F 2) : MaxL w' := by
 obtain ⟨h1, m, hm⟩ := h
 exact ⟨Nat.lt_of_lt_of_le h1 x.size, m, by rw [x.cell (p := ⟨2, 0, none⟩) h1 hF]; exact hm⟩
theorem maxL_of_shaped {w : World} (h : w.ShapedOpen Tryz.prog) : MaxL w := by
 obtain ⟨m, hm⟩ := Go.Proofs.cell_of_shapedOpen_int (g := 2) (zero := #[.int .i64 0]) (t := 3) h (of_decide_eq_true (by kernel_rfl)) (by kernel_rfl) rfl (by kernel_rfl) (by kernel_rfl) Tryz.underlying3
 exact ⟨World.block_lt_of_cell? w _ hm, m, hm⟩
end Go.Proofs.YthbmjamgidfneaaGreatDoor
namespace Go.Proofs.YthbmjamgidfneaaGreatDoor
open Go.RowKit Go.Lib Go.BigFrame
theorem maxL_later {w W : World} (h : MaxL w) (x : Ext none' w W) : MaxL W := h.ext x fun h => h
theorem unary_any (s : List UInt8) (w : World) : Calls Tryz.prog 148 #[.string ⟨s.toArray⟩] w (BoolP (unB s) w) := by
 show Calls Tryz.prog 148 #[_] w (BoolP (s == [45] || s == [33]) w)
 obtain ⟨q1, h1⟩ : ∃ q, (s == [45]) = q := ⟨_, rfl⟩
 obtain ⟨q2, h2⟩ : ∃ q, (s == [33]) = q := ⟨_, rfl⟩
 rw [h1, h2]
 cases q1
 all_goals
  go_enter Tryz.func148, Tryz.ntmps148
  go_wp2_with fail
  go_ret
  exact ⟨rfl, Ext.refl _ _⟩
theorem estr_any (s : List UInt8) (w : World) : Calls Tryz.prog 147 #[.string ⟨s.toArray⟩] w (BoolP (strB s) w) := by
 unfold strB
 by_cases h : s.length ≤ 1000
 · have q : (s.length : Int) ≤ 1000 := by omega
   rw [decide_eq_true h]
   clear h
   go_enter Tryz.func147, Tryz.ntmps147
   go_wp2_with fail
   go_ret
   exact ⟨by simp, Ext.refl _ _⟩
 · have q : ¬ (s.length : Int) ≤ 1000 := by omega
   rw [decide_eq_false h]
   clear h
   go_enter Tryz.func147, Tryz.ntmps147
   go_wp2_with fail
   go_ret
   exact ⟨by simp, Ext.refl _ _⟩
theorem inc1_any (s : List UInt8) (w : World) : Calls Tryz.prog 186 #[.string ⟨s.toArray⟩] w (BoolP (incB s) w) := by
 show Calls Tryz.prog 186 #[_] w (BoolP (s == [43, 43] || s == [45, 45]) w)
 obtain ⟨q1, h1⟩ : ∃ q, (s == [43, 43]) = q := ⟨_, rfl⟩
 obtain ⟨q2, h2⟩ : ∃ q, (s == [45, 45]) = q := ⟨_, rfl⟩
 rw [h1, h2]
 cases q1
 all_goals
  go_enter Tryz.func186, Tryz.ntmps186
  go_wp2_with fail
  go_ret
  exact ⟨rfl, Ext.refl _ _⟩
theorem bound_any (s : List UInt8) (w : World) : Calls Tryz.prog 185 #[.string ⟨s.toArray⟩] w (BoolP (bndB s) w) := by
 have CN := hid fun W => tname_any s W
 show Calls Tryz.prog 185 #[_] w (BoolP (nmB s && s != [95]) w)
 obtain ⟨q1, h1⟩ : ∃ q, nmB s = q := ⟨_, rfl⟩
 obtain ⟨q2, h2⟩ : ∃ q, (s != [95]) = q := ⟨_, rfl⟩
 rw [h1] at CN
 rw [h1, h2]
 clear h1
 go_enter Tryz.func185, Tryz.ntmps185
 go_wp2_with fail
 refine (CN.out _).mono ?_
 rintro e w1 ⟨rfl, X1⟩
 have X1 := hid X1
 cases q1
 all_goals
  go_wp2_with fail
  go_ret
  exact ⟨by have := h2; cases q2 <;> simp_all, X1.out⟩
theorem plain_so (w : World) : SoV plainP w (.func (.func 146) #[] #[]) :=
 ⟨_, _, rfl, Go.Proofs.enters_of Tryz.func146 (by kernel_rfl) rfl, fun s W hs _ => by
  exact (plain_any s W (by unfold bigD at hs; omega)).mono fun e w2 h => h⟩
theorem unary_so (w : World) : SoV unB w (.func (.func 148) #[] #[]) :=
 ⟨_, _, rfl, Go.Proofs.enters_of Tryz.func148 (by kernel_rfl) rfl, fun s W _ _ => unary_any s W⟩
theorem estr_so (w : World) : SoV strB w (.func (.func 147) #[] #[]) :=
 ⟨_, _, rfl, Go.Proofs.enters_of Tryz.func147 (by kernel_rfl) rfl, fun s W _ _ => estr_any s W⟩
theorem inc1_so (w : World) : SoV incB w (.func (.func 186) #[] #[]) :=
 ⟨_, _, rfl, Go.Proofs.enters_of Tryz.func186 (by kernel_rfl) rfl, fun s W _ _ => inc1_any s W⟩
theorem bound_so (w : World) : SoV bndB w (.func (.func 185) #[] #[]) :=
 ⟨_, _, rfl, Go.Proofs.enters_of Tryz.func185 (by kernel_rfl) rfl, fun s W _ _ => bound_any s W⟩
end Go.Proofs.YthbmjamgidfneaaGreatDoor
namespace Go.Proofs.YthbmjamgidfneaaGreatDoor
open Go.RowKit Go.Lib Go.BigFrame
set_option linter.unusedVariables false
set_option linter.unusedSimpArgs false
abbrev shV (deep : Nat) (head : Bool) : Value := .agg #[.int .i64 (deep : Nat), .bool head]
theorem ret_sh {fn : Func} {p : Tmp} (h : fn.results = #[.cell p 50]) {R : Ending → World → Prop} {a : Act} {w : World} {g : Nat} {y0 y1 : Value} {t : TypeId} {fr : Nat × Nat} (hp : a.tmps.getD p undef = .pointer (some ⟨g, 0, none⟩)) (hg : w.heap[g]? = some (.cells #[y0, y1] t fr))
  (hd : a.defers = []) (hR : R (.returned (.agg #[y0, y1])) w) : bodyPost Tryz.prog fn R .ret a w :=
 bodyPost_ret (results_cell_row h _ w g t _ fr _ hp hg Tryz.underlying50 rfl (by kernel_rfl)) hd hR
theorem set2n {w : World} {b : Nat} {x0 x1 : Value} {t : TypeId} {fz : Nat × Nat} (h : w.heap[b]? = some (.cells #[x0, x1] t fz)) (y0 y1 : Value) :
  ((w.setCell ⟨b, 0, none⟩ y0).setCell ⟨b, 1, none⟩ y1).heap[b]? = some (.cells #[y0, y1] t fz) := heap_setCell_same (heap_setCell_same h 0 y0) 1 y1
theorem Ext.set2 {F : Nat → Prop} {a w : World} (h : Ext F a w) {b : Nat} (hb : F b ∨ a.heap.size ≤ b) (y0 y1 : Value) : Ext F a ((w.setCell ⟨b, 0, none⟩ y0).setCell ⟨b, 1, none⟩ y1) := (h.setCell (p := ⟨b, 0, none⟩) hb y0).setCell (p := ⟨b, 1, none⟩) hb y1
def ShPost (deep : Nat) (head : Bool) (w : World) (e : Ending) (w' : World) : Prop := e = .returned (shV deep head) ∧ Ext none' w w'
theorem free_any (deep : Nat) (head : Bool) (w : World) : Calls Tryz.prog 50 #[shV deep head] w (ShPost deep false w) := by
 obtain ⟨B, hB⟩ : ∃ B, B = w.heap.size := ⟨_, rfl⟩
 obtain ⟨W1, hW1⟩ : ∃ W1, W1 = ((w.alloc (.cells #[.int .i64 (deep : Nat), .bool head] 50)).alloc (.cells #[.int .i64 0, .bool false] 50)) := ⟨_, rfl⟩
 have X1 := hid (show Ext none' w W1 by rw [hW1]; exact ((Ext.refl _ _).alloc _).alloc _)
 have G0 := hid (show W1.heap[B]? = some (.cells #[.int .i64 (deep : Nat), .bool head] 50 (0, 0)) by rw [hW1]; exact heap_alloc_keep (heap_alloc_at hB _) _)
 have G1 := hid (show W1.heap[B + 1]? = some (.cells #[.int .i64 0, .bool false] 50 (0, 0)) by rw [hW1]; exact heap_alloc_at (by rw [hB]; simp) _)
 have HB := hid hB
 go_enter Tryz.func50, Tryz.ntmps50
 go_upto_region 1 with (fail)
 rw [← hW1, ← hB]
 clear hW1 hB
 have c0 := cell_at G0.out 0
 have f0 := free_at G1.out 0
 have f1 := free_at G1.out 1
 have e0 := cell_at G1.out 0
 have e1 := cell_at G1.out 1
 simp only [List.getElem?_toArray, List.getElem?_cons_zero, List.getElem?_cons_succ] at c0 e0 e1
 go_wp2_with fail
 refine ret_sh rfl rfl (set2n G1.out _ _) rfl ?_
 exact ⟨rfl, X1.out.set2 (b := B + 1) (.inr (by have := HB.out; omega)) _ _⟩
theorem shin_any (deep : Nat) (hd : deep ≤ 1000000000) (head : Bool) (w : World) : Calls Tryz.prog 42 #[shV deep head] w (ShPost (deep + 1) false w) := by
 have hz : ((deep + 1 : Nat) : Int) = (deep : Int) + 1 := by omega
 unfold ShPost shV
 rw [hz]
 clear hz
 obtain ⟨B, hB⟩ : ∃ B, B = w.heap.size := ⟨_, rfl⟩
 obtain ⟨W1, hW1⟩ : ∃ W1, W1 = ((w.alloc (.cells #[.int .i64 (deep : Nat), .bool head] 50)).alloc (.cells #[.int .i64 0, .bool false] 50)) := ⟨_, rfl⟩
 have X1 := hid (show Ext none' w W1 by rw [hW1]; exact ((Ext.refl _ _).alloc _).alloc _)
 have G0 := hid (show W1.heap[B]? = some (.cells #[.int .i64 (deep : Nat), .bool head] 50 (0, 0)) by rw [hW1]; exact heap_alloc_keep (heap_alloc_at hB _) _)
 have G1 := hid (show W1.heap[B + 1]? = some (.cells #[.int .i64 0, .bool false] 50 (0, 0)) by rw [hW1]; exact heap_alloc_at (by rw [hB]; simp) _)
 have HB := hid hB
 go_enter Tryz.func42, Tryz.ntmps42
 go_upto_region 1 with (fail)
 rw [← hW1, ← hB]
 clear hW1 hB
 have c0 := cell_at G0.out 0
 have f0 := free_at G1.out 0
 have f1 := free_at G1.out 1
 have e0 := cell_at G1.out 0
 have e1 := cell_at G1.out 1
 simp only [List.getElem?_toArray, List.getElem?_cons_zero, List.getElem?_cons_succ] at c0 e0 e1
 go_wp2_with fail
 refine ret_sh rfl rfl (set2n G1.out _ _) rfl ?_
 exact ⟨rfl, X1.out.set2 (b := B + 1) (.inr (by have := HB.out; omega)) _ _⟩
theorem repeat_tab (n : Nat) : repeatL [9] n = tabsT n := by
 induction n with
 | zero => rfl
 | succ n ih => rw [repeatL, ih]; simp [tabsT, List.replicate_succ]
theorem line_any (deep : Nat) (hd : deep ≤ 1000000000) (head : Bool) (s : List UInt8) (hs : s.length ≤ 100000000000000) (w : World) : Calls Tryz.prog 43 #[shV deep head, .string ⟨s.toArray⟩] w (StrPost (lineT deep s) w) := by
 have CR := hid fun W => Tryz.strings_Repeat ⟨([9] : List UInt8).toArray⟩ deep W (by omega) (by rw [bsize]; simp only [List.length_cons, List.length_nil]; omega)
 have D1 : (⟨([9] : List UInt8).toArray⟩ : ByteArray).data.toList = [9] := rfl
 rw [D1, repeat_tab] at CR
 have hl := tabsT_len deep
 obtain ⟨r, hr⟩ : ∃ r, r = lineT deep s := ⟨_, rfl⟩
 rw [← hr]
 unfold lineT at hr
 obtain ⟨q, hq⟩ : ∃ q, tabsT deep = q := ⟨_, rfl⟩
 rw [hq] at CR hl hr
 have cat1 := str_cat q s
 have cat2 := str_cat (q ++ s) [10]
 have HR := hid hr
 clear hr hq D1
 go_enter Tryz.func43, Tryz.ntmps43
 go_wp2_with fail
 refine (CR.out _).mono ?_
 rintro e w1 ⟨rfl, X1⟩
 have X1 := hid (((Ext.refl none' w).alloc _).trans (Ext.of_below X1))
 go_wp2_with fail
 go_ret
 exact ⟨by rw [HR.out]; simp, X1.out⟩
theorem tight_any (s : List UInt8) (w : World) : Calls Tryz.prog 54 #[.string ⟨s.toArray⟩] w (IntP (tightN s : Nat) w) := by
 by_cases a1 : s = [42]
 · subst a1
   go_enter Tryz.func54, Tryz.ntmps54
   go_wp2_with fail
   go_ret
   exact ⟨rfl, Ext.refl _ _⟩
 by_cases a2 : s = [47]
 · subst a2
   go_enter Tryz.func54, Tryz.ntmps54
   go_wp2_with fail
   go_ret
   exact ⟨rfl, Ext.refl _ _⟩
 by_cases a3 : s = [37]
 · subst a3
   go_enter Tryz.func54, Tryz.ntmps54
   go_wp2_with fail
   go_ret
   exact ⟨rfl, Ext.refl _ _⟩
 by_cases a4 : s = [43]
 · subst a4
   go_enter Tryz.func54, Tryz.ntmps54
   go_wp2_with fail
   go_ret
   exact ⟨rfl, Ext.refl _ _⟩
 by_cases a5 : s = [45]
 · subst a5
   go_enter Tryz.func54, Tryz.ntmps54
   go_wp2_with fail
   go_ret
   exact ⟨rfl, Ext.refl _ _⟩
 by_cases a6 : s = [38, 38]
 · subst a6
   go_enter Tryz.func54, Tryz.ntmps54
   go_wp2_with fail
   go_ret
   exact ⟨rfl, Ext.refl _ _⟩
 by_cases a7 : s = [124, 124]
 · subst a7
   go_enter Tryz.func54, Tryz.ntmps54
   go_wp2_with fail
   go_ret
   exact ⟨rfl, Ext.refl _ _⟩
 have E : tightN s = 3 := by unfold tightN; rw [if_neg (by simp [a1, a2, a3]), if_neg (by simp [a4, a5]), if_neg a6, if_neg a7]
 rw [E]
 have b1 : (s == [42]) = false := by simpa using a1
 have b2 : (s == [47]) = false := by simpa using a2
 have b3 : (s == [37]) = false := by simpa using a3
 have b4 : (s == [43]) = false := by simpa using a4
 have b5 : (s == [45]) = false := by simpa using a5
 have b6 : (s == [38, 38]) = false := by simpa using a6
 have b7 : (s == [124, 124]) = false := by simpa using a7
 clear a1 a2 a3 a4 a5 a6 a7 E
 go_enter Tryz.func54, Tryz.ntmps54
 go_wp2_with fail
 go_ret
 exact ⟨rfl, Ext.refl _ _⟩
abbrev ExpH (f : Nat) : Prop := ∀ (deep : Nat) (head : Bool), deep + f ≤ 1200000 → ∀ (t : Nd), t.size ≤ f → exF f t = true → ∀ (v : Value) (w : World), MaxL w → NdV none' w t v → Calls Tryz.prog 23 #[shV deep head, v] w (StrPost (exT f deep head t) w)
abbrev StmH (f : Nat) : Prop := ∀ (deep : Nat), deep + f ≤ 1200000 → ∀ (t : Nd), t.size ≤ f → stF f t = true → ∀ (v : Value) (w : World), MaxL w → NdV none' w t v → Calls Tryz.prog 24 #[shV deep false, v] w (StrPost (stT f deep t) w)
end Go.Proofs.YthbmjamgidfneaaGreatDoor
namespace Go.Proofs.YthbmjamgidfneaaGreatDoor
open Go.RowKit Go.Lib
mutual
def strip : Nd → Nd
 | .mk k n l _ => .mk k n (stripL l) 0
def stripL : List Nd → List Nd
 | [] => []
 | t :: r => strip t :: stripL r
end
theorem stripL_map : ∀ l : List Nd, stripL l = l.map strip
 | [] => rfl
 | t :: r => by rw [stripL, stripL_map r, List.map_cons]
theorem strip_eq (t : Nd) : strip t = .mk t.kind t.text (t.kids.map strip) 0 := by
 cases t with
 | mk k n l p => rw [strip, stripL_map]; rfl
theorem strip_kind (t : Nd) : (strip t).kind = t.kind := by cases t; rfl
theorem strip_empty {t : Nd} (h : emptyB t = true) : strip t = Nd.zero := by
 unfold emptyB at h
 simp only [Bool.and_eq_true, beq_iff_eq, List.isEmpty_iff] at h
 rw [strip_eq, h.1.1, h.1.2, h.2]; rfl
def samesN (p : Nd → Nd → Bool) : List Nd → List Nd → Bool
 | [], [] => true
 | a :: l, b :: m => p a b && samesN p l m
 | _, _ => false
def sameN : Nat → Nd → Nd → Bool
 | 0, _, _ => false
 | f + 1, a, b => a.kind == b.kind && (a.text == b.text && samesN (sameN f) a.kids b.kids)
theorem samesN_len {p : Nd → Nd → Bool} : ∀ {l m : List Nd}, l.length ≠ m.length → samesN p l m = false
 | [], [], h => absurd rfl h
 | [], _ :: _, _ => rfl
 | _ :: _, [], _ => rfl
 | a :: l, b :: m, h => by
  rw [samesN, samesN_len (fun e => h (by simp [e])), Bool.and_false]
theorem samesN_bad {p : Nd → Nd → Bool} : ∀ {l m : List Nd} {i : Nat} (h1 : i < l.length) (h2 : i < m.length), p l[i] m[i] = false → samesN p l m = false
 | [], _, _, h1, _, _ => by simp at h1
 | _ :: _, [], _, _, h2, _ => by simp at h2
 | a :: l, b :: m, 0, _, _, h => by simp at h; simp [samesN, h]
 | a :: l, b :: m, i + 1, h1, h2, h => by
  simp only [List.getElem_cons_succ] at h
  rw [samesN, samesN_bad _ _ h, Bool.and_false]
theorem samesN_good {p : Nd → Nd → Bool} : ∀ {l m : List Nd}, l.length = m.length → (∀ (i : Nat) (h1 : i < l.length) (h2 : i < m.length), p l[i] m[i] = true) → samesN p l m = true
 | [], [], _, _ => rfl
 | [], _ :: _, h, _ => by simp at h
 | _ :: _, [], h, _ => by simp at h
 | a :: l, b :: m, hl, h => by
  have h0 : p a b = true := h 0 (by simp) (by simp)
  rw [samesN, h0, samesN_good (by simpa using hl) fun i h1 h2 => h (i + 1) (by simpa using h1) (by simpa using h2)]
  rfl
def depD : Nat → Nd → Nat
 | 0, _ => 0
 | f + 1, t => (t.kids.map (depD f)).foldr max 0 + 1
theorem foldr_le : ∀ {l : List Nat} {x : Nat}, x ∈ l → x ≤ l.foldr max 0
 | a :: r, x, h => by
  rw [List.foldr_cons]
  rcases List.mem_cons.1 h with rfl | h
  · omega
  · have := foldr_le h; omega
theorem depD_kid {f : Nat} {t x : Nd} (h : x ∈ t.kids) : depD f x + 1 ≤ depD (f + 1) t := by
 have := foldr_le (List.mem_map_of_mem (f := depD f) h)
 rw [depD]; omega
theorem strip_kids (t : Nd) : (strip t).kids = t.kids.map strip := by rw [strip_eq]; rfl
theorem strip_text (t : Nd) : (strip t).text = t.text := by cases t; rfl
theorem typF_ne {nm : List UInt8 → Bool} (hnm : nm [] = false) {f : Nat} {t : Nd} (h : tyF nm f t = true) : typF f t ≠ [] := by
 cases f with
 | zero => cases h
 | succ f =>
  rw [tyF] at h
  rw [typF]
  split at h
  · rename_i hk
    rw [if_neg (by omega), if_neg (by omega)]
    simp only [Bool.and_eq_true] at h
    have hn : t.text ≠ [] := by intro e; rw [e, hnm] at h; exact absurd h.1 (by simp)
    split
    · exact hn
    · simp
  · split at h
    · rename_i hk
      rw [if_pos hk]; simp
    · split at h
      · rename_i hk
        rw [if_neg (by omega), if_pos hk]
        unfold sigF betw
        intro e
        have h2 : (Lib.join (List.filter (fun p : List UInt8 => !p.isEmpty) [([102, 117, 110, 99, 40] ++ Lib.join ((t.kid 0).kids.map (parF (typF f))) sComma) ++ [41], optT (typF f) (t.kid 1)]) [32]).length = 0 := by rw [e]; rfl
        rw [List.filter_cons_of_pos (by simp)] at h2
        rw [Lib.join_length] at h2
        simp [Lib.lens] at h2
      · cases h
theorem maxN_cons (a : Nat) (l : List Nat) : maxN (a :: l) = max (102 - a) (maxN l) := by
 unfold maxN
 rw [List.foldl_cons]
 have key : ∀ (l : List Nat) (a b : Nat), l.foldl (fun a x => max a (102 - x)) (max a b) = max a (l.foldl (fun a x => max a (102 - x)) b) := by
  intro l
  induction l with
  | nil => intro a b; rfl
  | cons x r ih => intro a b; rw [List.foldl_cons, List.foldl_cons, Nat.max_assoc, ih]
 rw [Nat.max_comm 0, key]
theorem maxN_append (l m : List Nat) : maxN (l ++ m) = max (maxN l) (maxN m) := by
 induction l with
 | nil => simp [maxN]
 | cons a r ih => rw [List.cons_append, maxN_cons, maxN_cons, ih, Nat.max_assoc]
theorem depN_pre : ∀ (f : Nat) (t : Nd), f ≤ 101 → maxN (preL f t) = if f = 0 then 0 else depD f t + (101 - f)
 | 0, _, _ => rfl
 | f + 1, t, hf => by
  rw [preL, maxN_cons, if_neg (by omega), depD]
  have key : ∀ l : List Nd, maxN ((l.map (preL f)).flatten) ≤ (l.map (depD f)).foldr max 0 + (101 - f) ∧ (l ≠ [] → f ≠ 0 → maxN ((l.map (preL f)).flatten) = (l.map (depD f)).foldr max 0 + (101 - f)) ∧ (f = 0 → maxN ((l.map (preL f)).flatten) = 0) := by
   intro l
   induction l with
   | nil => exact ⟨by simp [maxN], fun h => absurd rfl h, fun _ => rfl⟩
   | cons a r ih =>
    rw [List.map_cons, List.flatten_cons, maxN_append, List.map_cons, List.foldr_cons, depN_pre f a (by omega)]
    obtain ⟨h1, h2, h3⟩ := ih
    refine ⟨?_, fun _ h0 => ?_, fun h0 => ?_⟩
    · split <;> omega
    · rw [if_neg h0]
      by_cases hr : r = []
      · subst hr; simp [maxN]
      · rw [h2 hr h0]; omega
    · rw [if_pos h0, h3 h0]; rfl
  obtain ⟨h1, h2, h3⟩ := key t.kids
  by_cases hk : t.kids = []
  · rw [hk]; simp [maxN]; omega
  · by_cases h0 : f = 0
    · rw [h3 h0]
      subst h0
      have : (t.kids.map (depD 0)).foldr max 0 = 0 := by
       generalize t.kids = l
       induction l with
       | nil => rfl
       | cons a r ih => rw [List.map_cons, List.foldr_cons, ih]; rfl
      rw [this]
      decide
    · rw [h2 hk h0]; omega
theorem depthN_dep (t : Nd) : depthN t = depD 101 t := by
 unfold depthN
 rw [depN_pre 101 t (by omega)]
 simp
end Go.Proofs.YthbmjamgidfneaaGreatDoor
namespace Go.Proofs.YthbmjamgidfneaaGreatDoor
open Go.RowKit Go.Lib Go.BigFrame
set_option linter.unusedVariables false
set_option linter.unusedSimpArgs false
theorem typ_sig (f : Nat) (hf : f + 1 ≤ bigD) (so : List UInt8 → Bool) (hso : ∀ s, so s = true → s.length ≤ 100) (t : Nd) (hts : t.size ≤ f + 1) (htt : sigB (tyF nmB f) so t = true) (v : Value) (w : World) (hv : NdV none' w t v) : Calls Tryz.prog 22 #[v] w (StrPost (sigF (typF f) t) w) := by
 have H := typ_any f (by omega)
 obtain ⟨x, rfl, hx⟩ := hv
 have HX := hid hx
 have hkl : t.kids.length ≤ bigD := by have := t.kids_len; omega
 have HLEN := hid fun y (h1 : y.size ≤ f) h2 => typF_len nmB_len f y h2 h1
 have hsz : t.size ≤ 20000000000 := by unfold bigD at hf; omega
 obtain ⟨a1, cap1, rfl, _⟩ := hx
 obtain ⟨r, hr⟩ : ∃ r, r = sigF (typF f) t := ⟨_, rfl⟩
 rw [← hr]
 have HG := hid (heap_alloc_at (w := w) rfl (.cells #[.int .i64 t.kind, .string ⟨t.text.toArray⟩, .slice a1 t.kids.length cap1, .int .i64 t.pos] 24))
 obtain ⟨tk, htk⟩ : ∃ tk, t.kind = tk := ⟨_, rfl⟩
 rw [htk] at HG ⊢
 have h12 : tk = 12 := by rw [← htk]; exact (sigB_parts htt).1
 subst h12
 obtain ⟨l, rr, hk, hlk, hlt, hps, hrr⟩ := (sigB_parts htt).2.2
 have hll : t.kids.length = 2 := by rw [hk]; rfl
 have hl0 : 0 < t.kids.length := by omega
 have hl1 : 1 < t.kids.length := by omega
 have e0 : t.kid 0 = l := by unfold Nd.kid; rw [hk]; rfl
 have e1 : t.kid 1 = rr := by unfold Nd.kid; rw [hk]; rfl
 have hsl : l.size < t.size := Nd.size_kid (t := t) (x := l) (by rw [hk]; simp)
 have hsr : rr.size < t.size := Nd.size_kid (t := t) (x := rr) (by rw [hk]; simp)
 obtain ⟨L1, L2, L3, L4⟩ := sigF_len (p := typF f) hso htt fun x hx htx => HLEN.out x (by omega) htx
 rw [e0] at L2 L4
 rw [e1] at L3
 have HP : ∀ (i : Nat) (h : i < l.kids.length), ParD (TyD f) (typF f) l.kids[i] := fun i hi => by
  obtain ⟨_, h2, y, hy, hty⟩ := hps _ (List.getElem_mem hi)
  have e : l.kids[i].kid 0 = y := by unfold Nd.kid; rw [hy]; rfl
  have s1 := Nd.size_kid (List.getElem_mem hi)
  have s2 : y.size < l.kids[i].size := Nd.size_kid (by rw [hy]; simp)
  have := HLEN.out y (by omega) hty
  refine ⟨by rw [hy]; simp, by rw [e]; exact ⟨by omega, hty⟩, ?_⟩
  have h2' := hso _ h2
  rw [e]
  omega
 have hlk : l.kids.length ≤ bigD := by have := l.kids_len; unfold bigD at hf ⊢; omega
 have hls := lens_size (p := parF (typF f)) L4
 have hsz2 := Nd.sizeL_len l.kids
 have hslL : Nd.sizeL l.kids < l.size := by
  cases l with
  | mk k n kids ps => simp only [Nd.size, Nd.kids]; omega
 have CE := hid fun W u v' (hv' : IsSl 4 IsNd none' W v' l.kids) (hu : TellV (ParD (TyD f) (typF f)) (parF (typF f)) W u) => each_any _ _ sComma l.kids v' u W hv' hu HP hlk (by
  have hc : sComma.length = 2 := rfl
  rw [hc]; omega)
 have CP := hid fun W u v' (hv' : NdV none' W (t.kid 1) v') (hu : TellV (TyD f) (typF f) W u) => optional_any (TyD f) (typF f) (t.kid 1) v' u W hv' hu (fun hk => by
  rw [e1] at hk ⊢
  rcases hrr with hrr | hrr
  · exact absurd (emptyB_kind hrr) hk
  · exact ⟨by omega, hrr⟩)
 have TT := hid fun W => typ_tell H W
 have TP := hid fun W => param_tell H W
 unfold sigF at hr
 rw [e0] at hr
 obtain ⟨qj, hqj⟩ : ∃ q, Lib.join (l.kids.map (parF (typF f))) sComma = q := ⟨_, rfl⟩
 obtain ⟨qo, hqo⟩ : ∃ q, optT (typF f) (t.kid 1) = q := ⟨_, rfl⟩
 rw [hqj] at hr CE L2
 rw [hqo] at hr CP
 rw [e1] at hqo
 rw [hqo] at L3
 have hqjl : qj.length ≤ 10000000000000 := by omega
 have hqol : qo.length ≤ 10000000000000 := by omega
 have CB := hid fun W u (hu : IsStrs none' W u [([102, 117, 110, 99, 40] ++ qj) ++ [41], qo]) => between_any [32] _ u W hu (by simp) (by simp [Lib.lens]; omega)
 rw [← hr] at CB
 have cat1 := str_cat [102, 117, 110, 99, 40] qj
 have cat2 := str_cat ([102, 117, 110, 99, 40] ++ qj) [41]
 have HCE : Hid (l.kids = (t.kid 0).kids) := hid (by rw [e0])
 rw [HCE.out] at CE
 have hll1 : (0 : Int) < (t.kids.length : Int) := by omega
 have hll2 : (1 : Int) < (t.kids.length : Int) := by omega
 clear hr hqj hqo e0 e1 hsl hsr L1 L2 L3 L4 HP hlk hls hsz2 hslL HCE hk hll hps hrr hlt htt HLEN H hf hts hsz htk
 go_enter Tryz.func22, Tryz.ntmps22
 go_upto_region 5 with (fail)
 obtain ⟨W1, hW1⟩ : ∃ W1, W1 = w.alloc (.cells #[.int .i64 12, .string ⟨t.text.toArray⟩, .slice a1 t.kids.length cap1, .int .i64 t.pos] 24) := ⟨_, rfl⟩
 rw [← hW1] at HG ⊢
 have X1 := hid (show Ext none' w W1 by rw [hW1]; exact (Ext.refl _ _).alloc _)
 have HX := hid (HX.out.ext isNd_good X1.out fun _ _ h => h)
 obtain ⟨b, off, x0, rfl, hbw, k0, k1, k2, k3, hx0⟩ := kid_val HX.out 0 hl0
 simp only [Nat.zero_mul, Nat.add_zero] at k0 k1 k2 k3
 obtain ⟨b', off', x1, e5, hbw', j0, j1, j2, j3, hx1⟩ := kid_val HX.out 1 hl1
 injection e5 with e5
 injection e5 with e5 e6
 subst e5 e6
 have HX0 := hid hx0
 have HX1 := hid hx1
 obtain ⟨a2, cap2, rfl, _⟩ := hx0
 obtain ⟨a3, cap3, rfl, _⟩ := hx1
 simp only [Nat.one_mul] at j0 j1 j2 j3
 have y2 := fun t' : LaterF none' W1 => cell_at (t'.x.heap HG.out fun h => h) 2
 have z2 := fun t' : LaterF none' W1 => (t'.x.cell (p := ⟨b, off + 2, none⟩) hbw (fun h => h)).trans k2
 have i0 := fun t' : LaterF none' W1 => (t'.x.cell (p := ⟨b, off + 4, none⟩) hbw (fun h => h)).trans j0
 have i1 := fun t' : LaterF none' W1 => (t'.x.cell (p := ⟨b, off + 4 + 1, none⟩) hbw (fun h => h)).trans j1
 have i2 := fun t' : LaterF none' W1 => (t'.x.cell (p := ⟨b, off + 4 + 2, none⟩) hbw (fun h => h)).trans j2
 have i3 := fun t' : LaterF none' W1 => (t'.x.cell (p := ⟨b, off + 4 + 3, none⟩) hbw (fun h => h)).trans j3
 simp only [List.getElem?_toArray, List.getElem?_cons_zero, List.getElem?_cons_succ] at y2
 clear hW1 k0 k1 k2 k3 j0 j1 j2 j3
 refine region_q none' W1 (.qs [0, 1, 2, 3, 4, 8, 9, 10, 11] (.one 5 true (.qs [6, 7] (.one 12 true (.one 13 false (.one 14 false (.one 15 false .fin))))))) (by kernel_rfl) (by kernel_rfl) (fun dst v c a w h => by cases dst <;> exact h) ?_
 refine ⟨In.of (Ext.refl _ _).drew, ?_⟩
 change wpQuiet _ _ (fun w' => ∃ t : LaterF none' W1, w' = t.w) _ _ _
 simp only [sel, List.getElem?_cons_succ, List.getElem?_cons_zero]
 repeat (go_big_quiet_step (fail))
 refine wpQuiet_nil ?_
 simp only [wpTreeQ, stepT, sel, List.getElem?_cons_succ, List.getElem?_cons_zero]
 have D1 := hid (Ext.refl none' W1).drew
 clear y2 z2 i0 i1 i2 i3
 go_wp2_with fail
 refine (CE.out _ _ _ (HX0.out.ext isNd_good D1.out fun _ _ h => h) (TP.out _)).mono ?_
 rintro e w2 ⟨rfl, X2⟩
 have X2 := hid (D1.out.trans X2)
 go_wp2_with fail
 refine ⟨In.of X2.out, In.of X2.out, ?_⟩
 change wpQuiet _ _ (fun w' => ∃ t : LaterF none' W1, w' = t.w) _ _ _
 repeat (go_big_quiet_step (fail))
 refine wpQuiet_nil ?_
 go_wp2_with fail
 refine (CP.out _ _ _ ⟨_, rfl, HX1.out.ext isNd_good X2.out fun _ _ h => h⟩ (TT.out _)).mono ?_
 rintro e w3 ⟨rfl, X3⟩
 have X3 := hid (X2.out.trans X3)
 go_wp2_with fail
 refine ⟨In.of X3.out, ?_⟩
 go_wp2_with fail
 have Y := hid ((Ext.refl none' w3).alloc (.cells #[.string ⟨(([102, 117, 110, 99, 40] ++ qj) ++ [41]).toArray⟩, .string ⟨qo.toArray⟩] 9))
 refine (CB.out _ _ (isStrs_two (heap_alloc_at rfl _))).mono ?_
 rintro e w4 ⟨rfl, X4⟩
 have X4 := hid (X1.out.trans (X3.out.trans (Y.out.trans X4)))
 go_wp2_with fail
 go_ret
 exact ⟨rfl, X4.out⟩
theorem sig_text {f : Nat} {so : List UInt8 → Bool} {t : Nd} (hty : ∀ x, tyF nmB f x = true → typF f x ≠ []) (htt : sigB (tyF nmB f) so t = true) : sigF (typF f) t = wFunc ++ sigT (typF f) t := by
 obtain ⟨_, _, l, r, hk, _, _, hps, hr⟩ := sigB_parts htt
 obtain ⟨e0, e1⟩ := kid_two hk
 have hpar : l.kids.map (parF (typF f)) = l.kids.map (paT (typF f)) := List.map_congr_left fun p hp => by
  obtain ⟨_, _, y, hy, hyt⟩ := hps p hp
  have hn := hty y hyt
  unfold parF paT betw
  rw [kid_one hy]
  by_cases hp0 : p.text = []
  · rw [hp0, if_pos rfl, List.filter_cons_of_neg (by simp), List.filter_cons_of_pos (by simpa using hn)]
    simp [Lib.join]
  · rw [if_neg hp0, List.filter_cons_of_pos (by simpa using hp0), List.filter_cons_of_pos (by simpa using hn)]
    simp [Lib.join]
 unfold sigF sigT optT betw
 rw [e0, e1, hpar]
 by_cases hr0 : r.kind = 0
 · rw [if_pos hr0, if_pos hr0, List.filter_cons_of_pos (by simp), List.filter_cons_of_neg (by simp)]
   simp [Lib.join, wFunc]
 · rw [if_neg hr0, if_neg hr0]
   have hn : typF f r ≠ [] := by
    rcases hr with hr | hr
    · exact absurd (emptyB_kind hr) hr0
    · exact hty r hr
   rw [List.filter_cons_of_pos (by simp), List.filter_cons_of_pos (by simpa using hn)]
   simp [Lib.join, wFunc]
theorem nmB_nil' : nmB [] = false := by decide
theorem ty_ne {f : Nat} {x : Nd} (h : tyF nmB f x = true) : typF f x ≠ [] := typF_ne nmB_nil' h
theorem trim_func (s : List UInt8) : trimPrefix (wFunc ++ s) wFunc = s := by
 unfold trimPrefix hasPrefix
 have : wFunc.isPrefixOf (wFunc ++ s) = true := List.isPrefixOf_iff_prefix.2 ⟨s, rfl⟩
 rw [this, if_pos rfl, List.drop_left]
theorem signature_any (f : Nat) (hf : f + 1 ≤ bigD) (t : Nd) (hts : t.size ≤ f + 1) (htt : sigB (tyF nmB f) nmB t = true) (v : Value) (w : World) (hv : NdV none' w t v) : Calls Tryz.prog 40 #[v] w (StrPost (sigT (typF f) t) w) := by
 have CT := hid fun W (X : Ext none' w W) => typ_sig f hf nmB nmB_len t hts htt v W (hv.ext X fun _ _ h => h)
 rw [sig_text (fun x hx => ty_ne hx) htt] at CT
 obtain ⟨q, hq⟩ : ∃ q, sigT (typF f) t = q := ⟨_, rfl⟩
 rw [hq] at CT ⊢
 have CP := hid fun W => Tryz.strings_TrimPrefix ⟨(wFunc ++ q).toArray⟩ ⟨wFunc.toArray⟩ W
 have D1 : (⟨(wFunc ++ q).toArray⟩ : ByteArray).data.toList = wFunc ++ q := rfl
 have D2 : (⟨wFunc.toArray⟩ : ByteArray).data.toList = wFunc := rfl
 rw [D1, D2, trim_func] at CP
 obtain ⟨y, rfl, hy⟩ := hv
 obtain ⟨a1, cap1, rfl, _⟩ := hy
 obtain ⟨p, hp⟩ : ∃ p, wFunc ++ q = p := ⟨_, rfl⟩
 rw [hp] at CT CP
 clear hq D1 D2 hp htt hts hf
 go_enter Tryz.func40, Tryz.ntmps40
 go_wp2_with fail
 refine (CT.out _ ((Ext.refl _ _).alloc _)).mono ?_
 rintro e w1 ⟨rfl, X1⟩
 have X1 := hid (((Ext.refl none' w).alloc _).trans X1)
 go_wp2_with fail
 refine (CP.out _).mono ?_
 rintro e w2 ⟨rfl, rfl⟩
 go_wp2_with fail
 go_ret
 exact ⟨rfl, X1.out⟩
end Go.Proofs.YthbmjamgidfneaaGreatDoor
namespace Go.Proofs.YthbmjamgidfneaaGreatDoor
open Go.RowKit Go.Lib Go.BigFrame
structure SgM (w : World) (b off : Nat) (k0 k1 k2 m0 m1 m2 m3 : Value) : Prop where
 k0 : w.cell? ⟨b, off, none⟩ = some k0
 k1 : w.cell? ⟨b, off + 1, none⟩ = some k1
 k2 : w.cell? ⟨b, off + 2, none⟩ = some k2
 m0 : w.cell? ⟨b, off + 4, none⟩ = some m0
 m1 : w.cell? ⟨b, off + 4 + 1, none⟩ = some m1
 m2 : w.cell? ⟨b, off + 4 + 2, none⟩ = some m2
 m3 : w.cell? ⟨b, off + 4 + 3, none⟩ = some m3
def opsL : List UInt8 := [32, 43, 32, 45, 32, 42, 32, 47, 32, 37, 32, 61, 61, 32, 33, 61, 32, 60, 32, 60, 61, 32, 62, 32, 62, 61, 32, 38, 38, 32, 124, 124, 32]
theorem ops_at : ∀ i, i < 34 → (opsL.drop i).head? = some 32 → ((opsL.drop (i + 1)).takeWhile (· != 32) = [] ∨ binS.contains ((opsL.drop (i + 1)).takeWhile (· != 32)) = true) := by decide
theorem takeWhile_stop {s t : List UInt8} (h : ∀ c ∈ s, c ≠ 32) : (s ++ 32 :: t).takeWhile (· != 32) = s := by
 induction s with
 | nil => simp
 | cons a r ih =>
  have ha : (a != 32) = true := by simpa using h a (by simp)
  rw [List.cons_append, List.takeWhile_cons, ha, if_pos rfl, ih fun c hc => h c (by simp [hc])]
theorem no_space {s : List UInt8} (h : indexByte s 32 = -1) : ∀ c ∈ s, c ≠ 32 := fun c hc e => by
 subst e
 obtain ⟨k, hk, e⟩ := List.mem_iff_getElem.1 hc
 exact indexByte_none h k (by rw [List.getElem?_eq_getElem hk, e])
theorem index_neg (s : List UInt8) (c : UInt8) : decide (0 ≤ indexByte s c) = !(indexByte s c == -1) := by
 have := indexByte_ge s c
 by_cases h : indexByte s c = -1
 · rw [h]; rfl
 · have h1 : 0 ≤ indexByte s c := by omega
   have h2 : (indexByte s c == -1) = false := by simpa using h
   rw [decide_eq_true h1, h2]; rfl
theorem binB_eq (s : List UInt8) : binB s = (s != [] && (!(decide (0 ≤ indexByte s 32)) && contains opsL ((32 :: s) ++ [32]))) := by
 by_cases hb : binB s = true
 · rw [hb]
   unfold binB binS at hb
   simp only [List.contains_cons, List.contains_nil, Bool.or_false, Bool.or_eq_true, beq_iff_eq] at hb
   rcases hb with rfl | rfl | rfl | rfl | rfl | rfl | rfl | rfl | rfl | rfl | rfl | rfl | rfl <;> decide
 · have hb' : binB s = false := by simpa using hb
   rw [hb']
   by_cases h0 : s = []
   · subst h0; rfl
   · have q0 : (s != []) = true := by simpa using h0
     rw [q0, index_neg]
     by_cases hi : indexByte s 32 = -1
     · have q1 : (indexByte s 32 == -1) = true := by simpa using hi
       rw [q1]
       simp only [Bool.not_true, Bool.not_false, Bool.true_and]
       have hns := no_space hi
       unfold contains
       rcases index_spec opsL ((32 :: s) ++ [32]) with ⟨h1, _⟩ | ⟨i, h1, h2, h3, _⟩
       · rw [h1]; rfl
       · exfalso
         unfold occAt at h3
         obtain ⟨t, ht⟩ := List.isPrefixOf_iff_prefix.1 h3
         have hh : (opsL.drop i).head? = some 32 := by rw [← ht]; rfl
         have h2' : i < 34 := by have : opsL.length = 33 := rfl; omega
         have hd : opsL.drop (i + 1) = s ++ 32 :: t := by
          have : opsL.drop (i + 1) = (opsL.drop i).drop 1 := by rw [List.drop_drop]
          rw [this, ← ht]
          simp
         have := ops_at i h2' hh
         rw [hd, takeWhile_stop hns] at this
         rcases this with h | h
         · exact h0 h
         · exact hb h
     · have q1 : (indexByte s 32 == -1) = false := by simpa using hi
       rw [q1]; rfl
theorem index_comma (s : List UInt8) : index s [44] = if s.contains 44 then ((s.takeWhile (· != 44)).length : Int) else -1 := by
 induction s with
 | nil => rfl
 | cons b l ih =>
  unfold index
  by_cases hb : b = 44
  · subst hb
    simp
  · have h0 : ((44 : UInt8) == b) = false := by simpa using fun e => hb (Eq.symm e)
    have h1 : ([44] : List UInt8).isPrefixOf (b :: l) = false := by show (((44 : UInt8) == b) && _) = false; rw [h0]; rfl
    rw [h1, ih, List.contains_cons]
    have h2 : ((44 : UInt8) == b) = false := by simpa using fun e => hb (Eq.symm e)
    have h3 : (b != 44) = true := by simpa using hb
    rw [h2, Bool.false_or, List.takeWhile_cons, h3]
    by_cases hc : l.contains 44 = true
    · rw [if_pos hc, if_pos hc]
      have : (((l.takeWhile (· != 44)).length : Int) == -1) = false := by rw [beq_eq_false_iff_ne]; omega
      simp [this]
    · rw [if_neg hc, if_neg hc]; rfl
theorem cut_comma (s : List UInt8) : cut s [44] = if s.contains 44 then (s.takeWhile (· != 44), (s.dropWhile (· != 44)).drop 1, true) else (s, [], false) := by
 unfold cut
 rw [index_comma]
 by_cases hc : s.contains 44 = true
 · rw [if_pos hc, if_pos hc, if_pos (by omega)]
   have h3 : s = s.takeWhile (· != 44) ++ s.dropWhile (· != 44) := (List.takeWhile_append_dropWhile ..).symm
   simp only [Int.toNat_natCast, List.length_cons, List.length_nil]
   refine congr (congrArg _ ?_) (congr (congrArg _ ?_) rfl)
   · conv => lhs; arg 2; rw [h3]
     rw [List.take_left']
     rfl
   · conv => lhs; arg 2; rw [h3]
     rw [List.drop_append]
     simp
 · rw [if_neg hc, if_neg hc, if_neg (by omega)]
end Go.Proofs.YthbmjamgidfneaaGreatDoor
