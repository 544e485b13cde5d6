import Derived.Test.YthbmjamgidfneaaGreatDoorYAa
import Derived.Test.YthbmjamgidfneaaGreatDoorYAd
import Derived.Test.YthbmjamgidfneaaGreatDoorProg
import Derived.Test.YthbmjamgidfneaaGreatDoorYAc
import Derived.Shelf.Vars
import Derived.Test.YthbmjamgidfneaaGreatDoorYAe
import Derived.Test.YthbmjamgidfneaaGreatDoorYAb
set_option maxRecDepth 100000
set_option maxHeartbeats 6400000
namespace Go.Proofs.YthbmjamgidfneaaGreatDoor
open Go.RowKit Go.Lib Go.BigFrame
theorem idx_run (s : List UInt8) (i : Nat) (h : i < s.length) (w : World) : (Instr.index 9 (.string ⟨s.toArray⟩) (.int .i64 (i : Nat))).run Tryz.prog w = .ok (.int .u8 ((s[i]'h).toNat : Nat)) w := by
 rw [run_index_string _ _ _ _ _ Tryz.underlying9, dif_pos ⟨by omega, by rw [bsize]; omega⟩]
 have := byte_at s i h
 simp only [Int.toNat_natCast]
 rw [this]
theorem dec_asc (c : UInt8) (t : List UInt8) : True ∧ True ∧ (c.toNat < 128 → decodeL (c :: t) = (c.toNat, 1)) := by
 refine ⟨trivial, trivial, fun h => ?_⟩
 rw [decodeL_N]
 show decodeN _ c.toNat _ _ _ = _
 unfold decodeN; rw [if_pos h]
theorem dec_high (c : UInt8) (t : List UInt8) (h : 128 ≤ c.toNat) : 128 ≤ (decodeL (c :: t)).1 := by
 rw [decodeL_N]
 show 128 ≤ (decodeN _ c.toNat _ _ _).1
 unfold decodeN
 rw [if_neg (by omega)]
 repeat' split
 all_goals simp only <;> omega
def allF (s : List UInt8) : Bool := s.all (fun c => decide (48 ≤ c.toNat) && decide (c.toNat ≤ 57))
structure PwRel (it : Nat) (q : List UInt8) (p : Bool) (w wr : World) (pos : Nat) : Prop where
 le : pos ≤ q.length
 hit : wr.heap[it]? = some (.stringIter ⟨q.toArray⟩ pos)
 hx : Ext none' w wr
 res : p = allF (q.drop pos)
theorem plain_any (s : List UInt8) (w : World) (hs : s.length ≤ 4000000000) : Calls Tryz.prog 146 #[.string ⟨s.toArray⟩] w (fun e w' => e = .returned (.bool (plainP s)) ∧ Ext none' w w') := by
 obtain ⟨r, hr⟩ : ∃ r, r = plainP s := ⟨_, rfl⟩
 rw [← hr]
 obtain ⟨p, hp⟩ : ∃ p, p = allF s := ⟨_, rfl⟩
 have HR : Hid (r = (p && (s == [48] || (!s.isEmpty && decide (s.length ≤ 200) && s.head? != some 48)))) := hid (by rw [hr, hp]; rfl)
 clear hr
 go_enter Tryz.func146, Tryz.ntmps146
 go_wp2_with fail
 have R0 : Hid (PwRel w.heap.size s p w (w.alloc (.stringIter ⟨s.toArray⟩ 0)) 0) := hid ⟨by omega, heap_alloc_at rfl _, (Ext.refl _ _).alloc _, by rw [List.drop_zero]; exact hp⟩
 clear hp
 obtain ⟨it, hit0⟩ : ∃ it, it = w.heap.size := ⟨_, rfl⟩
 have HIT := hid hit0
 rw [← hit0] at R0
 rw [← hit0]
 clear hit0
 go_loopw [] (fun wr => ∃ pos : Nat, Hid (PwRel it s p w wr pos)) (fun wr => s.length - wr.iterPos it)
 case atStart => exact ⟨0, R0⟩
 case round =>
  obtain ⟨pos, R⟩ := hrel
  have hle := R.out.le
  have hpi := hid (iterPos_of R.out.hit)
  by_cases hpl : pos < s.length
  · obtain ⟨d, hd⟩ : ∃ d, Utf8.decode ⟨s.toArray⟩ pos = d := ⟨_, rfl⟩
    have hnx : ∀ ty, (Instr.next (.pointer (some ⟨it, 0, none⟩)) true ty).run Tryz.prog wr = .ok (.tuple #[.bool true, .int .i64 pos, .int .i32 d.1]) (wr.iterAt it ⟨s.toArray⟩ (pos + d.2)) :=
     fun ty => by rw [← hd]; exact run_next_any_at wr it ⟨s.toArray⟩ pos ty R.out.hit (by rw [bsize]; exact hpl)
    have Hd := (decode_dropL s pos).symm.trans hd
    have hdr : s.drop pos = s[pos] :: s.drop (pos + 1) := List.drop_eq_getElem_cons hpl
    obtain ⟨c, hc⟩ : ∃ c, s[pos]'hpl = c := ⟨_, rfl⟩
    rw [hc] at hdr
    have hdh := dec_asc c (s.drop (pos + 1))
    rw [← hdr, Hd] at hdh
    obtain ⟨d1, d2⟩ := d
    simp only at hdh hnx
    have hd1 : d1 ≤ 1114111 := by
     have := rune_le ⟨s.toArray⟩ pos
     rw [hd] at this; exact this
    have X1 : Ext none' w (wr.iterAt it ⟨s.toArray⟩ (pos + d2)) := R.out.hx.iterAt (.inr (by rw [HIT.out]; exact Nat.le_refl _)) _ _
    have hit2 : Hid ((wr.iterAt it ⟨s.toArray⟩ (pos + d2)).heap[it]? = some (.stringIter ⟨s.toArray⟩ (pos + d2))) := hid (iterAt_heap _ _ _ _ _ R.out.hit)
    have HX1 := hid X1
    have hres := R.out.res
    rw [hdr] at hres
    have hhi := dec_high c (s.drop (pos + 1))
    rw [← hdr, Hd] at hhi
    have HCW := hid hdh.2.2
    by_cases hf : 48 ≤ c.toNat ∧ c.toNat ≤ 57
    · have ecw := HCW.out (by omega)
      injection ecw with ecw1 ecw2
      subst ecw2
      have f1 : decide ((d1 : Int) < 48) = false := by simp; omega
      have f2 : decide (57 < (d1 : Int)) = false := by simp; omega
      have N : Hid (PwRel it s p w (wr.iterAt it ⟨s.toArray⟩ (pos + 1)) (pos + 1)) := hid ⟨by omega, hit2.out, HX1.out, by rw [hres]; unfold allF; rw [List.all_cons]; simp [hf]⟩
      have M := hid (iterPos_of hit2.out)
      clear hd Hd hdr hc X1 hdh R hres hhi ecw1 hf
      go_wp2_with fail
      go_roundw
      case rel => exact ⟨_, N⟩
      case measure => rw [M.out, hpi.out]; omega
    · have e : Hid (r = false) := hid (by
       rw [HR.out, hres]; unfold allF; rw [List.all_cons]
       have : (decide (48 ≤ c.toNat) && decide (c.toNat ≤ 57)) = false := by simp; omega
       rw [this]; rfl)
      have hff : (d1 : Int) < 48 ∨ (¬ (d1 : Int) < 48 ∧ 57 < (d1 : Int)) := by
       by_cases hc1 : c.toNat < 128
       · have ecw := HCW.out hc1
         injection ecw with ecw1 ecw2
         omega
       · have := hhi (by omega)
         simp only at this
         omega
      clear hd Hd hdr hc X1 hdh R hres hhi hf
      rcases hff with f1 | ⟨f1, f2⟩
      · have f1 : decide ((d1 : Int) < 48) = true := by simpa using f1
        go_wp2_with fail
        go_ret
        rw [e.out]
        exact ⟨rfl, HX1.out⟩
      · have f1 : decide ((d1 : Int) < 48) = false := by simpa using f1
        have f2 : decide (57 < (d1 : Int)) = true := by simpa using f2
        go_wp2_with fail
        go_ret
        rw [e.out]
        exact ⟨rfl, HX1.out⟩
  · obtain rfl : pos = s.length := by omega
    have hnx : ∀ ty, (Instr.next (.pointer (some ⟨it, 0, none⟩)) true ty).run Tryz.prog wr = _ := fun ty => run_next_end_at wr it ⟨s.toArray⟩ s.length ty R.out.hit (by rw [bsize]; omega)
    have e : p = true := by rw [R.out.res, List.drop_length]; rfl
    have HX := hid R.out.hx
    clear R
    by_cases h0 : s = []
    · have er : Hid (r = false) := hid (by rw [HR.out, e, h0]; rfl)
      subst h0
      clear HR e
      go_wp2_with fail
      go_ret
      rw [er.out]
      exact ⟨rfl, HX.out⟩
    · by_cases h48 : s = [48]
      · have er : Hid (r = true) := hid (by rw [HR.out, e, h48]; rfl)
        subst h48
        clear HR e h0
        go_wp2_with fail
        go_ret
        rw [er.out]
        exact ⟨rfl, HX.out⟩
      · have q1 : (s == [48]) = false := by simpa using h48
        have q2 : s.isEmpty = false := by cases s <;> simp_all
        have hl0 : 0 < s.length := by cases s <;> simp_all
        obtain ⟨c, hc⟩ : ∃ c, s[0]'hl0 = c := ⟨_, rfl⟩
        have hh : s.head? = some c := by rw [List.head?_eq_getElem?, List.getElem?_eq_getElem hl0, hc]
        by_cases hl : s.length ≤ 200
        · have q3 : decide ((s.length : Int) ≤ 200) = true := by simp; omega
          have hix : ∀ W, (Instr.index 9 (.string ⟨s.toArray⟩) (.int .i64 0)).run Tryz.prog W = .ok (.int .u8 (c.toNat : Nat)) W := fun W => by
           have := idx_run s 0 hl0 W
           rw [hc] at this
           exact this
          have er : Hid (r = ((c.toNat : Int) != 48)) := hid (by
           rw [HR.out, e, q1, q2, hh]
           have : decide (s.length ≤ 200) = true := by simpa using hl
           rw [this]
           by_cases h : c = 48
           · subst h; rfl
           · have h1 : ((c.toNat : Int) != 48) = true := by
              have := u8n h
              simp at this ⊢; omega
             have h2 : (some c != some (48 : UInt8)) = true := by simpa using h
             rw [h1, h2]; rfl)
          clear HR e hc hh h0 h48 hl
          go_wp2_with fail
          go_ret
          rw [er.out]
          exact ⟨rfl, HX.out⟩
        · have q3 : decide ((s.length : Int) ≤ 200) = false := by simp; omega
          have er : Hid (r = false) := hid (by
           rw [HR.out, e, q1, q2]
           have : decide (s.length ≤ 200) = false := by simpa using hl
           rw [this]; rfl)
          clear HR e hc hh h0 h48 hl
          go_wp2_with fail
          go_ret
          rw [er.out]
          exact ⟨rfl, HX.out⟩
end Go.Proofs.YthbmjamgidfneaaGreatDoor
namespace Go.Proofs.YthbmjamgidfneaaGreatDoor
open Go.RowKit Go.Lib
def MaxL (w : World) : Prop := 2 < w.heap.size ∧ ∃ m, w.cell? ⟨2, 0, none⟩ = some (.int .i64 m)
theorem MaxL.ext {F : Nat → Prop} {w w' : World} (h : MaxL w) (x : Ext F w w') (hF : ¬ F 2) : MaxL w' := by
 obtain ⟨h1, m, hm⟩ := h
 exact ⟨Nat.lt_of_lt_of_le h1 x.size, m, by rw [x.cell (p := ⟨2, 0, none⟩) h1 hF]; exact hm⟩
theorem maxL_of_shaped {w : World} (h : w.ShapedOpen Tryz.prog) : MaxL w := by
 obtain ⟨m, hm⟩ := Go.Proofs.cell_of_shapedOpen_int (g := 2) (zero := #[.int .i64 0]) (t := 3) h (of_decide_eq_true (by kernel_rfl)) (by kernel_rfl) rfl (by kernel_rfl) (by kernel_rfl) Tryz.underlying3
 exact ⟨World.block_lt_of_cell? w _ hm, m, hm⟩
end Go.Proofs.YthbmjamgidfneaaGreatDoor
namespace Go.Proofs.YthbmjamgidfneaaGreatDoor
open Go.RowKit Go.Lib Go.BigFrame
theorem maxL_later {w W : World} (h : MaxL w) (x : Ext none' w W) : MaxL W := h.ext x fun h => h
theorem unary_any (s : List UInt8) (w : World) : Calls Tryz.prog 148 #[.string ⟨s.toArray⟩] w (BoolP (unB s) w) := by
 show Calls Tryz.prog 148 #[_] w (BoolP (s == [45] || s == [33]) w)
 obtain ⟨q1, h1⟩ : ∃ q, (s == [45]) = q := ⟨_, rfl⟩
 obtain ⟨q2, h2⟩ : ∃ q, (s == [33]) = q := ⟨_, rfl⟩
 rw [h1, h2]
 cases q1
 all_goals
  go_enter Tryz.func148, Tryz.ntmps148
  go_wp2_with fail
  go_ret
  exact ⟨rfl, Ext.refl _ _⟩
theorem estr_any (s : List UInt8) (w : World) : Calls Tryz.prog 147 #[.string ⟨s.toArray⟩] w (BoolP (strB s) w) := by
 unfold strB
 by_cases h : s.length ≤ 1000
 · have q : (s.length : Int) ≤ 1000 := by omega
   rw [decide_eq_true h]
   clear h
   go_enter Tryz.func147, Tryz.ntmps147
   go_wp2_with fail
   go_ret
   exact ⟨by simp, Ext.refl _ _⟩
 · have q : ¬ (s.length : Int) ≤ 1000 := by omega
   rw [decide_eq_false h]
   clear h
   go_enter Tryz.func147, Tryz.ntmps147
   go_wp2_with fail
   go_ret
   exact ⟨by simp, Ext.refl _ _⟩
theorem inc1_any (s : List UInt8) (w : World) : Calls Tryz.prog 186 #[.string ⟨s.toArray⟩] w (BoolP (incB s) w) := by
 show Calls Tryz.prog 186 #[_] w (BoolP (s == [43, 43] || s == [45, 45]) w)
 obtain ⟨q1, h1⟩ : ∃ q, (s == [43, 43]) = q := ⟨_, rfl⟩
 obtain ⟨q2, h2⟩ : ∃ q, (s == [45, 45]) = q := ⟨_, rfl⟩
 rw [h1, h2]
 cases q1
 all_goals
  go_enter Tryz.func186, Tryz.ntmps186
  go_wp2_with fail
  go_ret
  exact ⟨rfl, Ext.refl _ _⟩
theorem tld_any (s : List UInt8) (w : World) : Calls Tryz.prog 182 #[.string ⟨s.toArray⟩] w (BoolP (tldB s) w) := by
 by_cases h0 : s = []
 · subst h0
   go_enter Tryz.func182, Tryz.ntmps182
   go_wp2_with fail
   go_ret
   exact ⟨rfl, Ext.refl _ _⟩
 · have q0 : (s == []) = false := by simpa using h0
   have q0' : s.isEmpty = false := by simpa using h0
   show Calls Tryz.prog 182 #[_] w (BoolP (s == [] || s == [126]) w)
   obtain ⟨q2, h2⟩ : ∃ q, (s == [126]) = q := ⟨_, rfl⟩
   rw [q0, h2]
   clear h0
   go_enter Tryz.func182, Tryz.ntmps182
   go_wp2_with fail
   go_ret
   exact ⟨rfl, Ext.refl _ _⟩
theorem bound_any (s : List UInt8) (w : World) : Calls Tryz.prog 185 #[.string ⟨s.toArray⟩] w (BoolP (bndB s) w) := by
 have CN := hid fun W => tname_any s W
 show Calls Tryz.prog 185 #[_] w (BoolP (nmB s && s != [95]) w)
 obtain ⟨q1, h1⟩ : ∃ q, nmB s = q := ⟨_, rfl⟩
 obtain ⟨q2, h2⟩ : ∃ q, (s != [95]) = q := ⟨_, rfl⟩
 rw [h1] at CN
 rw [h1, h2]
 clear h1
 go_enter Tryz.func185, Tryz.ntmps185
 go_wp2_with fail
 refine (CN.out _).mono ?_
 rintro e w1 ⟨rfl, X1⟩
 have X1 := hid X1
 cases q1
 all_goals
  go_wp2_with fail
  go_ret
  exact ⟨by have := h2; cases q2 <;> simp_all, X1.out⟩
theorem plain_so (w : World) : SoV plainP w (.func (.func 146) #[] #[]) :=
 ⟨_, _, rfl, Go.Proofs.enters_of Tryz.func146 (by kernel_rfl) rfl, fun s W hs _ => by
  exact (plain_any s W (by unfold bigD at hs; omega)).mono fun e w2 h => h⟩
theorem unary_so (w : World) : SoV unB w (.func (.func 148) #[] #[]) :=
 ⟨_, _, rfl, Go.Proofs.enters_of Tryz.func148 (by kernel_rfl) rfl, fun s W _ _ => unary_any s W⟩
theorem estr_so (w : World) : SoV strB w (.func (.func 147) #[] #[]) :=
 ⟨_, _, rfl, Go.Proofs.enters_of Tryz.func147 (by kernel_rfl) rfl, fun s W _ _ => estr_any s W⟩
theorem inc1_so (w : World) : SoV incB w (.func (.func 186) #[] #[]) :=
 ⟨_, _, rfl, Go.Proofs.enters_of Tryz.func186 (by kernel_rfl) rfl, fun s W _ _ => inc1_any s W⟩
theorem tld_so (w : World) : SoV tldB w (.func (.func 182) #[] #[]) :=
 ⟨_, _, rfl, Go.Proofs.enters_of Tryz.func182 (by kernel_rfl) rfl, fun s W _ _ => tld_any s W⟩
theorem bound_so (w : World) : SoV bndB w (.func (.func 185) #[] #[]) :=
 ⟨_, _, rfl, Go.Proofs.enters_of Tryz.func185 (by kernel_rfl) rfl, fun s W _ _ => bound_any s W⟩
end Go.Proofs.YthbmjamgidfneaaGreatDoor
namespace Go.Proofs.YthbmjamgidfneaaGreatDoor
open Go.RowKit Go.Lib Go.BigFrame
set_option linter.unusedVariables false
set_option linter.unusedSimpArgs false
abbrev shV (deep : Nat) (head : Bool) : Value := .agg #[.int .i64 (deep : Nat), .bool head]
theorem ret_sh {fn : Func} {p : Tmp} (h : fn.results = #[.cell p 50]) {R : Ending → World → Prop} {a : Act} {w : World} {g : Nat} {y0 y1 : Value} {t : TypeId} {fr : Nat × Nat} (hp : a.tmps.getD p undef = .pointer (some ⟨g, 0, none⟩)) (hg : w.heap[g]? = some (.cells #[y0, y1] t fr))
 (hd : a.defers = []) (hR : R (.returned (.agg #[y0, y1])) w) : bodyPost Tryz.prog fn R .ret a w :=
 bodyPost_ret (results_cell_row h _ w g t _ fr _ hp hg Tryz.underlying50 rfl (by kernel_rfl)) hd hR
theorem set2n {w : World} {b : Nat} {x0 x1 : Value} {t : TypeId} {fz : Nat × Nat} (h : w.heap[b]? = some (.cells #[x0, x1] t fz)) (y0 y1 : Value) :
 ((w.setCell ⟨b, 0, none⟩ y0).setCell ⟨b, 1, none⟩ y1).heap[b]? = some (.cells #[y0, y1] t fz) := heap_setCell_same (heap_setCell_same h 0 y0) 1 y1
theorem Ext.set2 {F : Nat → Prop} {a w : World} (h : Ext F a w) {b : Nat} (hb : F b ∨ a.heap.size ≤ b) (y0 y1 : Value) : Ext F a ((w.setCell ⟨b, 0, none⟩ y0).setCell ⟨b, 1, none⟩ y1) := (h.setCell (p := ⟨b, 0, none⟩) hb y0).setCell (p := ⟨b, 1, none⟩) hb y1
def ShPost (deep : Nat) (head : Bool) (w : World) (e : Ending) (w' : World) : Prop := e = .returned (shV deep head) ∧ Ext none' w w'
theorem free_any (deep : Nat) (head : Bool) (w : World) : Calls Tryz.prog 50 #[shV deep head] w (ShPost deep false w) := by
 obtain ⟨B, hB⟩ : ∃ B, B = w.heap.size := ⟨_, rfl⟩
 obtain ⟨W1, hW1⟩ : ∃ W1, W1 = ((w.alloc (.cells #[.int .i64 (deep : Nat), .bool head] 50)).alloc (.cells #[.int .i64 0, .bool false] 50)) := ⟨_, rfl⟩
 have X1 := hid (show Ext none' w W1 by rw [hW1]; exact ((Ext.refl _ _).alloc _).alloc _)
 have G0 := hid (show W1.heap[B]? = some (.cells #[.int .i64 (deep : Nat), .bool head] 50 (0, 0)) by rw [hW1]; exact heap_alloc_keep (heap_alloc_at hB _) _)
 have G1 := hid (show W1.heap[B + 1]? = some (.cells #[.int .i64 0, .bool false] 50 (0, 0)) by rw [hW1]; exact heap_alloc_at (by rw [hB]; simp) _)
 have HB := hid hB
 go_enter Tryz.func50, Tryz.ntmps50
 go_upto_region 1 with (fail)
 rw [← hW1, ← hB]
 clear hW1 hB
 have c0 := cell_at G0.out 0
 have f0 := free_at G1.out 0
 have f1 := free_at G1.out 1
 have e0 := cell_at G1.out 0
 have e1 := cell_at G1.out 1
 simp only [List.getElem?_toArray, List.getElem?_cons_zero, List.getElem?_cons_succ] at c0 e0 e1
 go_wp2_with fail
 refine ret_sh rfl rfl (set2n G1.out _ _) rfl ?_
 exact ⟨rfl, X1.out.set2 (b := B + 1) (.inr (by have := HB.out; omega)) _ _⟩
theorem shin_any (deep : Nat) (hd : deep ≤ 1000000000) (head : Bool) (w : World) : Calls Tryz.prog 42 #[shV deep head] w (ShPost (deep + 1) false w) := by
 have hz : ((deep + 1 : Nat) : Int) = (deep : Int) + 1 := by omega
 unfold ShPost shV
 rw [hz]
 clear hz
 obtain ⟨B, hB⟩ : ∃ B, B = w.heap.size := ⟨_, rfl⟩
 obtain ⟨W1, hW1⟩ : ∃ W1, W1 = ((w.alloc (.cells #[.int .i64 (deep : Nat), .bool head] 50)).alloc (.cells #[.int .i64 0, .bool false] 50)) := ⟨_, rfl⟩
 have X1 := hid (show Ext none' w W1 by rw [hW1]; exact ((Ext.refl _ _).alloc _).alloc _)
 have G0 := hid (show W1.heap[B]? = some (.cells #[.int .i64 (deep : Nat), .bool head] 50 (0, 0)) by rw [hW1]; exact heap_alloc_keep (heap_alloc_at hB _) _)
 have G1 := hid (show W1.heap[B + 1]? = some (.cells #[.int .i64 0, .bool false] 50 (0, 0)) by rw [hW1]; exact heap_alloc_at (by rw [hB]; simp) _)
 have HB := hid hB
 go_enter Tryz.func42, Tryz.ntmps42
 go_upto_region 1 with (fail)
 rw [← hW1, ← hB]
 clear hW1 hB
 have c0 := cell_at G0.out 0
 have f0 := free_at G1.out 0
 have f1 := free_at G1.out 1
 have e0 := cell_at G1.out 0
 have e1 := cell_at G1.out 1
 simp only [List.getElem?_toArray, List.getElem?_cons_zero, List.getElem?_cons_succ] at c0 e0 e1
 go_wp2_with fail
 refine ret_sh rfl rfl (set2n G1.out _ _) rfl ?_
 exact ⟨rfl, X1.out.set2 (b := B + 1) (.inr (by have := HB.out; omega)) _ _⟩
theorem repeat_tab (n : Nat) : repeatL [9] n = tabsT n := by
 induction n with
 | zero => rfl
 | succ n ih => rw [repeatL, ih]; simp [tabsT, List.replicate_succ]
theorem line_any (deep : Nat) (hd : deep ≤ 1000000000) (head : Bool) (s : List UInt8) (hs : s.length ≤ 100000000000000) (w : World) : Calls Tryz.prog 43 #[shV deep head, .string ⟨s.toArray⟩] w (StrPost (lineT deep s) w) := by
 have CR := hid fun W => Tryz.strings_Repeat ⟨([9] : List UInt8).toArray⟩ deep W (by omega) (by rw [bsize]; simp only [List.length_cons, List.length_nil]; omega)
 have D1 : (⟨([9] : List UInt8).toArray⟩ : ByteArray).data.toList = [9] := rfl
 rw [D1, repeat_tab] at CR
 have hl := tabsT_len deep
 obtain ⟨r, hr⟩ : ∃ r, r = lineT deep s := ⟨_, rfl⟩
 rw [← hr]
 unfold lineT at hr
 obtain ⟨q, hq⟩ : ∃ q, tabsT deep = q := ⟨_, rfl⟩
 rw [hq] at CR hl hr
 have cat1 := str_cat q s
 have cat2 := str_cat (q ++ s) [10]
 have HR := hid hr
 clear hr hq D1
 go_enter Tryz.func43, Tryz.ntmps43
 go_wp2_with fail
 refine (CR.out _).mono ?_
 rintro e w1 ⟨rfl, X1⟩
 have X1 := hid (((Ext.refl none' w).alloc _).trans (Ext.of_below X1))
 go_wp2_with fail
 go_ret
 exact ⟨by rw [HR.out]; simp, X1.out⟩
theorem tight_any (s : List UInt8) (w : World) : Calls Tryz.prog 54 #[.string ⟨s.toArray⟩] w (IntP (tightN s : Nat) w) := by
 by_cases a1 : s = [42]
 · subst a1
   go_enter Tryz.func54, Tryz.ntmps54
   go_wp2_with fail
   go_ret
   exact ⟨rfl, Ext.refl _ _⟩
 by_cases a2 : s = [47]
 · subst a2
   go_enter Tryz.func54, Tryz.ntmps54
   go_wp2_with fail
   go_ret
   exact ⟨rfl, Ext.refl _ _⟩
 by_cases a3 : s = [37]
 · subst a3
   go_enter Tryz.func54, Tryz.ntmps54
   go_wp2_with fail
   go_ret
   exact ⟨rfl, Ext.refl _ _⟩
 by_cases a4 : s = [43]
 · subst a4
   go_enter Tryz.func54, Tryz.ntmps54
   go_wp2_with fail
   go_ret
   exact ⟨rfl, Ext.refl _ _⟩
 by_cases a5 : s = [45]
 · subst a5
   go_enter Tryz.func54, Tryz.ntmps54
   go_wp2_with fail
   go_ret
   exact ⟨rfl, Ext.refl _ _⟩
 by_cases a6 : s = [38, 38]
 · subst a6
   go_enter Tryz.func54, Tryz.ntmps54
   go_wp2_with fail
   go_ret
   exact ⟨rfl, Ext.refl _ _⟩
 by_cases a7 : s = [124, 124]
 · subst a7
   go_enter Tryz.func54, Tryz.ntmps54
   go_wp2_with fail
   go_ret
   exact ⟨rfl, Ext.refl _ _⟩
 have E : tightN s = 3 := by unfold tightN; rw [if_neg (by simp [a1, a2, a3]), if_neg (by simp [a4, a5]), if_neg a6, if_neg a7]
 rw [E]
 have b1 : (s == [42]) = false := by simpa using a1
 have b2 : (s == [47]) = false := by simpa using a2
 have b3 : (s == [37]) = false := by simpa using a3
 have b4 : (s == [43]) = false := by simpa using a4
 have b5 : (s == [45]) = false := by simpa using a5
 have b6 : (s == [38, 38]) = false := by simpa using a6
 have b7 : (s == [124, 124]) = false := by simpa using a7
 clear a1 a2 a3 a4 a5 a6 a7 E
 go_enter Tryz.func54, Tryz.ntmps54
 go_wp2_with fail
 go_ret
 exact ⟨rfl, Ext.refl _ _⟩
abbrev ExpH (f : Nat) : Prop := ∀ (deep : Nat) (head : Bool), deep + f ≤ 1200000 → ∀ (t : Nd), t.size ≤ f → exF f t = true → ∀ (v : Value) (w : World), MaxL w → NdV none' w t v → Calls Tryz.prog 23 #[shV deep head, v] w (StrPost (exT f deep head t) w)
abbrev StmH (f : Nat) : Prop := ∀ (deep : Nat), deep + f ≤ 1200000 → ∀ (t : Nd), t.size ≤ f → stF f t = true → ∀ (v : Value) (w : World), MaxL w → NdV none' w t v → Calls Tryz.prog 24 #[shV deep false, v] w (StrPost (stT f deep t) w)
end Go.Proofs.YthbmjamgidfneaaGreatDoor
namespace Go.Proofs.YthbmjamgidfneaaGreatDoor
open Go.RowKit Go.Lib
def depD : Nat → Nd → Nat
 | 0, _ => 0
 | f + 1, t => (t.kids.map (depD f)).foldr max 0 + 1
theorem typF_ne {nm : List UInt8 → Bool} (hnm : nm [] = false) {f : Nat} {t : Nd} (h : tyF nm f t = true) : typF f t ≠ [] := by
 cases f with
 | zero => cases h
 | succ f =>
  rw [tyF] at h
  rw [typF]
  split at h
  · rename_i hk
    rw [if_neg (by omega), if_neg (by omega)]
    simp only [Bool.and_eq_true] at h
    have hn : t.text ≠ [] := by intro e; rw [e, hnm] at h; exact absurd h.1 (by simp)
    split
    · exact hn
    · simp
  · split at h
    · rename_i hk
      rw [if_pos hk]; simp
    · split at h
      · rename_i hk
        rw [if_neg (by omega), if_pos hk]
        unfold sigF betw
        intro e
        have h2 : (Lib.join (List.filter (fun p : List UInt8 => !p.isEmpty) [([102, 117, 110, 99, 40] ++ Lib.join ((t.kid 0).kids.map (parF (typF f))) sComma) ++ [41], optT (typF f) (t.kid 1)]) [32]).length = 0 := by rw [e]; rfl
        rw [List.filter_cons_of_pos (by simp)] at h2
        rw [Lib.join_length] at h2
        simp [Lib.lens] at h2
      · cases h
theorem maxN_cons (a : Nat) (l : List Nat) : maxN (a :: l) = max (102 - a) (maxN l) := by
 unfold maxN
 rw [List.foldl_cons]
 have key : ∀ (l : List Nat) (a b : Nat), l.foldl (fun a x => max a (102 - x)) (max a b) = max a (l.foldl (fun a x => max a (102 - x)) b) := by
  intro l
  induction l with
  | nil => intro a b; rfl
  | cons x r ih => intro a b; rw [List.foldl_cons, List.foldl_cons, Nat.max_assoc, ih]
 rw [Nat.max_comm 0, key]
theorem maxN_append (l m : List Nat) : maxN (l ++ m) = max (maxN l) (maxN m) := by
 induction l with
 | nil => simp [maxN]
 | cons a r ih => rw [List.cons_append, maxN_cons, maxN_cons, ih, Nat.max_assoc]
theorem depN_pre : ∀ (f : Nat) (t : Nd), f ≤ 101 → maxN (preL f t) = if f = 0 then 0 else depD f t + (101 - f)
 | 0, _, _ => rfl
 | f + 1, t, hf => by
  rw [preL, maxN_cons, if_neg (by omega), depD]
  have key : ∀ l : List Nd, maxN ((l.map (preL f)).flatten) ≤ (l.map (depD f)).foldr max 0 + (101 - f) ∧ (l ≠ [] → f ≠ 0 → maxN ((l.map (preL f)).flatten) = (l.map (depD f)).foldr max 0 + (101 - f)) ∧ (f = 0 → maxN ((l.map (preL f)).flatten) = 0) := by
   intro l
   induction l with
   | nil => exact ⟨by simp [maxN], fun h => absurd rfl h, fun _ => rfl⟩
   | cons a r ih =>
    rw [List.map_cons, List.flatten_cons, maxN_append, List.map_cons, List.foldr_cons, depN_pre f a (by omega)]
    obtain ⟨h1, h2, h3⟩ := ih
    refine ⟨?_, fun _ h0 => ?_, fun h0 => ?_⟩
    · split <;> omega
    · rw [if_neg h0]
      by_cases hr : r = []
      · subst hr; simp [maxN]
      · rw [h2 hr h0]; omega
    · rw [if_pos h0, h3 h0]; rfl
  obtain ⟨h1, h2, h3⟩ := key t.kids
  by_cases hk : t.kids = []
  · rw [hk]; simp [maxN]; omega
  · by_cases h0 : f = 0
    · rw [h3 h0]
      subst h0
      have : (t.kids.map (depD 0)).foldr max 0 = 0 := by
       generalize t.kids = l
       induction l with
       | nil => rfl
       | cons a r ih => rw [List.map_cons, List.foldr_cons, ih]; rfl
      rw [this]
      decide
    · rw [h2 hk h0]; omega
theorem depthN_dep (t : Nd) : depthN t = depD 101 t := by
 unfold depthN
 rw [depN_pre 101 t (by omega)]
 simp
end Go.Proofs.YthbmjamgidfneaaGreatDoor
namespace Go.Proofs.YthbmjamgidfneaaGreatDoor
open Go.RowKit Go.Lib Go.BigFrame
set_option linter.unusedVariables false
set_option linter.unusedSimpArgs false
theorem typ_sig (f : Nat) (hf : f + 1 ≤ bigD) (so : List UInt8 → Bool) (hso : ∀ s, so s = true → s.length ≤ 100) (t : Nd) (hts : t.size ≤ f + 1) (htt : sigB (tyF nmB f) so t = true) (v : Value) (w : World) (hv : NdV none' w t v) : Calls Tryz.prog 22 #[v] w (StrPost (sigF (typF f) t) w) := by
 have H := typ_any f (by omega)
 obtain ⟨x, rfl, hx⟩ := hv
 have HX := hid hx
 have hkl : t.kids.length ≤ bigD := by have := t.kids_len; omega
 have HLEN := hid fun y (h1 : y.size ≤ f) h2 => typF_len nmB_len f y h2 h1
 have hsz : t.size ≤ 20000000000 := by unfold bigD at hf; omega
 obtain ⟨a1, cap1, rfl, _⟩ := hx
 obtain ⟨r, hr⟩ : ∃ r, r = sigF (typF f) t := ⟨_, rfl⟩
 rw [← hr]
 have HG := hid (heap_alloc_at (w := w) rfl (.cells #[.int .i64 t.kind, .string ⟨t.text.toArray⟩, .slice a1 t.kids.length cap1, .int .i64 t.pos] 24))
 obtain ⟨tk, htk⟩ : ∃ tk, t.kind = tk := ⟨_, rfl⟩
 rw [htk] at HG ⊢
 have h12 : tk = 12 := by rw [← htk]; exact (sigB_parts htt).1
 subst h12
 obtain ⟨l, rr, hk, hlk, hlt, hps, hrr⟩ := (sigB_parts htt).2.2
 have hll : t.kids.length = 2 := by rw [hk]; rfl
 have hl0 : 0 < t.kids.length := by omega
 have hl1 : 1 < t.kids.length := by omega
 have e0 : t.kid 0 = l := by unfold Nd.kid; rw [hk]; rfl
 have e1 : t.kid 1 = rr := by unfold Nd.kid; rw [hk]; rfl
 have hsl : l.size < t.size := Nd.size_kid (t := t) (x := l) (by rw [hk]; simp)
 have hsr : rr.size < t.size := Nd.size_kid (t := t) (x := rr) (by rw [hk]; simp)
 obtain ⟨L1, L2, L3, L4⟩ := sigF_len (p := typF f) hso htt fun x hx htx => HLEN.out x (by omega) htx
 rw [e0] at L2 L4
 rw [e1] at L3
 have HP : ∀ (i : Nat) (h : i < l.kids.length), ParD (TyD f) (typF f) l.kids[i] := fun i hi => by
  obtain ⟨_, h2, y, hy, hty⟩ := hps _ (List.getElem_mem hi)
  have e : l.kids[i].kid 0 = y := by unfold Nd.kid; rw [hy]; rfl
  have s1 := Nd.size_kid (List.getElem_mem hi)
  have s2 : y.size < l.kids[i].size := Nd.size_kid (by rw [hy]; simp)
  have := HLEN.out y (by omega) hty
  refine ⟨by rw [hy]; simp, by rw [e]; exact ⟨by omega, hty⟩, ?_⟩
  have h2' := hso _ h2
  rw [e]
  omega
 have hlk : l.kids.length ≤ bigD := by have := l.kids_len; unfold bigD at hf ⊢; omega
 have hls := lens_size (p := parF (typF f)) L4
 have hsz2 := Nd.sizeL_len l.kids
 have hslL : Nd.sizeL l.kids < l.size := by
  cases l with
  | mk k n kids ps => simp only [Nd.size, Nd.kids]; omega
 have CE := hid fun W u v' (hv' : IsSl 4 IsNd none' W v' l.kids) (hu : TellV (ParD (TyD f) (typF f)) (parF (typF f)) W u) => each_any _ _ sComma l.kids v' u W hv' hu HP hlk (by
  have hc : sComma.length = 2 := rfl
  rw [hc]; omega)
 have CP := hid fun W u v' (hv' : NdV none' W (t.kid 1) v') (hu : TellV (TyD f) (typF f) W u) => optional_any (TyD f) (typF f) (t.kid 1) v' u W hv' hu (fun hk => by
  rw [e1] at hk ⊢
  rcases hrr with hrr | hrr
  · exact absurd (emptyB_kind hrr) hk
  · exact ⟨by omega, hrr⟩)
 have TT := hid fun W => typ_tell H W
 have TP := hid fun W => param_tell H W
 unfold sigF at hr
 rw [e0] at hr
 obtain ⟨qj, hqj⟩ : ∃ q, Lib.join (l.kids.map (parF (typF f))) sComma = q := ⟨_, rfl⟩
 obtain ⟨qo, hqo⟩ : ∃ q, optT (typF f) (t.kid 1) = q := ⟨_, rfl⟩
 rw [hqj] at hr CE L2
 rw [hqo] at hr CP
 rw [e1] at hqo
 rw [hqo] at L3
 have hqjl : qj.length ≤ 10000000000000 := by omega
 have hqol : qo.length ≤ 10000000000000 := by omega
 have CB := hid fun W u (hu : IsStrs none' W u [([102, 117, 110, 99, 40] ++ qj) ++ [41], qo]) => between_any [32] _ u W hu (by simp) (by simp [Lib.lens]; omega)
 rw [← hr] at CB
 have cat1 := str_cat [102, 117, 110, 99, 40] qj
 have cat2 := str_cat ([102, 117, 110, 99, 40] ++ qj) [41]
 have HCE : Hid (l.kids = (t.kid 0).kids) := hid (by rw [e0])
 rw [HCE.out] at CE
 have hll1 : (0 : Int) < (t.kids.length : Int) := by omega
 have hll2 : (1 : Int) < (t.kids.length : Int) := by omega
 clear hr hqj hqo e0 e1 hsl hsr L1 L2 L3 L4 HP hlk hls hsz2 hslL HCE hk hll hps hrr hlt htt HLEN H hf hts hsz htk
 go_enter Tryz.func22, Tryz.ntmps22
 go_upto_region 5 with (fail)
 obtain ⟨W1, hW1⟩ : ∃ W1, W1 = w.alloc (.cells #[.int .i64 12, .string ⟨t.text.toArray⟩, .slice a1 t.kids.length cap1, .int .i64 t.pos] 24) := ⟨_, rfl⟩
 rw [← hW1] at HG ⊢
 have X1 := hid (show Ext none' w W1 by rw [hW1]; exact (Ext.refl _ _).alloc _)
 have HX := hid (HX.out.ext isNd_good X1.out fun _ _ h => h)
 obtain ⟨b, off, x0, rfl, hbw, k0, k1, k2, k3, hx0⟩ := kid_val HX.out 0 hl0
 simp only [Nat.zero_mul, Nat.add_zero] at k0 k1 k2 k3
 obtain ⟨b', off', x1, e5, hbw', j0, j1, j2, j3, hx1⟩ := kid_val HX.out 1 hl1
 injection e5 with e5
 injection e5 with e5 e6
 subst e5 e6
 have HX0 := hid hx0
 have HX1 := hid hx1
 obtain ⟨a2, cap2, rfl, _⟩ := hx0
 obtain ⟨a3, cap3, rfl, _⟩ := hx1
 simp only [Nat.one_mul] at j0 j1 j2 j3
 have y2 := fun t' : LaterF none' W1 => cell_at (t'.x.heap HG.out fun h => h) 2
 have z2 := fun t' : LaterF none' W1 => (t'.x.cell (p := ⟨b, off + 2, none⟩) hbw (fun h => h)).trans k2
 have i0 := fun t' : LaterF none' W1 => (t'.x.cell (p := ⟨b, off + 4, none⟩) hbw (fun h => h)).trans j0
 have i1 := fun t' : LaterF none' W1 => (t'.x.cell (p := ⟨b, off + 4 + 1, none⟩) hbw (fun h => h)).trans j1
 have i2 := fun t' : LaterF none' W1 => (t'.x.cell (p := ⟨b, off + 4 + 2, none⟩) hbw (fun h => h)).trans j2
 have i3 := fun t' : LaterF none' W1 => (t'.x.cell (p := ⟨b, off + 4 + 3, none⟩) hbw (fun h => h)).trans j3
 simp only [List.getElem?_toArray, List.getElem?_cons_zero, List.getElem?_cons_succ] at y2
 clear hW1 k0 k1 k2 k3 j0 j1 j2 j3
 refine region_q none' W1 (.qs [0, 1, 2, 3, 4, 8, 9, 10, 11] (.one 5 true (.qs [6, 7] (.one 12 true (.one 13 false (.one 14 false (.one 15 false .fin))))))) (by kernel_rfl) (by kernel_rfl) (fun dst v c a w h => by cases dst <;> exact h) ?_
 refine ⟨In.of (Ext.refl _ _).drew, ?_⟩
 change wpQuiet _ _ (fun w' => ∃ t : LaterF none' W1, w' = t.w) _ _ _
 simp only [sel, List.getElem?_cons_succ, List.getElem?_cons_zero]
 repeat (go_big_quiet_step (fail))
 refine wpQuiet_nil ?_
 simp only [wpTreeQ, stepT, sel, List.getElem?_cons_succ, List.getElem?_cons_zero]
 have D1 := hid (Ext.refl none' W1).drew
 clear y2 z2 i0 i1 i2 i3
 go_wp2_with fail
 refine (CE.out _ _ _ (HX0.out.ext isNd_good D1.out fun _ _ h => h) (TP.out _)).mono ?_
 rintro e w2 ⟨rfl, X2⟩
 have X2 := hid (D1.out.trans X2)
 go_wp2_with fail
 refine ⟨In.of X2.out, In.of X2.out, ?_⟩
 change wpQuiet _ _ (fun w' => ∃ t : LaterF none' W1, w' = t.w) _ _ _
 repeat (go_big_quiet_step (fail))
 refine wpQuiet_nil ?_
 go_wp2_with fail
 refine (CP.out _ _ _ ⟨_, rfl, HX1.out.ext isNd_good X2.out fun _ _ h => h⟩ (TT.out _)).mono ?_
 rintro e w3 ⟨rfl, X3⟩
 have X3 := hid (X2.out.trans X3)
 go_wp2_with fail
 refine ⟨In.of X3.out, ?_⟩
 go_wp2_with fail
 have Y := hid ((Ext.refl none' w3).alloc (.cells #[.string ⟨(([102, 117, 110, 99, 40] ++ qj) ++ [41]).toArray⟩, .string ⟨qo.toArray⟩] 9))
 refine (CB.out _ _ (isStrs_two (heap_alloc_at rfl _))).mono ?_
 rintro e w4 ⟨rfl, X4⟩
 have X4 := hid (X1.out.trans (X3.out.trans (Y.out.trans X4)))
 go_wp2_with fail
 go_ret
 exact ⟨rfl, X4.out⟩
theorem sig_text {f : Nat} {so : List UInt8 → Bool} {t : Nd} (hty : ∀ x, tyF nmB f x = true → typF f x ≠ []) (htt : sigB (tyF nmB f) so t = true) : sigF (typF f) t = wFunc ++ sigT (typF f) t := by
 obtain ⟨_, _, l, r, hk, _, _, hps, hr⟩ := sigB_parts htt
 obtain ⟨e0, e1⟩ := kid_two hk
 have hpar : l.kids.map (parF (typF f)) = l.kids.map (paT (typF f)) := List.map_congr_left fun p hp => by
  obtain ⟨_, _, y, hy, hyt⟩ := hps p hp
  have hn := hty y hyt
  unfold parF paT betw
  rw [kid_one hy]
  by_cases hp0 : p.text = []
  · rw [hp0, if_pos rfl, List.filter_cons_of_neg (by simp), List.filter_cons_of_pos (by simpa using hn)]
    simp [Lib.join]
  · rw [if_neg hp0, List.filter_cons_of_pos (by simpa using hp0), List.filter_cons_of_pos (by simpa using hn)]
    simp [Lib.join]
 unfold sigF sigT optT betw
 rw [e0, e1, hpar]
 by_cases hr0 : r.kind = 0
 · rw [if_pos hr0, if_pos hr0, List.filter_cons_of_pos (by simp), List.filter_cons_of_neg (by simp)]
   simp [Lib.join, wFunc]
 · rw [if_neg hr0, if_neg hr0]
   have hn : typF f r ≠ [] := by
    rcases hr with hr | hr
    · exact absurd (emptyB_kind hr) hr0
    · exact hty r hr
   rw [List.filter_cons_of_pos (by simp), List.filter_cons_of_pos (by simpa using hn)]
   simp [Lib.join, wFunc]
theorem nmB_nil' : nmB [] = false := by decide
theorem ty_ne {f : Nat} {x : Nd} (h : tyF nmB f x = true) : typF f x ≠ [] := typF_ne nmB_nil' h
theorem trim_func (s : List UInt8) : trimPrefix (wFunc ++ s) wFunc = s := by
 unfold trimPrefix hasPrefix
 have : wFunc.isPrefixOf (wFunc ++ s) = true := List.isPrefixOf_iff_prefix.2 ⟨s, rfl⟩
 rw [this, if_pos rfl, List.drop_left]
theorem signature_any (f : Nat) (hf : f + 1 ≤ bigD) (t : Nd) (hts : t.size ≤ f + 1) (htt : sigB (tyF nmB f) nmB t = true) (v : Value) (w : World) (hv : NdV none' w t v) : Calls Tryz.prog 40 #[v] w (StrPost (sigT (typF f) t) w) := by
 have CT := hid fun W (X : Ext none' w W) => typ_sig f hf nmB nmB_len t hts htt v W (hv.ext X fun _ _ h => h)
 rw [sig_text (fun x hx => ty_ne hx) htt] at CT
 obtain ⟨q, hq⟩ : ∃ q, sigT (typF f) t = q := ⟨_, rfl⟩
 rw [hq] at CT ⊢
 have CP := hid fun W => Tryz.strings_TrimPrefix ⟨(wFunc ++ q).toArray⟩ ⟨wFunc.toArray⟩ W
 have D1 : (⟨(wFunc ++ q).toArray⟩ : ByteArray).data.toList = wFunc ++ q := rfl
 have D2 : (⟨wFunc.toArray⟩ : ByteArray).data.toList = wFunc := rfl
 rw [D1, D2, trim_func] at CP
 obtain ⟨y, rfl, hy⟩ := hv
 obtain ⟨a1, cap1, rfl, _⟩ := hy
 obtain ⟨p, hp⟩ : ∃ p, wFunc ++ q = p := ⟨_, rfl⟩
 rw [hp] at CT CP
 clear hq D1 D2 hp htt hts hf
 go_enter Tryz.func40, Tryz.ntmps40
 go_wp2_with fail
 refine (CT.out _ ((Ext.refl _ _).alloc _)).mono ?_
 rintro e w1 ⟨rfl, X1⟩
 have X1 := hid (((Ext.refl none' w).alloc _).trans X1)
 go_wp2_with fail
 refine (CP.out _).mono ?_
 rintro e w2 ⟨rfl, rfl⟩
 go_wp2_with fail
 go_ret
 exact ⟨rfl, X1.out⟩
end Go.Proofs.YthbmjamgidfneaaGreatDoor
namespace Go.Proofs.YthbmjamgidfneaaGreatDoor
open Go.RowKit Go.Lib
theorem rletter_any (c : Nat) (w : World) : Calls Tryz.prog 110 #[.int .u8 c] w (RetBool (letterB c) w) := by
 obtain ⟨b, hb⟩ : ∃ b, b = letterB c := ⟨_, rfl⟩
 rw [← hb]
 have HB := hid hb
 clear hb
 go_enter Tryz.func110, Tryz.ntmps110
 go_wp2
 all_goals go_ret
 all_goals refine ⟨?_, rfl⟩
 all_goals congr 2
 all_goals rw [HB.out]; simp [letterB]
 all_goals first | omega | (rw [Bool.eq_iff_iff]; simp; omega)
theorem rfigure_any (c : Nat) (w : World) : Calls Tryz.prog 108 #[.int .u8 c] w (RetBool (figB c) w) := by
 obtain ⟨b, hb⟩ : ∃ b, b = figB c := ⟨_, rfl⟩
 rw [← hb]
 have HB := hid hb
 clear hb
 go_enter Tryz.func108, Tryz.ntmps108
 go_wp2
 all_goals go_ret
 all_goals refine ⟨?_, rfl⟩
 all_goals congr 2
 all_goals rw [HB.out]; simp [figB]
 all_goals first | omega | (rw [Bool.eq_iff_iff]; simp; omega)
theorem in_any (s : List UInt8) (b : Nat) (ts : List (List UInt8)) (cap : Nat) (w : World) (hT : Texts w b ts) (hc : ts.length ≤ 1000) :
 Calls Tryz.prog 160 #[.string ⟨s.toArray⟩, .slice (some ⟨b, 0, none⟩) ts.length cap] w (RetBool (decide (s ∈ ts)) w) := by
 obtain ⟨p, hp⟩ : ∃ p, p = decide (s ∈ ts) := ⟨_, rfl⟩
 rw [← hp]
 have HP := hid hp
 have HT := hid hT
 clear hp hT
 go_enter Tryz.func160, Tryz.ntmps160
 go_wp2
 go_loop [5] (fun z => ∃ (i : Nat), z = .int .i64 i ∧ i ≤ ts.length ∧ Hid (s ∉ ts.take i)) (fun z => ts.length - (RowKit.intOf z).toNat)
 case atStart => exact ⟨0, rfl, by omega, hid (by simp)⟩
 case round =>
  obtain ⟨i, rfl, hle, HF⟩ := hrel
  by_cases hi : i < ts.length
  · have g := HT.out i hi
    obtain ⟨t, ht⟩ : ∃ t, ts[i] = t := ⟨_, rfl⟩
    rw [ht] at g
    have HTT := hid ht
    clear ht
    by_cases e : t = s
    · subst e
      go_wp2
      go_ret
      refine ⟨?_, rfl⟩
      rw [HP.out]
      have : t ∈ ts := by rw [← HTT.out]; exact List.getElem_mem hi
      simp [this]
    · have e' : (t == s) = false := by simpa using e
      have E := hid e
      clear e
      go_wp2
      go_round
      case rel =>
       refine ⟨i + 1, by go_num, by omega, hid ?_⟩
       rw [List.take_add_one, List.getElem?_eq_getElem hi, HTT.out]
       simp only [Option.toList_some, List.mem_append, List.mem_singleton, not_or]
       exact ⟨HF.out, fun h => E.out h.symm⟩
      case measure => simp [RowKit.intOf]; omega
  · have e : i = ts.length := by omega
    subst e
    have HF' := hid HF
    have E : Hid (p = false) := hid (by rw [HP.out]; have := HF.out; rw [List.take_length] at this; simp [this])
    go_wp2
    go_ret
    exact ⟨by rw [E.out]; rfl, rfl⟩
theorem rword_any (s : List UInt8) (w : World) : Calls Tryz.prog 109 #[.string ⟨s.toArray⟩] w fun e w' => e = .returned (.int .i64 (wordK s : Nat)) ∧ Ext none' w w' := by
 obtain ⟨b, hb⟩ : ∃ b, b = wordK s := ⟨_, rfl⟩
 rw [← hb]
 unfold wordK at hb
 have HB := hid hb
 clear hb
 have C1 : ∀ w2 b2 cap, Hid (Texts w2 b2 words1) → Calls Tryz.prog 160 #[.string ⟨s.toArray⟩, .slice (some ⟨b2, 0, none⟩) 14 cap] w2 (RetBool (decide (s ∈ words1)) w2) := fun w2 b2 cap h => in_any s b2 words1 cap w2 h.out (by decide)
 have C2 : ∀ w2 b2 cap, Hid (Texts w2 b2 words2) → Calls Tryz.prog 160 #[.string ⟨s.toArray⟩, .slice (some ⟨b2, 0, none⟩) 11 cap] w2 (RetBool (decide (s ∈ words2)) w2) := fun w2 b2 cap h => in_any s b2 words2 cap w2 h.out (by decide)
 have H1 := hid C1
 have H2 := hid C2
 clear C1 C2
 go_enter Tryz.func109, Tryz.ntmps109
 go_wp2_with fail
 refine (H1.out _ _ _ (hid (texts_of (heap_alloc_at rfl _) rfl))).mono ?_
 rintro e w1 ⟨rfl, rfl⟩
 by_cases h1 : s ∈ words1
 · have e1 : decide (s ∈ words1) = true := by simpa using h1
   rw [e1]
   have E : Hid (b = 1) := hid (by rw [HB.out, if_pos h1])
   clear h1 e1
   go_wp2_with fail
   go_ret
   exact ⟨by rw [E.out]; rfl, (Ext.refl _ _).alloc _⟩
 · have e1 : decide (s ∈ words1) = false := by simpa using h1
   rw [e1]
   have HB2 : Hid (b = if s ∈ words2 then 2 else 0) := hid (by rw [HB.out, if_neg h1])
   clear h1 e1
   go_wp2_with fail
   refine (H2.out _ _ _ (hid (texts_of (heap_alloc_at (by simp) _) rfl))).mono ?_
   rintro e w1 ⟨rfl, rfl⟩
   by_cases h1 : s ∈ words2
   · have e1 : decide (s ∈ words2) = true := by simpa using h1
     rw [e1]
     have E : Hid (b = 2) := hid (by rw [HB2.out, if_pos h1])
     clear h1 e1
     go_wp2_with fail
     go_ret
     exact ⟨by rw [E.out]; rfl, ((Ext.refl _ _).alloc _).alloc _⟩
   · have e1 : decide (s ∈ words2) = false := by simpa using h1
     rw [e1]
     have E : Hid (b = 0) := hid (by rw [HB2.out, if_neg h1])
     clear h1 e1
     go_wp2_with fail
     go_ret
     exact ⟨by rw [E.out]; rfl, ((Ext.refl _ _).alloc _).alloc _⟩
end Go.Proofs.YthbmjamgidfneaaGreatDoor
namespace Go.Proofs.YthbmjamgidfneaaGreatDoor
open Go.RowKit Go.Lib Go.BigFrame
theorem nameB_word {s : List UInt8} (h : wordK s ≠ 0) : nameB s = false := by
 cases s with
 | nil => rfl
 | cons c t =>
  show (!figB c.toNat && wordK (c :: t) == 0 && (c :: t).all idB) = false
  have : (wordK (c :: t) == 0) = false := by simpa using h
  rw [this]; simp
theorem rname_any (s : List UInt8) (w : World) (hs : s.length ≤ 1000000) : Calls Tryz.prog 71 #[.string ⟨s.toArray⟩] w (BoolPost (nameB s) w) := by
 obtain ⟨p, hp⟩ : ∃ p, p = nameB s := ⟨_, rfl⟩
 rw [← hp]
 have HP := hid hp
 clear hp
 by_cases hs0 : s = []
 · subst hs0
   have hp0 : Hid (p = false) := hid (by rw [HP.out]; rfl)
   go_enter Tryz.func71, Tryz.ntmps71
   go_wp2_with fail
   go_ret
   exact ⟨by rw [hp0.out]; rfl, Ext.refl _ _⟩
 · have hsb : (s == []) = false := by simpa using hs0
   have hl0 : 0 < s.length := List.length_pos_iff.2 hs0
   have hix : ((⟨s.toArray⟩ : ByteArray)[0]'(by rw [bsize]; exact hl0)).toNat = s[0].toNat := by
    show ((s.toArray)[0]'_).toNat = _
    simp
   have hsc : s = s[0] :: s.drop 1 := by
    conv => lhs; rw [← List.drop_zero (l := s)]
    exact List.drop_eq_getElem_cons hl0
   have CR := hid (rword_any s w)
   have CF := hid (rfigure_any s[0].toNat w)
   have NF : Hid (figB s[0].toNat = true → p = false) := hid fun hf => by rw [HP.out, hsc]; exact nameB_fig hf
   have NH : Hid (figB s[0].toNat = false → ∀ c t, s = c :: t → figB c.toNat = false) := hid fun hf c t hst => by subst hst; exact hf
   have NW : Hid (wordK s ≠ 0 → p = false) := hid fun h => by rw [HP.out]; exact nameB_word h
   obtain ⟨x, hx⟩ : ∃ x, s[0].toNat = x := ⟨_, rfl⟩
   rw [hx] at hix CF NF NH
   have HSC := hid hsc
   clear hsc hx
   obtain ⟨fb, hfb⟩ : ∃ b, figB x = b := ⟨_, rfl⟩
   rw [hfb] at CF NF NH
   clear hfb
   cases fb with
   | true =>
    have hp0 := hid (NF.out rfl)
    go_enter Tryz.func71, Tryz.ntmps71
    go_wp2_with (go_at_call 108; refine CF.out.mono ?_; rintro e w1 ⟨rfl, rfl⟩)
    go_ret
    exact ⟨by rw [hp0.out]; rfl, Ext.refl _ _⟩
   | false =>
    by_cases hw : wordK s = 0
    · rw [hw] at CR
      have HW := hid hw
      have hh := NH.out rfl
      have HH := hid hh
      clear hh NW NF NH hw
      go_enter Tryz.func71, Tryz.ntmps71
      go_wp2_with (go_at_call 108; refine CF.out.mono ?_; rintro e w1 ⟨rfl, rfl⟩)
      refine CR.out.mono ?_
      rintro e w1 ⟨rfl, X1⟩
      have X1 := hid X1
      clear hix
      go_wp2_with fail
      go_loop [3] (fun z => ∃ (i : Nat), z = .int .i64 i ∧ i ≤ s.length ∧ Hid (∀ c ∈ s.take i, idB c = true)) (fun z => s.length - (RowKit.intOf z).toNat)
      case atStart => exact ⟨0, rfl, by omega, hid (by simp)⟩
      case round =>
       obtain ⟨i, rfl, hle, HA⟩ := hrel
       by_cases hi : i < s.length
       · have hix : ((⟨s.toArray⟩ : ByteArray)[i]'(by rw [bsize]; exact hi)).toNat = s[i].toNat := by
          show ((s.toArray)[i]'_).toNat = _
          simp
         have CL := hid (rletter_any s[i].toNat w1)
         have CG := hid (rfigure_any s[i].toNat w1)
         have hidb : idB s[i] = (letterB s[i].toNat || figB s[i].toNat) := rfl
         obtain ⟨lb, hlb⟩ : ∃ b, letterB s[i].toNat = b := ⟨_, rfl⟩
         obtain ⟨gb, hgb⟩ : ∃ b, figB s[i].toNat = b := ⟨_, rfl⟩
         rw [hlb] at CL hidb
         rw [hgb] at CG hidb
         have NO : Hid ((lb || gb) = false → p = false) := hid fun h => by rw [HP.out]; exact nameB_no hi (by rw [hidb, h])
         have NX : Hid ((lb || gb) = true → ∀ c ∈ s.take (i + 1), idB c = true) := hid fun h c hc => by
          rw [List.take_add_one, List.getElem?_eq_getElem hi] at hc
          simp only [Option.toList_some, List.mem_append, List.mem_singleton] at hc
          rcases hc with hc | rfl
          · exact HA.out c hc
          · rw [hidb, h]
         obtain ⟨y, hy⟩ : ∃ y, s[i].toNat = y := ⟨_, rfl⟩
         rw [hy] at hix CL CG
         clear hlb hgb hidb hy
         cases lb with
         | true =>
          have N := hid (NX.out rfl)
          clear NX NO
          go_wp2_with (go_at_call 110; refine CL.out.mono ?_; rintro e w1 ⟨rfl, rfl⟩)
          go_round
          case rel => exact ⟨i + 1, by go_num, by omega, N⟩
          case measure => simp [RowKit.intOf]; omega
         | false =>
          cases gb with
          | true =>
           have N := hid (NX.out rfl)
           clear NX NO
           go_wp2_with (first | (go_at_call 110; refine CL.out.mono ?_; rintro e w1 ⟨rfl, rfl⟩) | (go_at_call 108; refine CG.out.mono ?_; rintro e w1 ⟨rfl, rfl⟩))
           go_round
           case rel => exact ⟨i + 1, by go_num, by omega, N⟩
           case measure => simp [RowKit.intOf]; omega
          | false =>
           have hp0 := hid (NO.out rfl)
           clear NX NO
           go_wp2_with (first | (go_at_call 110; refine CL.out.mono ?_; rintro e w1 ⟨rfl, rfl⟩) | (go_at_call 108; refine CG.out.mono ?_; rintro e w1 ⟨rfl, rfl⟩))
           go_ret
           exact ⟨by rw [hp0.out]; rfl, X1.out⟩
       · have hpe : Hid (p = true) := hid (by
          rw [HP.out, nameB_end hs0 (fun c hc => HA.out c (by rw [List.take_of_length_le (by omega)]; exact hc)) HH.out, HW.out]
          rfl)
         obtain rfl : i = s.length := by omega
         go_wp2_with fail
         go_ret
         exact ⟨by rw [hpe.out]; rfl, X1.out⟩
    · have hp0 := hid (NW.out hw)
      obtain ⟨k, hk⟩ : ∃ k, wordK s = k := ⟨_, rfl⟩
      rw [hk] at CR hw
      have hk0 : ((k : Int) != 0) = true := by simp; omega
      clear NW NF NH hk hw
      go_enter Tryz.func71, Tryz.ntmps71
      go_wp2_with (go_at_call 108; refine CF.out.mono ?_; rintro e w1 ⟨rfl, rfl⟩)
      refine CR.out.mono ?_
      rintro e w1 ⟨rfl, X1⟩
      have X1 := hid X1
      go_wp2_with fail
      go_ret
      exact ⟨by rw [hp0.out]; rfl, X1.out⟩
theorem rnm_any (s : List UInt8) (w : World) : Calls Tryz.prog 31 #[.string ⟨s.toArray⟩] w (BoolP (nmB s) w) := by
 obtain ⟨r, hr⟩ : ∃ r, r = nmB s := ⟨_, rfl⟩
 rw [← hr]
 unfold nmB at hr
 by_cases hs : s.length ≤ 100
 · have q : decide (s.length ≤ 100) = true := decide_eq_true hs
   rw [q] at hr
   have HR := hid hr
   have CN := hid fun W => rname_any s W (by omega)
   obtain ⟨b, hb⟩ : ∃ b, nameB s = b := ⟨_, rfl⟩
   rw [hb] at CN HR
   have hz : (s.length : Int) ≤ 100 := by omega
   clear hr hb
   go_enter Tryz.func31, Tryz.ntmps31
   go_wp2_with fail
   refine (CN.out _).mono ?_
   rintro e w1 ⟨rfl, X1⟩
   have X1 := hid X1
   go_wp2_with fail
   go_ret
   exact ⟨by rw [HR.out]; cases b <;> rfl, X1.out⟩
 · have q : decide (s.length ≤ 100) = false := decide_eq_false hs
   rw [q] at hr
   have HR := hid hr
   have hz : ¬ (s.length : Int) ≤ 100 := by omega
   clear hr
   go_enter Tryz.func31, Tryz.ntmps31
   go_wp2_with fail
   go_ret
   exact ⟨by rw [HR.out]; rfl, Ext.refl _ _⟩
theorem rnothing_any (t : Nd) (v : Value) (w : World) (hv : NdV none' w t v) : Calls Tryz.prog 80 #[v] w (BoolP (emptyB t) w) := by
 obtain ⟨x, rfl, hx⟩ := hv
 obtain ⟨a1, cap1, rfl, _⟩ := hx
 cases t with
 | mk k n l ps =>
 simp only [Nd.kind, Nd.text, Nd.kids, Nd.pos]
 by_cases hk : k = 0
 · have q1 : (k == 0) = true := by simpa using hk
   by_cases hn : n = []
   · have q2 : (n == []) = true := by simpa using hn
     by_cases hl : l = []
     · have e : emptyB (.mk k n l ps) = true := by subst hk hn hl; rfl
       rw [e]
       have q3 : ((l.length : Int) == 0) = true := by subst hl; rfl
       have q4 : l.length = 0 := by subst hl; rfl
       clear hk hn hl e
       go_enter Tryz.func80, Tryz.ntmps80
       go_wp2_with fail
       go_ret
       exact ⟨by simp_all, (Ext.refl _ _).alloc _⟩
     · have e : emptyB (.mk k n l ps) = false := by
        have : l.isEmpty = false := by simpa using hl
        simp [emptyB, Nd.kids, this]
       rw [e]
       have hz : 0 < l.length := List.length_pos_iff.2 hl
       have q3 : ((l.length : Int) == 0) = false := by simp only [beq_eq_false_iff_ne]; omega
       clear hk hn hl e
       go_enter Tryz.func80, Tryz.ntmps80
       go_wp2_with fail
       go_ret
       exact ⟨by simp_all, (Ext.refl _ _).alloc _⟩
   · have q2 : (n == []) = false := by simpa using hn
     have e : emptyB (.mk k n l ps) = false := by simp [emptyB, Nd.text, q2]
     rw [e]
     clear hk hn e
     go_enter Tryz.func80, Tryz.ntmps80
     go_wp2_with fail
     go_ret
     exact ⟨by simp_all, (Ext.refl _ _).alloc _⟩
 · have q1 : (k == 0) = false := by simpa using hk
   have e : emptyB (.mk k n l ps) = false := by simp [emptyB, Nd.kind, q1]
   rw [e]
   clear hk e
   go_enter Tryz.func80, Tryz.ntmps80
   go_wp2_with fail
   go_ret
   exact ⟨by simp_all, (Ext.refl _ _).alloc _⟩
def soB (nm : Bool) (s : List UInt8) : Bool := if nm then nmB s else s == []
theorem soB_false : soB false = noT := rfl
abbrev RTyH (f : Nat) (ty : Nd → Bool) : Prop := ∀ (t : Nd), t.size ≤ f → ∀ (v : Value) (w : World), NdV none' w t v → Calls Tryz.prog 33 #[v] w (BoolP (ty t) w)
theorem sigB_two {ty : Nd → Bool} {so : List UInt8 → Bool} {t : Nd} (h : t.kids.length = 2) : sigB ty so t = (t.kind == 12 && t.text == [] && ((t.kid 0).kind == 6 && (t.kid 0).text == [] && (t.kid 0).kids.all (namB so 8 [ty]) && (emptyB (t.kid 1) || ty (t.kid 1)))) := by
 unfold sigB ofB listB
 match h' : t.kids, h with
 | [l, r], _ =>
  have e0 : t.kid 0 = l := by unfold Nd.kid; rw [h']; rfl
  have e1 : t.kid 1 = r := by unfold Nd.kid; rw [h']; rfl
  rw [e0, e1]
  simp [kidsB]
theorem sigB_len {ty : Nd → Bool} {so : List UInt8 → Bool} {t : Nd} (h : t.kids.length ≠ 2) : sigB ty so t = false := by
 unfold sigB ofB
 rw [kidsB_no (by simpa using h), Bool.and_false]
theorem namB_one {so : List UInt8 → Bool} {ty : Nd → Bool} {k : Int} {t : Nd} (h : t.kids.length = 1) : namB so k [ty] t = (t.kind == k && so t.text && ty (t.kid 0)) := by
 unfold namB
 match h' : t.kids, h with
 | [x], _ =>
  have e0 : t.kid 0 = x := by unfold Nd.kid; rw [h']; rfl
  rw [e0]
  simp [kidsB]
theorem namB_len {so : List UInt8 → Bool} {ty : Nd → Bool} {k : Int} {t : Nd} (h : t.kids.length ≠ 1) : namB so k [ty] t = false := by
 unfold namB
 rw [kidsB_no (by simpa using h), Bool.and_false]
theorem kid_mem {t : Nd} {i : Nat} (h : i < t.kids.length) : t.kid i ∈ t.kids := by
 have e : t.kid i = t.kids[i] := by unfold Nd.kid; rw [List.getD_eq_getElem?_getD, List.getElem?_eq_getElem h]; rfl
 rw [e]; exact List.getElem_mem h
structure SgM (w : World) (b off : Nat) (k0 k1 k2 m0 m1 m2 m3 : Value) : Prop where
 k0 : w.cell? ⟨b, off, none⟩ = some k0
 k1 : w.cell? ⟨b, off + 1, none⟩ = some k1
 k2 : w.cell? ⟨b, off + 2, none⟩ = some k2
 m0 : w.cell? ⟨b, off + 4, none⟩ = some m0
 m1 : w.cell? ⟨b, off + 4 + 1, none⟩ = some m1
 m2 : w.cell? ⟨b, off + 4 + 2, none⟩ = some m2
 m3 : w.cell? ⟨b, off + 4 + 3, none⟩ = some m3
theorem rsig_any (f : Nat) (hf : f + 1 ≤ bigD) (ty : Nd → Bool) (H : RTyH f ty) (nm : Bool) (t : Nd) (ht : t.size ≤ f + 1) (v : Value) (w : World) (hv : NdV none' w t v) :
 Calls Tryz.prog 36 #[v, .bool nm] w (BoolP (sigB ty (soB nm) t) w) := by
 obtain ⟨x, rfl, hx⟩ := hv
 have HX := hid hx
 obtain ⟨a1, cap1, rfl, _⟩ := hx
 obtain ⟨r, hr⟩ : ∃ r, r = sigB ty (soB nm) t := ⟨_, rfl⟩
 rw [← hr]
 have HR := hid hr
 have HT := hid ht
 have HH := hid H
 have HH2 := hid H
 obtain ⟨tk, htk⟩ : ∃ k, t.kind = k := ⟨_, rfl⟩
 have HTK := hid htk
 rw [htk]
 obtain ⟨tx, htx⟩ : ∃ k, t.text = k := ⟨_, rfl⟩
 have HTX := hid htx
 rw [htx]
 have hkb : t.kids.length ≤ 20000000000 := by have := t.kids_len; unfold bigD at hf; omega
 clear hr ht H htk htx
 go_enter Tryz.func36, Tryz.ntmps36
 go_upto_region 1 with (fail)
 obtain ⟨B, hB⟩ : ∃ B, B = w.heap.size := ⟨_, rfl⟩
 obtain ⟨W1, hW1⟩ : ∃ W1, W1 = w.alloc (.cells #[.int .i64 tk, .string ⟨tx.toArray⟩, .slice a1 t.kids.length cap1, .int .i64 t.pos] 24) := ⟨_, rfl⟩
 rw [← hW1, ← hB]
 have X1 := hid (show Ext none' w W1 by rw [hW1]; exact (Ext.refl _ _).alloc _)
 have G0 := hid (show W1.heap[B]? = some (.cells #[.int .i64 tk, .string ⟨tx.toArray⟩, .slice a1 t.kids.length cap1, .int .i64 t.pos] 24 (0, 0)) by rw [hW1]; exact heap_alloc_at hB _)
 clear hW1 hB
 have c0 := cell_at G0.out 0
 have c1 := cell_at G0.out 1
 have c2 := cell_at G0.out 2
 simp only [List.getElem?_toArray, List.getElem?_cons_zero, List.getElem?_cons_succ] at c0 c1 c2
 by_cases h12 : tk = 12
 case neg =>
  have q : (tk != 12) = true := by simpa using h12
  have E : Hid (r = false) := hid (by
   rw [HR.out]; unfold sigB ofB
   have : (t.kind == 12) = false := by rw [HTK.out]; simpa using h12
   rw [this]; rfl)
  clear h12
  go_wp2_with fail
  go_ret
  exact ⟨by rw [E.out]; rfl, X1.out⟩
 have q12 : (tk != 12) = false := by simpa using h12
 by_cases hx0 : tx = []
 case neg =>
  have q : (tx != []) = true := by simpa using hx0
  have q' : tx.isEmpty = false := by simpa using hx0
  have E : Hid (r = false) := hid (by
   rw [HR.out]; unfold sigB ofB
   have : (t.text == []) = false := by rw [HTX.out]; simpa using hx0
   rw [this]; simp)
  clear h12 hx0
  go_wp2_with fail
  go_ret
  exact ⟨by rw [E.out]; rfl, X1.out⟩
 have qx : (tx != []) = false := by simpa using hx0
 have qx' : tx.isEmpty = true := by simpa using hx0
 by_cases hl : t.kids.length = 2
 case neg =>
  have q : ((t.kids.length : Int) != 2) = true := by simp only [bne_iff_ne, ne_eq]; omega
  have E : Hid (r = false) := hid (by rw [HR.out, sigB_len hl])
  clear h12 hx0 hl
  go_wp2_with fail
  go_ret
  exact ⟨by rw [E.out]; rfl, X1.out⟩
 have ql : ((t.kids.length : Int) != 2) = false := by simp only [bne_eq_false_iff_eq]; omega
 have y0 : (0 : Int) < (t.kids.length : Int) := by omega
 have y1 : (1 : Int) < (t.kids.length : Int) := by omega
 have HL := hid hl
 have HR2 := hid (show r = ((t.kid 0).kind == 6 && (t.kid 0).text == [] && (t.kid 0).kids.all (namB (soB nm) 8 [ty]) && (emptyB (t.kid 1) || ty (t.kid 1))) by
  rw [HR.out, sigB_two hl, HTK.out, HTX.out, h12, hx0]; rfl)
 obtain ⟨b, off, x0, rfl, hbw, k0, k1, k2, k3, hx0'⟩ := kid_val (HX.out.ext isNd_good X1.out fun _ _ h => h) 0 (by omega)
 obtain ⟨b', off', x1, e1, hbw1, m0, m1, m2, m3, hx1'⟩ := kid_val (HX.out.ext isNd_good X1.out fun _ _ h => h) 1 (by omega)
 injection e1 with e1
 injection e1 with e1 e2 _
 subst e1 e2
 simp only [Nat.zero_mul, Nat.one_mul, Nat.add_zero] at k0 k1 k2 k3 m0 m1 m2 m3
 have HX0 := hid hx0'
 have HX1 := hid hx1'
 obtain ⟨a2, cap2, rfl, _⟩ := hx0'
 obtain ⟨a3, cap3, rfl, _⟩ := hx1'
 have hs0 := hid (show (t.kid 0).size ≤ f by have := Nd.size_kid (kid_mem (t := t) (i := 0) (by omega)); have := HT.out; omega)
 have hs1 := hid (show (t.kid 1).size ≤ f by have := Nd.size_kid (kid_mem (t := t) (i := 1) (by omega)); have := HT.out; omega)
 have CN := hid fun W (X : Ext none' W1 W) => rnothing_any (t.kid 1) (.agg #[.int .i64 (t.kid 1).kind, .string ⟨(t.kid 1).text.toArray⟩, .slice a3 (t.kid 1).kids.length cap3, .int .i64 (t.kid 1).pos]) W ⟨_, rfl, HX1.out.ext isNd_good X fun _ _ h => h⟩
 have CT := hid fun W (X : Ext none' W1 W) => HH.out (t.kid 1) hs1.out (.agg #[.int .i64 (t.kid 1).kind, .string ⟨(t.kid 1).text.toArray⟩, .slice a3 (t.kid 1).kids.length cap3, .int .i64 (t.kid 1).pos]) W ⟨_, rfl, HX1.out.ext isNd_good X fun _ _ h => h⟩
 obtain ⟨en, hen⟩ : ∃ q, emptyB (t.kid 1) = q := ⟨_, rfl⟩
 obtain ⟨yn, hyn⟩ : ∃ q, ty (t.kid 1) = q := ⟨_, rfl⟩
 rw [hen] at CN HR2
 rw [hyn] at CT HR2
 obtain ⟨n1, hn1⟩ : ∃ n, t.kid 1 = n := ⟨_, rfl⟩
 rw [hn1] at m0 m1 m2 m3 CN CT
 obtain ⟨p0, hp0⟩ : ∃ n, t.kid 0 = n := ⟨_, rfl⟩
 have hpl := p0.kids_len
 rw [hp0] at k0 k1 k2 k3 HR2 HX0 hs0
 obtain ⟨pk, hpk⟩ : ∃ k, p0.kind = k := ⟨_, rfl⟩
 obtain ⟨pt, hpt⟩ : ∃ k, p0.text = k := ⟨_, rfl⟩
 rw [hpk] at k0 HR2
 rw [hpt] at k1 HR2
 clear h12 hx0 hl hen hyn hn1 hpk hpt HR HH hp0
 by_cases h6 : pk = 6
 case neg =>
  have q : (pk != 6) = true := by simpa using h6
  have E : Hid (r = false) := hid (by
   rw [HR2.out]
   have : (pk == 6) = false := by simpa using h6
   rw [this]; rfl)
  clear h6
  go_wp2_with fail
  go_ret
  exact ⟨by rw [E.out]; rfl, X1.out⟩
 have q6 : (pk != 6) = false := by simpa using h6
 by_cases hpt0 : pt = []
 case neg =>
  have q : (pt != []) = true := by simpa using hpt0
  have q' : pt.isEmpty = false := by simpa using hpt0
  have E : Hid (r = false) := hid (by
   rw [HR2.out]
   have : (pt == []) = false := by simpa using hpt0
   rw [this]; simp)
  clear h6 hpt0
  go_wp2_with fail
  go_ret
  exact ⟨by rw [E.out]; rfl, X1.out⟩
 have qt : (pt != []) = false := by simpa using hpt0
 have qt' : pt.isEmpty = true := by simpa using hpt0
 have M := hid (SgM.mk k0 k1 k2 m0 m1 m2 m3)
 have HR3 := hid (show r = (p0.kids.all (namB (soB nm) 8 [ty]) && (en || yn)) by rw [HR2.out, h6, hpt0]; rfl)
 clear h6 hpt0 HR2
 go_wp2_with fail
 refine (CN.out _ (Ext.refl _ _)).mono ?_
 rintro e W2 ⟨rfl, X2⟩
 have X2 := hid X2
 clear c0 c1 c2 k0 k1 k2 k3 m0 m1 m2 m3
 have c2 := cell_at (X2.out.heap G0.out fun h => h) 2
 simp only [List.getElem?_toArray, List.getElem?_cons_zero, List.getElem?_cons_succ] at c2
 have k0 := (X2.out.cell (p := ⟨b, off, none⟩) hbw fun h => h).trans M.out.k0
 have k1 := (X2.out.cell (p := ⟨b, off + 1, none⟩) hbw fun h => h).trans M.out.k1
 have k2 := (X2.out.cell (p := ⟨b, off + 2, none⟩) hbw fun h => h).trans M.out.k2
 have m0 := (X2.out.cell (p := ⟨b, off + 4, none⟩) hbw fun h => h).trans M.out.m0
 have m1 := (X2.out.cell (p := ⟨b, off + 4 + 1, none⟩) hbw fun h => h).trans M.out.m1
 have m2 := (X2.out.cell (p := ⟨b, off + 4 + 2, none⟩) hbw fun h => h).trans M.out.m2
 have m3 := (X2.out.cell (p := ⟨b, off + 4 + 3, none⟩) hbw fun h => h).trans M.out.m3
 cases en
 case' true =>
  have HR4 := hid (show r = p0.kids.all (namB (soB nm) 8 [ty]) by rw [HR3.out]; simp)
  obtain ⟨W3, hW3⟩ : ∃ W3, W3 = W2 := ⟨_, rfl⟩
  have X3 := hid (show Ext none' W1 W3 by rw [hW3]; exact X2.out)
  rw [← hW3] at c2 k0 k1 k2 m0 m1 m2 m3 ⊢
  clear hW3
  go_upto_region 3 with (fail)
 case' false =>
  go_wp2_with fail
  refine (CT.out _ X2.out).mono ?_
  rintro e W3 ⟨rfl, X3⟩
  have X3 := hid (X2.out.trans X3)
  clear c2 k0 k1 k2 m0 m1 m2 m3
  have c2 := cell_at (X3.out.heap G0.out fun h => h) 2
  simp only [List.getElem?_toArray, List.getElem?_cons_zero, List.getElem?_cons_succ] at c2
  have k0 := (X3.out.cell (p := ⟨b, off, none⟩) hbw fun h => h).trans M.out.k0
  have k1 := (X3.out.cell (p := ⟨b, off + 1, none⟩) hbw fun h => h).trans M.out.k1
  have k2 := (X3.out.cell (p := ⟨b, off + 2, none⟩) hbw fun h => h).trans M.out.k2
  have m0 := (X3.out.cell (p := ⟨b, off + 4, none⟩) hbw fun h => h).trans M.out.m0
  have m1 := (X3.out.cell (p := ⟨b, off + 4 + 1, none⟩) hbw fun h => h).trans M.out.m1
  have m2 := (X3.out.cell (p := ⟨b, off + 4 + 2, none⟩) hbw fun h => h).trans M.out.m2
  have m3 := (X3.out.cell (p := ⟨b, off + 4 + 3, none⟩) hbw fun h => h).trans M.out.m3
  cases yn
  case false =>
   have E : Hid (r = false) := hid (by rw [HR3.out]; simp)
   go_wp2_with fail
   go_ret
   exact ⟨by rw [E.out]; rfl, X1.out.trans X3.out⟩
  have HR4 := hid (show r = p0.kids.all (namB (soB nm) 8 [ty]) by rw [HR3.out]; simp)
  go_upto_region 3 with (fail)
 all_goals
  have hpb : p0.kids.length ≤ 20000000000 := by have := hs0.out; unfold bigD at hf; omega
  go_wp2_with fail
  clear c2 k0 k1 k2 m0 m1 m2 m3
  go_loopw [6] (fun z wr => ∃ (i : Nat), z = .int .i64 (i : Nat) ∧ i ≤ p0.kids.length ∧ Hid (Ext none' W1 wr ∧ ∀ j (h : j < p0.kids.length), j < i → namB (soB nm) 8 [ty] p0.kids[j] = true)) (fun z _ => p0.kids.length - (RowKit.intOf z).toNat)
  case atStart => exact ⟨0, rfl, by omega, hid ⟨X3.out, fun j _ h => by omega⟩⟩
  case round =>
   obtain ⟨i, rfl, hle, RR⟩ := hrel
   by_cases hi : i < p0.kids.length
   · obtain ⟨b5, off5, cs5, rfl, _, hw5, hcc5, ht5⟩ := (HX0.out.ext isNd_good RR.out.1 fun _ _ h => h).at i hi
     obtain ⟨x5, rfl, hx5⟩ := ht5.parts
     have d0 := hcc5 0 _ rfl
     have d1 := hcc5 1 _ rfl
     have d2 := hcc5 2 _ rfl
     simp only [Nat.add_zero] at d0
     have hmem := List.getElem_mem hi
     have hqs := hid (show (p0.kids[i]).size ≤ f by have := Nd.size_kid hmem; have := hs0.out; omega)
     have HAT := hid (show ∀ (h : i < p0.kids.length), p0.kids[i] = p0.kids[i] from fun _ => rfl)
     obtain ⟨p, hp⟩ : ∃ p, p0.kids[i] = p := ⟨_, rfl⟩
     have HP := hid hp
     rw [hp] at d0 d1 hx5 hqs hmem
     have HX5 := hid hx5
     obtain ⟨a6, cap6, rfl, _⟩ := hx5
     have HM := hid hmem
     have hpkl : p.kids.length ≤ 20000000000 := by have := p.kids_len; have := hqs.out; unfold bigD at hf; omega
     have NO : Hid (namB (soB nm) 8 [ty] p = false → r = false) := hid fun h => by
      rw [HR4.out, List.all_eq_false]
      exact ⟨p, HM.out, by rw [h]; simp⟩
     clear hcc5 ht5 hp hmem HAT
     obtain ⟨ek, hek⟩ : ∃ k, p.kind = k := ⟨_, rfl⟩
     obtain ⟨et, het⟩ : ∃ k, p.text = k := ⟨_, rfl⟩
     have HEK := hid hek
     have HET := hid het
     rw [hek] at d0
     rw [het] at d1
     clear hek het
     have XR := hid (X1.out.trans RR.out.1)
     by_cases h8 : ek = 8
     case neg =>
      have q : (ek != 8) = true := by simpa using h8
      have E := hid (NO.out (by
       unfold namB
       have : (p.kind == 8) = false := by rw [HEK.out]; simpa using h8
       rw [this]; rfl))
      clear h8
      go_wp2_with fail
      go_ret
      exact ⟨by rw [E.out]; rfl, XR.out⟩
     have q8 : (ek != 8) = false := by simpa using h8
     by_cases h1 : p.kids.length = 1
     case neg =>
      have q : ((p.kids.length : Int) != 1) = true := by simp only [bne_iff_ne, ne_eq]; omega
      have E := hid (NO.out (namB_len h1))
      clear h8 h1
      go_wp2_with fail
      go_ret
      exact ⟨by rw [E.out]; rfl, XR.out⟩
     have q1 : ((p.kids.length : Int) != 1) = false := by simp only [bne_eq_false_iff_eq]; omega
     have y5 : (0 : Int) < (p.kids.length : Int) := by omega
     have HN := hid (show namB (soB nm) 8 [ty] p = (soB nm et && ty (p.kid 0)) by rw [namB_one h1, HEK.out, HET.out, h8]; rfl)
     obtain ⟨b7, off7, x7, rfl, hbw7, j0, j1, j2, j3, hx7⟩ := kid_val HX5.out 0 (by omega)
     simp only [Nat.zero_mul, Nat.add_zero] at j0 j1 j2 j3
     have HX7 := hid hx7
     obtain ⟨a8, cap8, rfl, _⟩ := hx7
     have CQ := hid (HH2.out (p.kid 0) (by have := Nd.size_kid (kid_mem (t := p) (i := 0) (by omega)); have := hqs.out; omega) (.agg #[.int .i64 (p.kid 0).kind, .string ⟨(p.kid 0).text.toArray⟩, .slice a8 (p.kid 0).kids.length cap8, .int .i64 (p.kid 0).pos]) wr ⟨_, rfl, HX7.out⟩)
     obtain ⟨yq, hyq⟩ : ∃ q, ty (p.kid 0) = q := ⟨_, rfl⟩
     rw [hyq] at CQ HN
     obtain ⟨n7, hn7⟩ : ∃ n, p.kid 0 = n := ⟨_, rfl⟩
     rw [hn7] at j0 j1 j2 j3 CQ
     clear h8 h1 hyq hn7
     go_wp2_with fail
     refine CQ.out.mono ?_
     rintro e W5 ⟨rfl, X5⟩
     have X5' := hid (RR.out.1.trans X5)
     have d1' := (X5.cell (p := ⟨b5, off5 + i * 4 + 1, none⟩) hw5 fun h => h).trans d1
     have X5' := hid X5'
     have XR5 := hid (X1.out.trans X5'.out)
     clear d0 d1 d2 j0 j1 j2 j3 X5
     have YES : Hid (namB (soB nm) 8 [ty] p = true → Ext none' W1 W5 ∧ ∀ j (h : j < p0.kids.length), j < i + 1 → namB (soB nm) 8 [ty] p0.kids[j] = true) := hid fun h => ⟨X5'.out, fun j hj hji => by
      by_cases e : j = i
      · subst e; rw [HP.out]; exact h
      · exact RR.out.2 j hj (by omega)⟩
     cases yq
     case false =>
      have E := hid (NO.out (by rw [HN.out, Bool.and_false]))
      go_wp2_with fail
      go_ret
      exact ⟨by rw [E.out]; rfl, XR5.out⟩
     cases nm
     case true =>
      have CM := hid fun W => rnm_any et W
      obtain ⟨qn, hqn⟩ : ∃ q, nmB et = q := ⟨_, rfl⟩
      rw [hqn] at CM
      have HN2 := hid (show namB (soB true) 8 [ty] p = qn by rw [HN.out, ← hqn, Bool.and_true]; rfl)
      clear hqn
      go_wp2_with fail
      refine (CM.out _).mono ?_
      rintro e W6 ⟨rfl, X6⟩
      have X6 := hid X6
      clear d1'
      cases qn
      case false =>
       have E := hid (NO.out HN2.out)
       go_wp2_with fail
       go_ret
       exact ⟨by rw [E.out]; rfl, XR5.out.trans X6.out⟩
      have N := hid (YES.out HN2.out)
      have N2 : Hid (Ext none' W1 W6 ∧ ∀ j (h : j < p0.kids.length), j < i + 1 → namB (soB true) 8 [ty] p0.kids[j] = true) := hid ⟨N.out.1.trans X6.out, N.out.2⟩
      go_wp2_with fail
      go_roundw
      case rel => exact ⟨i + 1, by go_num, by omega, N2⟩
      case measure => simp [RowKit.intOf]; omega
     case false =>
      by_cases he : et = []
      case neg =>
       have q : et.isEmpty = false := by simpa using he
       have E := hid (NO.out (by rw [HN.out, Bool.and_true]; simpa [soB] using he))
       clear he
       go_wp2_with fail
       go_ret
       exact ⟨by rw [E.out]; rfl, XR5.out⟩
      have q : et.isEmpty = true := by simpa using he
      have N := hid (YES.out (by rw [HN.out, Bool.and_true]; simpa [soB] using he))
      clear he
      go_wp2_with fail
      go_roundw
      case rel => exact ⟨i + 1, by go_num, by omega, N⟩
      case measure => simp [RowKit.intOf]; omega
   · have E : Hid (r = true) := hid (by
      rw [HR4.out, List.all_eq_true]
      intro y hy
      obtain ⟨j, hj, rfl⟩ := List.mem_iff_getElem.1 hy
      exact RR.out.2 j hj (by omega))
     obtain rfl : i = p0.kids.length := by omega
     have XR := hid (X1.out.trans RR.out.1)
     go_wp2_with fail
     go_ret
     exact ⟨by rw [E.out]; rfl, XR.out⟩
end Go.Proofs.YthbmjamgidfneaaGreatDoor
