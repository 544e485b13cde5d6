import Derived.Test.YtmlhkgocilpobaaUnFits
import Derived.Test.YtmlhkgocilpobaaStrs
/-
  unify.twice: is a name twice in a row?
-/
namespace Go.Proofs.Ytmlhkgocilpobaa
open Go.RowKit Go.Lib Go.BigFrame
def hasI {α : Type} (p : α → Bool) (l : List α) : Bool := decide (0 ≤ fstI p l)
set_option maxRecDepth 100000 in
set_option maxHeartbeats 1600000 in
theorem istr_any (fn : Nat) (caps : Array Value) (p : List UInt8 → Bool) (A : Nat → Prop) (l : List (List UInt8)) (v : Value) (w : World) (hl : l.length ≤ 1000000000) (hv : IsSl 1 IsStr A w v l)
    (hst : ∀ (i : Nat) (hi : i < l.length) (w' : World), Ext none' w w' → Calls Try.prog fn (#[.string ⟨l[i].toArray⟩] ++ caps) w' (BoolP (p l[i]) w')) (hfn : ∀ args w, (callFunc fn args).run Try.prog w = .ok (.enter fn args) w) :
    Calls Try.prog 38 #[v, .func (.func fn) #[] caps] w (IntP (fstI p l) w) := by
  obtain ⟨q, hq⟩ : ∃ q, q = fstI p l := ⟨_, rfl⟩
  rw [← hq]
  have HQ := hid hq
  have HV := hid hv
  have HST := hid hst
  obtain ⟨a, cap, rfl, hc, hn, _⟩ := hv
  clear hn hst hq
  go_enter Try.func38, Try.ntmps38
  go_wp2_with fail
  go_loopw [5, 8] (fun _ z wr => ∃ (i : Nat), z = .int .i64 (i : Nat) ∧ i ≤ l.length ∧ Hid (Ext none' w wr ∧ ∀ j (h : j < l.length), j < i → p l[j] = false)) (fun _ z _ => l.length - (RowKit.intOf z).toNat)
  case atStart => exact ⟨0, rfl, by omega, hid ⟨Ext.refl _ _, fun j _ h => by omega⟩⟩
  case round =>
    obtain ⟨i, rfl, hle, R⟩ := hrel
    by_cases hi : i < l.length
    · obtain ⟨b, off, cs, rfl, hAb, hbw, hcc, rfl⟩ := (HV.out.ext isStr_good R.out.1 fun _ _ h => h.elim).at i hi
      have c0 := hcc 0 _ rfl
      simp only [Nat.add_zero, Nat.mul_one] at c0
      have HR := hid R.out
      obtain ⟨bb, hbb⟩ : ∃ bb, p l[i] = bb := ⟨_, rfl⟩
      have HBB := hid hbb
      have C2 : Hid (Calls Try.prog fn (#[.string ⟨l[i].toArray⟩] ++ caps) wr (BoolP bb wr)) := hid (by rw [← hbb]; exact HST.out i hi wr R.out.1)
      clear hbb R hcc
      go_wp2_with fail
      refine C2.out.mono ?_
      rintro e w2 ⟨rfl, X2⟩
      have HX2 := hid (HR.out.1.trans X2)
      clear X2
      cases bb with
      | true =>
        have E : Hid (q = (i : Nat)) := hid (by rw [HQ.out]; exact fstI_at hi HBB.out HR.out.2)
        go_wp2_with fail
        go_ret
        exact ⟨by rw [E.out]; rfl, HX2.out⟩
      | false =>
        go_wp2_with fail
        go_roundw
        case rel => exact ⟨i + 1, by go_num, by omega, hid ⟨HX2.out, fun j hj hji => by
            by_cases q : j = i
            · subst q; exact HBB.out
            · exact HR.out.2 j hj (by omega)⟩⟩
        case measure => simp [RowKit.intOf]; omega
    · obtain rfl : i = l.length := by omega
      have E : Hid (q = -1) := hid (by rw [HQ.out]; exact fstI_none fun j hj => R.out.2 j hj hj)
      have HX := hid R.out.1
      clear R
      go_wp2_with fail
      go_ret
      exact ⟨by rw [E.out]; rfl, HX.out⟩
theorem cstr_any (fn : Nat) (caps : Array Value) (p : List UInt8 → Bool) (A : Nat → Prop) (l : List (List UInt8)) (v : Value) (w : World) (hl : l.length ≤ 1000000000) (hv : IsSl 1 IsStr A w v l)
    (hst : ∀ (i : Nat) (hi : i < l.length) (w' : World), Ext none' w w' → Calls Try.prog fn (#[.string ⟨l[i].toArray⟩] ++ caps) w' (BoolP (p l[i]) w')) (hfn : ∀ args w, (callFunc fn args).run Try.prog w = .ok (.enter fn args) w) :
    Calls Try.prog 30 #[v, .func (.func fn) #[] caps] w (BoolP (hasI p l) w) := by
  have C := hid (istr_any fn caps p A l v w hl hv hst hfn)
  obtain ⟨a, cap, rfl, _⟩ := hv
  unfold hasI
  obtain ⟨z, hz⟩ : ∃ z, fstI p l = z := ⟨_, rfl⟩
  rw [hz] at C ⊢
  clear hz hst
  go_enter Try.func30, Try.ntmps30
  go_wp2_with fail
  refine C.out.mono ?_
  rintro e w1 ⟨rfl, X1⟩
  have X1 := hid X1
  go_wp2_with fail
  go_ret
  exact ⟨rfl, X1.out⟩
theorem slNil (W : World) : (binOp .eql 23 (.slice none 0 0) (.slice none 0 0)).run Try.prog W = .ok (.bool true) W := by kernel_rfl
theorem slSome (a : Addr) (n c : Nat) (W : World) : (binOp .eql 23 (.slice (some a) n c) (.slice none 0 0)).run Try.prog W = .ok (.bool false) W := by kernel_rfl
def StrsPost (w : World) (l : List (List UInt8)) (e : Ending) (w' : World) : Prop := ∃ u, e = .returned u ∧ w'.ownsRow w.heap.size 9 1 u l.length (strVals l) ∧ Ext none' w w'
set_option maxRecDepth 100000 in
set_option maxHeartbeats 1600000 in
theorem cloneS_any (l : List (List UInt8)) (hl : l.length ≤ 1000000000) (A : Nat → Prop) (v : Value) (w : World) (hv : IsSl 1 IsStr A w v l) : Calls Try.prog 39 #[v] w (StrsPost w l) := by
  have HV := hid hv
  obtain ⟨a, cap, rfl, hc, hn, h4⟩ := hv
  clear h4
  obtain ⟨i0, hi0, hz0, hz1, hz2⟩ := info_parts infoStr
  have I0 := hid hi0
  have I1 := hid hz0
  have I2 := hid hz1
  have I3 := hid hz2
  have HN := hid hn
  clear hi0 hz0 hz1 hz2 hn
  cases a with
  | none =>
    have hc0 : cap = 0 := HN.out rfl
    have hl0 : l = [] := List.eq_nil_of_length_eq_zero (by omega)
    subst hl0
    subst hc0
    have hq := slNil
    go_enter Try.func39, Try.ntmps39
    go_wp2_with fail
    go_ret
    exact ⟨_, rfl, World.ownsRow_nil _ _ _ _, Ext.refl _ _⟩
  | some a =>
    have hq := slSome
    have O1 : Hid ((w.alloc (.cells #[] 9)).ownsRow w.heap.size 9 1 (.slice (some ⟨w.heap.size, 0, none⟩) 0 0) 0 []) := hid ⟨rfl, .inr ⟨w.heap.size, 0, #[], rfl, Nat.le_refl _, heap_alloc_at rfl _, Nat.le_refl _, by unfold maxLen; omega, rfl, rfl⟩⟩
    have S1 := hid (str_src (P := Try.prog) Try.underlying23 (HV.out.ext isStr_good ((Ext.refl none' w).alloc (.cells #[] 9)) fun _ _ h => h.elim))
    go_enter Try.func39, Try.ntmps39
    go_wp2_with (at_builtin; refine wpList_app _ rfl (.tmp 5) (.tmp 6) 23 23 rfl w.heap.size 9 i0 _ 1 16 Try.underlying23 I0.out I1.out I2.out I3.out rfl _ 0 [] rfl O1.out _ l.length _ rfl S1.out ?_ ?_ ?_ ?_)
    · unfold maxLen; omega
    · omega
    · rw [World.size_alloc]; omega
    intro v3 w3 own3 grow3 blk3 _
    have N := hid own3
    have X : Hid (Ext none' w w3) := hid (((Ext.refl _ _).alloc _).grown grow3 (fun g hg => .inr (O1.out.lt g hg).1))
    clear own3 grow3 blk3
    go_wp2_with fail
    go_ret
    exact ⟨_, rfl, N.out, X.out⟩
theorem own_put1 {w : World} {base : Nat} {e : TypeId} {v : Value} {n : Nat} {xs : List Value} (h : w.ownsRow base e 1 v n xs) (hn : 0 < n) : ∃ g cap cur, v = .slice (some ⟨g, 0, none⟩) n cap ∧ base ≤ g ∧ w.heap[g]? = some (.cells cur e (0, 0)) ∧ (∀ k, k < n → cur[k]? = xs[k]?) := by
  rcases h.2 with ⟨_, h0⟩ | ⟨g, cap, cur, rfl, hbg, hg, hnc, hcm, hcs, htake⟩
  · omega
  · refine ⟨g, cap, cur, rfl, hbg, hg, fun k hk => ?_⟩
    rw [← htake, List.getElem?_take_of_lt (by omega)]
    simp
theorem own_set1 {w : World} {base : Nat} {e : TypeId} {g n cap : Nat} {xs : List Value} (h : w.ownsRow base e 1 (.slice (some ⟨g, 0, none⟩) n cap) n xs) (i : Nat) (y : Value) : (w.setCell ⟨g, i, none⟩ y).ownsRow base e 1 (.slice (some ⟨g, 0, none⟩) n cap) n (xs.set i y) := by
  refine ⟨by rw [List.length_set]; exact h.1, ?_⟩
  rcases h.2 with ⟨h0, _⟩ | ⟨g', cap', cur, he, hbg, hg, hnc, hcm, hcs, htake⟩
  · cases h0
  · injection he with e1 e2 e3
    injection e1 with e1
    injection e1 with e1
    subst e1 e3
    exact .inr ⟨g, cap, _, rfl, hbg, heap_setCell_same hg i y, hnc, hcm, by simp [hcs], by simp only [Array.toList_setIfInBounds, List.take_set, htake]⟩
/-- How far a row is turned round. -/
def revAt (l : List (List UInt8)) (i : Nat) : List (List UInt8) := (List.range l.length).map fun k => if k < i ∨ l.length ≤ k + i then l.getD (l.length - 1 - k) [] else l.getD k []
theorem revAt_len (l : List (List UInt8)) (i : Nat) : (revAt l i).length = l.length := by simp [revAt]
theorem revAt_get (l : List (List UInt8)) (i k : Nat) (hk : k < l.length) : (revAt l i)[k]? = some (if k < i ∨ l.length ≤ k + i then l.getD (l.length - 1 - k) [] else l.getD k []) := by
  simp [revAt, hk]
theorem revAt_zero (l : List (List UInt8)) : revAt l 0 = l := by
  apply List.ext_getElem?
  intro k
  by_cases hk : k < l.length
  · rw [revAt_get l 0 k hk, if_neg (by omega), List.getD_eq_getElem?_getD, List.getElem?_eq_getElem hk]; rfl
  · rw [List.getElem?_eq_none (by rw [revAt_len]; omega), List.getElem?_eq_none (by omega)]
theorem revAt_end (l : List (List UInt8)) (i : Nat) (h : l.length ≤ 2 * i + 1) : revAt l i = l.reverse := by
  apply List.ext_getElem?
  intro k
  by_cases hk : k < l.length
  · rw [revAt_get l i k hk, List.getElem?_reverse hk]
    have e : l[l.length - 1 - k]? = some (l.getD (l.length - 1 - k) []) := by
      rw [List.getD_eq_getElem?_getD, List.getElem?_eq_getElem (by omega)]; rfl
    rw [e]
    by_cases hc : k < i ∨ l.length ≤ k + i
    · rw [if_pos hc]
    · rw [if_neg hc]
      have : l.length - 1 - k = k := by omega
      rw [this]
  · rw [List.getElem?_eq_none (by rw [revAt_len]; omega), List.getElem?_eq_none (by rw [List.length_reverse]; omega)]
theorem revAt_step (l : List (List UInt8)) (i : Nat) (h : i < l.length - 1 - i) : ((revAt l i).set i (l.getD (l.length - 1 - i) [])).set (l.length - 1 - i) (l.getD i []) = revAt l (i + 1) := by
  apply List.ext_getElem?
  intro k
  by_cases hk : k < l.length
  · rw [List.getElem?_set, List.getElem?_set, revAt_get l (i + 1) k hk, revAt_get l i k hk, List.length_set, revAt_len]
    by_cases h1 : l.length - 1 - i = k
    · rw [if_pos h1, if_pos (by omega), if_pos (by omega)]
      have : l.length - 1 - k = i := by omega
      rw [this]
    · rw [if_neg h1]
      by_cases h2 : i = k
      · rw [if_pos h2, if_pos (by omega), if_pos (by omega), h2]
      · rw [if_neg h2]
        by_cases hc : k < i ∨ l.length ≤ k + i
        · rw [if_pos hc, if_pos (by omega)]
        · rw [if_neg hc, if_neg (by omega)]
  · rw [List.getElem?_eq_none (by rw [List.length_set, List.length_set, revAt_len]; omega), List.getElem?_eq_none (by rw [revAt_len]; omega)]
theorem strVals_set (l : List (List UInt8)) (i : Nat) (s : List UInt8) : (strVals l).set i (.string ⟨s.toArray⟩) = strVals (l.set i s) := by simp [strVals, List.map_set]
theorem strVals_get (l : List (List UInt8)) (k : Nat) (s : List UInt8) (h : l[k]? = some s) : (strVals l)[k]? = some (.string ⟨s.toArray⟩) := by simp [strVals, h]
structure RvRel (l : List (List UInt8)) (base : Nat) (v : Value) (w wr : World) (i : Nat) : Prop where
  own : wr.ownsRow base 9 1 v l.length (strVals (revAt l i))
  hx : Ext (fun b => v.ownBlock = some b) w wr
set_option maxRecDepth 100000 in
set_option maxHeartbeats 1600000 in
theorem reverse_any (l : List (List UInt8)) (hl : l.length ≤ 1000000000) (base : Nat) (v : Value) (w : World) (h : w.ownsRow base 9 1 v l.length (strVals l)) :
    Calls Try.prog 40 #[v] w (fun e w' => (∃ z, e = .returned z) ∧ w'.ownsRow base 9 1 v l.length (strVals l.reverse) ∧ Ext (fun b => v.ownBlock = some b) w w') := by
  have H := hid h
  obtain ⟨a, cap, rfl⟩ := own_slice h
  clear h
  go_enter Try.func40, Try.ntmps40
  go_wp2_with fail
  go_loopw [2, 3] (fun y z wr => ∃ (i : Nat), y = .int .i64 (i : Nat) ∧ z = .int .i64 ((l.length : Int) - 1 - i) ∧ 2 * i ≤ l.length + 1 ∧ Hid (RvRel l base (.slice a l.length cap) w wr i)) (fun y _ _ => l.length - (RowKit.intOf y).toNat)
  case atStart => exact ⟨0, rfl, by simp, by omega, hid ⟨by rw [revAt_zero]; exact H.out, Ext.refl _ _⟩⟩
  case round =>
    obtain ⟨i, rfl, rfl, hle, R⟩ := hrel
    by_cases hi : i < l.length - 1 - i
    · obtain ⟨g, cap', cur, e, hbg, hg, hk⟩ := own_put1 R.out.own (by omega)
      injection e with e1 e2 e3
      subst e1 e3
      obtain ⟨j, hj⟩ : ∃ j, l.length - 1 - i = j := ⟨_, rfl⟩
      have hjz : ((l.length : Int) - 1 - (i : Int)) = ((j : Nat) : Int) := by omega
      have k0 : cur[i]? = some (.string ⟨(l.getD i []).toArray⟩) := by
        rw [hk i (by omega)]
        exact strVals_get _ _ _ (by rw [revAt_get l i i (by omega), if_neg (by omega)])
      have k1 : cur[j]? = some (.string ⟨(l.getD j []).toArray⟩) := by
        rw [hk j (by omega)]
        exact strVals_get _ _ _ (by rw [revAt_get l i j (by omega), if_neg (by omega)])
      have HG := hid hg
      have hst := revAt_step l i hi
      rw [hj] at hi hst
      have HST := hid hst
      obtain ⟨si, hsi⟩ : ∃ si, l.getD i [] = si := ⟨_, rfl⟩
      obtain ⟨sj, hsj⟩ : ∃ sj, l.getD j [] = sj := ⟨_, rfl⟩
      rw [hsi] at k0 HST
      rw [hsj] at k1 HST
      have HK0 := hid k0
      have HK1 := hid k1
      have hjl : j < l.length := by omega
      have q1 : decide ((i : Int) < (j : Int)) = true := decide_eq_true (by omega)
      rw [hjz]
      have HJ := hid hj
      have HJZ := hid hjz
      clear hk hst hsi hsj hg k0 k1 hj hjz
      go_upto_region 3 with (fail)
      have m0 := (cell_at HG.out i).trans HK0.out
      have m1 := (cell_at HG.out j).trans HK1.out
      have f0 := free_at HG.out i
      have f1 := free_at HG.out j
      obtain ⟨W2, hW2⟩ : ∃ W2, W2 = (wr.setCell ⟨g, i, none⟩ (.string ⟨sj.toArray⟩)).drew := ⟨_, rfl⟩
      have HW2 := hid hW2
      have X2 : Hid (Ext (one g) wr W2) := hid (by rw [hW2]; exact ((Ext.refl (one g) wr).set i _).drew)
      have K2 : Hid (W2.heap[g]? = some (.cells (cur.setIfInBounds i (.string ⟨sj.toArray⟩)) 9 (0, 0))) := hid (by rw [hW2]; exact heap_setCell_same HG.out i _)
      have K2J : Hid ((cur.setIfInBounds i (.string ⟨sj.toArray⟩))[j]? = some (.string ⟨sj.toArray⟩)) := hid (by rw [Array.getElem?_setIfInBounds_ne (by omega)]; exact HK1.out)
      have OW2 : Hid (W2.ownsRow base 9 1 (.slice (some ⟨g, 0, none⟩) l.length cap) l.length (strVals ((revAt l i).set i sj))) := hid (by rw [hW2, ← strVals_set]; exact ownsRow_ext (own_set1 R.out.own i _) ((Ext.refl none' _).drew) (fun _ _ h => h))
      clear hW2
      refine region_q (one g) wr (.qs [0, 1, 2, 3, 4, 5, 6, 8, 9, 10] (.two 7 true (.one 11 true (.one 12 true (.one 13 true (.one 14 true (.one 15 false .fin))))) 11 true (.one 7 true (.one 12 true (.one 13 true (.one 14 true (.one 15 false .fin))))))) (by kernel_rfl) (by kernel_rfl) (fun dst v c a w h => by cases dst <;> exact h) ?_
      refine ⟨In.of (Ext.refl _ _).drew, ?_⟩
      change wpQuiet _ _ (fun w' => ∃ t : LaterF (one g) wr, w' = t.w) _ _ _
      simp only [sel, List.getElem?_cons_succ, List.getElem?_cons_zero]
      repeat (go_big_quiet_step (fail))
      refine wpQuiet_nil ?_
      simp only [wpTreeQ, stepT, sel, List.getElem?_cons_succ, List.getElem?_cons_zero]
      have D2 := hid (Ext.refl (one g) wr).drew
      refine ⟨?_, ?_⟩
      · go_wp2_with fail
        refine ⟨In.of D2.out, ?_⟩
        go_wp2_with fail
        refine ⟨In.of D2.out, ?_⟩
        go_wp2_with fail
        refine ⟨In.of D2.out, ?_⟩
        go_wp2_with fail
        rw [← HW2.out]
        refine ⟨In.of X2.out, ?_⟩
        have e1 := (cell_at K2.out j).trans K2J.out
        have g1 := free_at K2.out j
        go_wp2_with fail
        refine ⟨In.of X2.out, ?_⟩
        go_wp2_with fail
        go_roundw
        case rel => exact ⟨i + 1, by go_num, by have := HJZ.out; simp; omega, by have := HJ.out; omega, hid ⟨by rw [← HST.out, ← strVals_set]; exact own_set1 OW2.out j _, R.out.hx.trans ((X2.out.set j _).mono fun b _ e => by have e : b = g := e; rw [e]; rfl)⟩⟩
        case measure => simp [RowKit.intOf]; omega
      · go_wp2_with fail
        refine ⟨In.of D2.out, ?_⟩
        go_wp2_with fail
        refine ⟨In.of D2.out, ?_⟩
        go_wp2_with fail
        refine ⟨In.of D2.out, ?_⟩
        go_wp2_with fail
        rw [← HW2.out]
        refine ⟨In.of X2.out, ?_⟩
        have e1 := (cell_at K2.out j).trans K2J.out
        have g1 := free_at K2.out j
        go_wp2_with fail
        refine ⟨In.of X2.out, ?_⟩
        go_wp2_with fail
        go_roundw
        case rel => exact ⟨i + 1, by go_num, by have := HJZ.out; simp; omega, by have := HJ.out; omega, hid ⟨by rw [← HST.out, ← strVals_set]; exact own_set1 OW2.out j _, R.out.hx.trans ((X2.out.set j _).mono fun b _ e => by have e : b = g := e; rw [e]; rfl)⟩⟩
        case measure => simp [RowKit.intOf]; omega
    · have HE : Hid (revAt l i = l.reverse) := hid (revAt_end l i (by omega))
      have q1 : decide ((i : Int) < (l.length : Int) - 1 - (i : Int)) = false := decide_eq_false (by omega)
      have own := R.out.own
      rw [HE.out] at own
      have OW := hid own
      clear own
      go_wp2_with fail
      exact bodyPost_end (results_none rfl _ _ _) rfl ⟨⟨_, rfl⟩, OW.out, R.out.hx⟩
set_option maxRecDepth 100000 in
theorem reversed_any (l : List (List UInt8)) (hl : l.length ≤ 1000000000) (v : Value) (w : World) (hv : IsStrs none' w v l) : Calls Try.prog 33 #[v] w (fun e w' => ∃ u, e = .returned u ∧ IsStrs none' w' u l.reverse ∧ Ext none' w w') := by
  have C := hid (cloneS_any l hl none' v w hv)
  obtain ⟨a, cap, rfl, _⟩ := hv
  go_enter Try.func33, Try.ntmps33
  go_wp2_with fail
  refine C.out.mono ?_
  rintro e W1 ⟨u, rfl, own, X1⟩
  have OW := hid own
  have X1 := hid X1
  have CR := hid (reverse_any l hl w.heap.size u W1 own)
  have hlt := hid fun g hg => (own.lt g hg).1
  obtain ⟨a1, cap1, rfl⟩ := own_slice own
  clear own
  go_wp2_with fail
  refine CR.out.mono ?_
  rintro e W2 ⟨⟨z, rfl⟩, own2, X2⟩
  have HS := hid ((str_row (A := none') (l := l.reverse) (by simpa using own2)).sl isStr_good (fun _ _ h => h))
  have X2 := hid (X1.out.trans' X2 (fun b hb h => by have := hlt.out b h; omega))
  clear own2
  go_wp2_with fail
  go_ret
  exact ⟨_, rfl, by simpa using HS.out, X2.out⟩
def tw1 (row : List (List UInt8)) (x : List UInt8) : Bool := fstI (· == x) row != ((row.length : Int) - 1 - fstI (· == x) row.reverse)
def twiceP (row : List (List UInt8)) : Bool := hasI (tw1 row) row
theorem enter_twice1 : ∀ args w, (callFunc 31 args).run Try.prog w = .ok (.enter 31 args) w := Go.Proofs.enters_of Try.func31 (by kernel_rfl) rfl
set_option maxRecDepth 100000 in
set_option maxHeartbeats 1600000 in
theorem twice1_any (row : List (List UInt8)) (hl : row.length ≤ 1000000000) (x : List UInt8) (rv : Value) (B : Nat) (w : World) (hv : IsStrs none' w rv row) (hb : w.heap[B]? = some (.cells #[rv] 23 (0, 0))) :
    Calls Try.prog 31 #[.string ⟨x.toArray⟩, .pointer (some ⟨B, 0, none⟩)] w (BoolP (tw1 row x) w) := by
  have HV := hid hv
  obtain ⟨a, cap, rfl, _⟩ := hv
  have HB := hid hb
  have CI := hid fun (W : World) (X : Ext none' w W) => index_any none' row x _ W (HV.out.ext isStr_good X fun _ _ h => h.elim) (by omega)
  have CR := hid fun (W : World) (X : Ext none' w W) => reversed_any row hl _ W (HV.out.ext isStr_good X fun _ _ h => h.elim)
  have CJ := hid fun (v : Value) (W : World) (h : IsStrs none' W v row.reverse) => index_any none' row.reverse x v W h (by rw [List.length_reverse]; omega)
  have hz1 := fstI_cases (fun y => y == x) row
  have hz2 := fstI_cases (fun y => y == x) row.reverse
  obtain ⟨r, hr⟩ : ∃ r, r = tw1 row x := ⟨_, rfl⟩
  rw [← hr]
  unfold tw1 at hr
  have hrl : row.reverse.length ≤ 1000000000 := by simpa using hl
  obtain ⟨rr, hrr⟩ : ∃ rr, row.reverse = rr := ⟨_, rfl⟩
  rw [hrr] at CR CJ hz2 hr hrl
  obtain ⟨z1, e1⟩ : ∃ z, fstI (· == x) row = z := ⟨_, rfl⟩
  obtain ⟨z2, e2⟩ : ∃ z, fstI (· == x) rr = z := ⟨_, rfl⟩
  have b1 : -1 ≤ z1 ∧ z1 ≤ 1000000000 := by
    rw [← e1]
    rcases hz1 with ⟨h, _⟩ | ⟨i, hi, h, _⟩
    · rw [h]; omega
    · rw [h]; omega
  have b2 : -1 ≤ z2 ∧ z2 ≤ 1000000000 := by
    rw [← e2]
    rcases hz2 with ⟨h, _⟩ | ⟨i, hi, h, _⟩
    · rw [h]; omega
    · rw [h]; omega
  rw [e1] at CI hr
  rw [e2] at CJ hr
  have HR := hid hr
  clear hz1 hz2 e1 e2 hr hb hrr hrl
  have c0 := fun t' : LaterF none' w => cell_at (t'.x.heap HB.out (fun h => h)) 0
  simp only [List.getElem?_toArray, List.getElem?_cons_zero] at c0
  go_enter Try.func31, Try.ntmps31
  go_upto_region 1 with (fail)
  refine region_q none' w (.qs [0, 1, 3, 4, 5, 6, 8] (.one 2 true (.one 7 true (.one 9 true (.one 10 false (.one 11 false (.one 12 false .fin))))))) (by kernel_rfl) (by kernel_rfl) (fun dst v c a w h => by cases dst <;> exact h) ?_
  refine ⟨In.of (Ext.refl _ _).drew, ?_⟩
  change wpQuiet _ _ (fun w' => ∃ t : LaterF none' w, w' = t.w) _ _ _
  simp only [sel, List.getElem?_cons_succ, List.getElem?_cons_zero]
  repeat (go_big_quiet_step (fail))
  refine wpQuiet_nil ?_
  simp only [wpTreeQ, stepT, sel, List.getElem?_cons_succ, List.getElem?_cons_zero]
  clear c0
  have D2 := hid (Ext.refl none' w).drew
  go_wp2_with fail
  refine (CI.out _ D2.out).mono ?_
  rintro e W1 ⟨rfl, X1⟩
  have X1 := hid (D2.out.trans X1)
  go_wp2_with fail
  refine ⟨In.of X1.out, ?_⟩
  go_wp2_with fail
  refine (CR.out _ X1.out).mono ?_
  rintro e W2 ⟨u, rfl, hu, X2⟩
  have HU := hid hu
  obtain ⟨a2, cap2, rfl, _⟩ := hu
  have X2 := hid (X1.out.trans X2)
  go_wp2_with fail
  refine ⟨In.of X2.out, ?_⟩
  go_wp2_with fail
  refine (CJ.out _ _ HU.out).mono ?_
  rintro e W3 ⟨rfl, X3⟩
  have X3 := hid (X2.out.trans X3)
  go_wp2_with fail
  refine ⟨In.of X3.out, ?_⟩
  go_wp2_with fail
  go_ret
  exact ⟨by rw [HR.out]; rfl, X3.out⟩
set_option maxRecDepth 100000 in
theorem twice_any (row : List (List UInt8)) (hl : row.length ≤ 1000000000) (rv : Value) (w : World) (hv : IsStrs none' w rv row) : Calls Try.prog 22 #[rv] w (BoolP (twiceP row) w) := by
  have HV := hid hv
  obtain ⟨a, cap, rfl, _⟩ := hv
  have g := heap_alloc_at (w := w) (k := w.heap.size) rfl (.cells #[.slice a row.length cap] 23)
  have X1 := hid ((Ext.refl none' w).alloc (.cells #[.slice a row.length cap] 23))
  have HV1 := hid (HV.out.ext isStr_good X1.out fun _ _ h => h.elim)
  have C := hid (cstr_any 31 #[.pointer (some ⟨w.heap.size, 0, none⟩)] (tw1 row) none' row _ _ hl HV1.out (fun i hi w' X => twice1_any row hl row[i] _ w.heap.size w' (HV1.out.ext isStr_good X fun _ _ h => h.elim) (X.heap g (fun h => h))) enter_twice1)
  obtain ⟨r, hr⟩ : ∃ r, twiceP row = r := ⟨_, rfl⟩
  have hr' : hasI (tw1 row) row = r := hr
  rw [hr'] at C
  rw [hr]
  clear hr hr' g
  go_enter Try.func22, Try.ntmps22
  go_wp2_with fail
  refine C.out.mono ?_
  rintro e W1 ⟨rfl, X2⟩
  have X2 := hid (X1.out.trans X2)
  go_wp2_with fail
  go_ret
  exact ⟨rfl, X2.out⟩
end Go.Proofs.Ytmlhkgocilpobaa
