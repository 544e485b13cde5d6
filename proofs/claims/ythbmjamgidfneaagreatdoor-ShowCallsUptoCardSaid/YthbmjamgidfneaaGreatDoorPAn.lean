import Derived.Test.YthbmjamgidfneaaGreatDoorPAb
import Derived.Test.YthbmjamgidfneaaGreatDoorPAe
import Derived.Test.YthbmjamgidfneaaGreatDoorPAm
set_option maxRecDepth 100000
set_option maxHeartbeats 6400000
namespace Go.Proofs.YthbmjamgidfneaaGreatDoor
open Go.Lib
theorem indexByte_tw (r : List UInt8) : (Lib.indexByte r 10 = -1 ∧ (r.takeWhile fun c => c != 10).length = r.length) ∨ (Lib.indexByte r 10 = ((r.takeWhile fun c => c != 10).length : Nat)) := by
 induction r with
 | nil => left; exact ⟨rfl, rfl⟩
 | cons b l ih =>
  unfold Lib.indexByte
  by_cases hb : b = 10
  · subst hb; right; simp [List.takeWhile]
  · have e1 : (b == (10 : UInt8)) = false := by simpa using hb
    have e2 : (b != (10 : UInt8)) = true := by simpa using hb
    rw [e1]
    rcases ih with ⟨h1, h2⟩ | h1
    · left
      rw [h1]
      refine ⟨by simp, ?_⟩
      rw [List.takeWhile_cons, e2]
      simpa using h2
    · right
      have hne : (Lib.indexByte l 10 == -1) = false := by rw [h1]; simp
      rw [hne, h1, List.takeWhile_cons, e2]
      simp
theorem tw_no10 (r : List UInt8) : 10 ∉ r.take (r.takeWhile fun c => c != 10).length := by
 induction r with
 | nil => simp
 | cons b l ih =>
  rw [List.takeWhile_cons]
  by_cases hb : b = 10
  · subst hb; simp
  · have e2 : (b != (10 : UInt8)) = true := by simpa using hb
    rw [e2]
    simp only [if_true, List.length_cons, List.take_succ_cons, List.mem_cons, not_or]
    exact ⟨fun h => hb h.symm, ih⟩
theorem index_star : ∀ r : List UInt8, Lib.index r [42, 47] = match star r with
  | some k => (k : Int)
  | none => -1
 | [] => rfl
 | b :: l => by
  have ih := index_star l
  unfold Lib.index star
  have hp : [42, 47].isPrefixOf (b :: l) = decide (b = 42 ∧ l.head? = some 47) := by
   cases l with
   | nil => simp [List.isPrefixOf]
   | cons c t =>
    rw [Bool.eq_iff_iff]
    simp [List.isPrefixOf]
    constructor
    · rintro ⟨h1, h2⟩; exact ⟨h1.symm, h2.symm⟩
    · rintro ⟨h1, h2⟩; exact ⟨h1.symm, h2.symm⟩
  rw [hp, ih]
  by_cases h : b = 42 ∧ l.head? = some 47
  · simp [h]
  · simp only [decide_eq_true_eq, if_neg h]
    cases star l with
    | none => rfl
    | some k => simp
theorem indexByte_memT (r : List UInt8) (c : UInt8) : decide (0 ≤ Lib.indexByte r c) = decide (c ∈ r) := by
 rw [Bool.eq_iff_iff]
 simp only [decide_eq_true_eq]
 have hg := Lib.indexByte_ge r c
 by_cases h : Lib.indexByte r c = -1
 · have := Lib.indexByte_none h
   rw [h]
   constructor
   · intro h; omega
   · intro hm
     obtain ⟨k, hk⟩ := List.mem_iff_getElem?.1 hm
     exact absurd hk (this k)
 · obtain ⟨o, ho⟩ : ∃ o : Nat, Lib.indexByte r c = o := ⟨(Lib.indexByte r c).toNat, by omega⟩
   have := Lib.indexByte_some ho
   constructor
   · intro _; exact List.mem_iff_getElem?.2 ⟨o, this.1⟩
   · intro _; omega
end Go.Proofs.YthbmjamgidfneaaGreatDoor
namespace Go.Proofs.YthbmjamgidfneaaGreatDoor
open Go.RowKit Go.Lib Go.BigFrame
theorem ext0_toList (r : List UInt8) (n : Nat) : ((⟨r.toArray⟩ : ByteArray).extract 0 n).toList = r.take n := by rw [extract0, Lib.toList_data]
theorem slHasPrefix_any (r p : List UInt8) (w : World) (_hr : r.length ≤ 1000000) (_hp : p.length ≤ 100) : Calls Tryz.prog 161 #[.string ⟨r.toArray⟩, .string ⟨p.toArray⟩] w (RetBool (decide (r.take p.length = p)) w) := by
 obtain ⟨b, hb⟩ : ∃ b, b = decide (r.take p.length = p) := ⟨_, rfl⟩
 rw [← hb]
 have HB := hid hb
 clear hb
 by_cases hl : p.length ≤ r.length
 · go_enter Tryz.func161, Tryz.ntmps161
   go_wp2
   go_ret
   refine ⟨?_, rfl⟩
   congr 2
   rw [HB.out, ext0_toList, beq_list]
   rfl
 · have HE : Hid (b = false) := hid (by
    rw [HB.out]
    simp only [decide_eq_false_iff_not]
    intro h
    have := congrArg List.length h
    rw [List.length_take] at this
    omega)
   go_enter Tryz.func161, Tryz.ntmps161
   go_wp2
   go_ret
   exact ⟨by rw [HE.out]; rfl, rfl⟩
theorem hasPrefix_any (r p : List UInt8) (w : World) (hr : r.length ≤ 1000000) (hp : p.length ≤ 100) : Calls Tryz.prog 111 #[.string ⟨r.toArray⟩, .string ⟨p.toArray⟩] w (RetBool (decide (r.take p.length = p)) w) := by
 have C := hid (slHasPrefix_any r p w hr hp)
 obtain ⟨b, hb⟩ : ∃ b, b = decide (r.take p.length = p) := ⟨_, rfl⟩
 rw [← hb] at C ⊢
 clear hb
 go_enter Tryz.func111, Tryz.ntmps111
 go_wp2_with (go_at_call 161; refine C.out.mono ?_; rintro e w1 ⟨rfl, rfl⟩)
 go_ret
 exact ⟨rfl, rfl⟩
theorem St.snocN {base sb : Nat} {w w2 : World} {s : List UInt8} {k : Nat} {l n : List Tok} {vl vn v2 : Value} {t : Tok} (hh : w.heap[sb]? = some (.cells #[.string ⟨s.toArray⟩, .int .i64 k, vl, vn] 59 (0, 0))) (hb : base ≤ sb)
  (rl : w.ownsRow base 47 3 vl l.length (tokVals l)) (hne : ∀ g, vl.ownBlock = some g → vn.ownBlock = some g → False) (x2 : Ext (fun i => vn.ownBlock = some i) w w2)
  (own2 : w2.ownsRow base 47 3 v2 (n.length + 1) (tokVals n ++ tokCells t)) (blk2 : v2.ownBlock = vn.ownBlock ∨ ∃ g, v2.ownBlock = some g ∧ w.heap.size ≤ g) (hvn : ∀ g, vn.ownBlock = some g → g ≠ sb) :
  St base sb (w2.setCell ⟨sb, 3, none⟩ v2) s k l (n ++ [t]) := by
 have h2 : w2.heap[sb]? = some (.cells #[.string ⟨s.toArray⟩, .int .i64 k, vl, vn] 59 (0, 0)) := x2.heap hh (fun h => hvn _ h rfl)
 have xs : Ext (one sb) w2 (w2.setCell ⟨sb, 3, none⟩ v2) := (Ext.refl _ _).set 3 v2
 have rl2 := ownsRow_ext rl x2 (fun g h1 h2 => hne g h1 h2)
 refine ⟨vl, v2, ?_, ?_, ?_, ?_, hb⟩
 · rw [heap_setCell_same h2]; rfl
 · exact ownsRow_ext rl2 xs (fun g hg he => own_ne rl2 h2 g hg he)
 · have := ownsRow_ext own2 xs (fun g hg he => own_ne own2 h2 g hg he)
   rw [tokVals_snoc, List.length_append]
   exact this
 · intro g h3 h4
   rcases blk2 with h5 | ⟨g', h5, h6⟩
   · exact hne g h3 (h5 ▸ h4)
   · rw [h5] at h4
     injection h4 with h4
     have := (rl.lt g h3).2
     omega
theorem St.keepE {base sb : Nat} {w w2 : World} {s : List UInt8} {k : Nat} {l n : List Tok} (st : St base sb w s k l n) (x : Ext none' w w2) : St base sb w2 s k l n := by
 obtain ⟨vl, vn, hh, rl, rn, hne, hb⟩ := st
 exact ⟨vl, vn, x.heap hh (fun h => h), ownsRow_ext rl x (fun _ _ h => h), ownsRow_ext rn x (fun _ _ h => h), hne, hb⟩
theorem lineP_len (l : List Tok) (k : Nat) : (lineP l k).length ≤ l.length + 1 := by unfold lineP; split <;> simp
def NtPost (base sb : Nat) (s : List UInt8) (k : Nat) (l n : List Tok) (w : World) (x : NoteR) (e : Ending) (w' : World) : Prop :=
 match x with
 | .none => e = .returned (.bool false) ∧ St base sb w' s k l n ∧ Ext (up base) w w'
 | .bad => e = .panicked [{ v := gave k, recovered := false }] ∧ Ext (up base) w w'
 | .len m => e = .returned (.bool true) ∧ St base sb w' s (k + m) (if 10 ∈ (s.drop k).take m then lineP l k else l) (n ++ [⟨0, (s.drop k).take m, k⟩]) ∧ Ext (up base) w w'
theorem note_any (base sb k : Nat) (s : List UInt8) (l n : List Tok) (w : World) (st : St base sb w s k l n) (hk : k < s.length) (hs : s.length ≤ 1000000) (hl : l.length ≤ 900000) (hn : n.length ≤ 900000) (hm : MaxL w)
  (hg : ∀ t ∈ l, TGood t) (hx : ∀ t ∈ l, t.text.length ≤ 1000000) :
  Calls Tryz.prog 112 #[.pointer (some ⟨sb, 0, none⟩)] w (NtPost base sb s k l n w (noteP (s.drop k))) := by
 obtain ⟨r, hr⟩ : ∃ r, r = s.drop k := ⟨_, rfl⟩
 have hrl : r.length ≤ 1000000 := by rw [hr, List.length_drop]; omega
 have HRL : Hid (r.length = s.length - k) := hid (by rw [hr, List.length_drop])
 rw [← hr]
 obtain ⟨p, hp⟩ : ∃ p, p = noteP r := ⟨_, rfl⟩
 rw [← hp]
 have HR := hid hr
 have HP := hid hp
 clear hr hp
 have ST := hid st
 have HG := hid hg
 have HX := hid hx
 clear hg hx
 obtain ⟨vl, vn, hh, rl, rn, hne, hb⟩ := st
 have c0 : ∀ t : LaterF none' w, t.w.cell? ⟨sb, 0, none⟩ = some (.string ⟨s.toArray⟩) := fun t => by
  rw [cell_at (t.x.heap hh (fun h => h))]; rfl
 have c1 : ∀ t : LaterF none' w, t.w.cell? ⟨sb, 1, none⟩ = some (.int .i64 k) := fun t => by
  rw [cell_at (t.x.heap hh (fun h => h))]; rfl
 have HH := hid hh
 have HM := hid hm
 have CP := fun (t : List UInt8) w' (h : t.length ≤ 100) => hasPrefix_any r t w' hrl h
 have HCP := hid CP
 clear hh rl rn hm CP hne
 go_enter Tryz.func112, Tryz.ntmps112
 go_wp2_with fail
 refine region_in none' w [0, 1, 2, 3, 4, 5, 6, 7, 8, 9] [] (by kernel_rfl) (by kernel_rfl) (fun dst v c a w h => by cases dst <;> exact h) (Ext.refl _ _) ?_
 simp only [sel, List.getElem?_cons_succ, List.getElem?_cons_zero]
 repeat (go_big_quiet_step (fail))
 refine wpQuiet_nil ?_
 simp only [wpChain]
 rw [extract_eq s k s.length]
 have hrt : (s.drop k).take (s.length - k) = r := by rw [HR.out, List.take_of_length_le (by rw [List.length_drop]; omega)]
 rw [hrt]
 clear hrt
 obtain ⟨W, hW⟩ : ∃ W, W = w.drew := ⟨_, rfl⟩
 rw [← hW]
 have X1 : Ext none' w W := by rw [hW]; exact (Ext.refl _ _).drew
 have d1 := c1 ⟨_, X1⟩
 have STW : Hid (St base sb W s k l n) := hid (ST.out.keepE X1)
 have HXW : Hid (Ext (up base) w W) := hid (X1.mono fun i _ h => h.elim)
 have HMW := hid (HM.out.ext X1 (fun h => h))
 simp only at d1
 clear c0 c1 hW X1 HH HM ST
 go_wp2_with fail
 refine (HCP.out _ _ (by decide)).mono ?_
 rintro e w1 ⟨rfl, rfl⟩
 clear d1
 simp only [List.length_cons, List.length_nil, Nat.zero_add, Nat.reduceAdd]
 by_cases h2 : r.take 2 = [47, 47]
 · have e2 : decide (r.take 2 = [47, 47]) = true := by simpa using h2
   rw [e2]
   have HP1 : Hid (p = .len (r.takeWhile fun c => c != 10).length) := hid (by rw [HP.out]; unfold noteP; rw [if_pos h2])
   have HIF : Hid ((if 10 ∈ r.take (r.takeWhile fun c => c != 10).length then lineP l k else l) = l) := hid (if_neg (tw_no10 r))
   have hmr := takeWhile_le (fun c => c != 10) r
   have HIB := hid (indexByte_tw r)
   obtain ⟨m, hm⟩ : ∃ m, m = (r.takeWhile fun c => c != 10).length := ⟨_, rfl⟩
   rw [← hm] at HP1 HIF hmr HIB
   clear h2 e2 hm
   go_wp2_with fail
   refine (Tryz.strings_IndexByte _ _ _).mono ?_
   rintro e W ⟨rfl, rfl⟩
   have hcv : Lib.indexByte ((⟨r.toArray⟩ : ByteArray).data.toList) ((10 : Int).toNat.toUInt8) = Lib.indexByte r 10 := rfl
   rw [hcv]
   clear hcv
   rcases HIB.out with ⟨h1, h2⟩ | h1
   · rw [h1]
     have HM2 := hid h2
     have hmr1 : m ≤ r.length := by omega
     obtain rfl : r.length = m := h2.symm
     clear h1 h2 HIB hmr
     obtain ⟨vl, vn, hh, rl, rn, hne, hb⟩ := STW.out
     have d1 := cell_at hh 1
     have f1 := free_at hh 1
     simp only [List.getElem?_toArray, List.getElem?_cons_zero, List.getElem?_cons_succ] at d1
     have SG := hid (St.go hh hb rl rn hne (Ext.refl none' W) (k + r.length) (z := k + r.length) (by push_cast; rfl))
     clear hh rl rn hne
     go_wp2_with fail
     obtain ⟨W1, hW1⟩ : ∃ W1, W1 = W.setCell ⟨sb, 1, none⟩ (.int .i64 (k + r.length)) := ⟨_, rfl⟩
     rw [← hW1] at SG ⊢
     clear hW1 d1 f1
     obtain ⟨vl, vn, hh, rl, rn, hne, hb⟩ := SG.out.1
     have c3 : ∀ t : LaterF (fun i => base ≤ i ∧ i ≠ sb) W1, t.w.cell? ⟨sb, 3, none⟩ = some vn := fun t => by
      rw [cell_at (t.x.heap hh (by simp))]; rfl
     have HH := hid hh
     have RL := hid rl
     have RN := hid rn
     clear hh rl rn
     refine region_in (fun i => base ≤ i ∧ i ≠ sb) W1 [0, 1, 2, 3, 4, 5, 6, 7, 8, 9] [(10, true), (11, true), (12, false), (13, false), (14, false)] (by kernel_rfl) (by kernel_rfl) (fun dst v c a w h => by cases dst <;> exact h) (Ext.refl _ _) ?_
     simp only [sel, List.getElem?_cons_succ, List.getElem?_cons_zero]
     repeat (go_big_quiet_step (fail))
     refine wpQuiet_nil ?_
     rw [extract0 r r.length]
     obtain ⟨t, ht⟩ : ∃ t, t = r.take r.length := ⟨_, rfl⟩
     rw [← ht]
     have HT := hid ht
     clear ht
     simp only [wpChain, sel, List.getElem?_cons_succ, List.getElem?_cons_zero]
     go_wp2_with fail
     obtain ⟨w1, hw1⟩ : ∃ w1, w1 = (W1.alloc (.cells #[.int .i64 0, .string ⟨t.toArray⟩, .int .i64 k] 47)).drew := ⟨_, rfl⟩
     rw [← hw1]
     have X1 : Ext none' W1 w1 := by rw [hw1]; exact ((Ext.refl _ _).alloc _).drew
     refine ⟨In.of (X1.mono fun i _ h => h.elim), ?_⟩
     have own1 : w1.ownsRow base 47 3 vn n.length (tokVals n) := ownsRow_ext RN.out X1 (fun _ _ h => h)
     have src : Src Tryz.prog 3 42 (.slice (some ⟨W1.heap.size, 0, none⟩) 1 1) 1 (tokCells ⟨0, t, k⟩) w1 := tok_src (t := 47) (fz := (0, 0)) (by rw [hw1]; exact heap_alloc_at rfl _) rfl (by simp [tokCells, Value.oneCell'])
     obtain ⟨i0, hi, hz0, hz1, hz2⟩ := info_parts info29
     refine wpList_app _ rfl (.tmp 60) (.tmp 66) 42 42 rfl base 47 i0 _ 3 32 Tryz.underlying42 hi hz0 hz1 hz2 rfl vn n.length (tokVals n) rfl own1 _ 1 _ rfl src ?_ ?_ ?_ ?_
     · unfold maxLen; omega
     · omega
     · have := heap_lt HH.out; have := X1.size; omega
     intro v2 w2 own2 grow2 blk2 _
     obtain ⟨a2, c2, rfl⟩ := own_slice own2
     have hvn := own_ne RN.out HH.out
     have X2 : Ext (fun i => vn.ownBlock = some i) W1 w2 := (X1.mono fun i _ h => h.elim).grown grow2 (fun k hk => .inl hk)
     have X2' : Ext (fun i => base ≤ i ∧ i ≠ sb) W1 w2 := X2.mono fun i _ h => ⟨(RN.out.lt i h).1, hvn i h⟩
     have h2 := X2.heap HH.out (fun h => hvn _ h rfl)
     have p2 := cell_at h2 3
     have pf := free_at h2 3
     simp only [List.getElem?_toArray, List.getElem?_cons_zero, List.getElem?_cons_succ] at p2
     have fin := hid (St.snocN (t := ⟨0, t, k⟩) HH.out hb RL.out hne X2 own2 (blk2.imp id fun h => ⟨_, h, X1.size⟩) hvn)
     have XX := hid X2'
     clear own1 src hi hz0 hz1 hz2 own2 grow2 blk2 hvn X2 X2' h2 X1 hw1
     refine wpList_nil ?_
     refine ⟨In.of XX.out, ?_⟩
     go_wp2_with fail
     go_ret
     rw [HP1.out]
     refine ⟨rfl, ?_, ?_⟩
     · rw [← HR.out, HIF.out, ← HT.out]; exact fin.out
     · exact ((HXW.out.trans SG.out.2).trans (XX.out.mono fun i _ h => h.1)).setCell (p := ⟨sb, 3, none⟩) (.inl hb) _
   · rw [h1]
     clear h1 HIB
     obtain ⟨vl, vn, hh, rl, rn, hne, hb⟩ := STW.out
     have d1 := cell_at hh 1
     have f1 := free_at hh 1
     simp only [List.getElem?_toArray, List.getElem?_cons_zero, List.getElem?_cons_succ] at d1
     have SG := hid (St.go hh hb rl rn hne (Ext.refl none' W) (k + m) (z := k + m) (by push_cast; rfl))
     clear hh rl rn hne
     go_wp2_with fail
     obtain ⟨W1, hW1⟩ : ∃ W1, W1 = W.setCell ⟨sb, 1, none⟩ (.int .i64 (k + m)) := ⟨_, rfl⟩
     rw [← hW1] at SG ⊢
     clear hW1 d1 f1
     obtain ⟨vl, vn, hh, rl, rn, hne, hb⟩ := SG.out.1
     have c3 : ∀ t : LaterF (fun i => base ≤ i ∧ i ≠ sb) W1, t.w.cell? ⟨sb, 3, none⟩ = some vn := fun t => by
      rw [cell_at (t.x.heap hh (by simp))]; rfl
     have HH := hid hh
     have RL := hid rl
     have RN := hid rn
     clear hh rl rn
     refine region_in (fun i => base ≤ i ∧ i ≠ sb) W1 [0, 1, 2, 3, 4, 5, 6, 7, 8, 9] [(10, true), (11, true), (12, false), (13, false), (14, false)] (by kernel_rfl) (by kernel_rfl) (fun dst v c a w h => by cases dst <;> exact h) (Ext.refl _ _) ?_
     simp only [sel, List.getElem?_cons_succ, List.getElem?_cons_zero]
     repeat (go_big_quiet_step (fail))
     refine wpQuiet_nil ?_
     rw [extract0 r m]
     obtain ⟨t, ht⟩ : ∃ t, t = r.take m := ⟨_, rfl⟩
     rw [← ht]
     have HT := hid ht
     clear ht
     simp only [wpChain, sel, List.getElem?_cons_succ, List.getElem?_cons_zero]
     go_wp2_with fail
     obtain ⟨w1, hw1⟩ : ∃ w1, w1 = (W1.alloc (.cells #[.int .i64 0, .string ⟨t.toArray⟩, .int .i64 k] 47)).drew := ⟨_, rfl⟩
     rw [← hw1]
     have X1 : Ext none' W1 w1 := by rw [hw1]; exact ((Ext.refl _ _).alloc _).drew
     refine ⟨In.of (X1.mono fun i _ h => h.elim), ?_⟩
     have own1 : w1.ownsRow base 47 3 vn n.length (tokVals n) := ownsRow_ext RN.out X1 (fun _ _ h => h)
     have src : Src Tryz.prog 3 42 (.slice (some ⟨W1.heap.size, 0, none⟩) 1 1) 1 (tokCells ⟨0, t, k⟩) w1 := tok_src (t := 47) (fz := (0, 0)) (by rw [hw1]; exact heap_alloc_at rfl _) rfl (by simp [tokCells, Value.oneCell'])
     obtain ⟨i0, hi, hz0, hz1, hz2⟩ := info_parts info29
     refine wpList_app _ rfl (.tmp 60) (.tmp 66) 42 42 rfl base 47 i0 _ 3 32 Tryz.underlying42 hi hz0 hz1 hz2 rfl vn n.length (tokVals n) rfl own1 _ 1 _ rfl src ?_ ?_ ?_ ?_
     · unfold maxLen; omega
     · omega
     · have := heap_lt HH.out; have := X1.size; omega
     intro v2 w2 own2 grow2 blk2 _
     obtain ⟨a2, c2, rfl⟩ := own_slice own2
     have hvn := own_ne RN.out HH.out
     have X2 : Ext (fun i => vn.ownBlock = some i) W1 w2 := (X1.mono fun i _ h => h.elim).grown grow2 (fun k hk => .inl hk)
     have X2' : Ext (fun i => base ≤ i ∧ i ≠ sb) W1 w2 := X2.mono fun i _ h => ⟨(RN.out.lt i h).1, hvn i h⟩
     have h2 := X2.heap HH.out (fun h => hvn _ h rfl)
     have p2 := cell_at h2 3
     have pf := free_at h2 3
     simp only [List.getElem?_toArray, List.getElem?_cons_zero, List.getElem?_cons_succ] at p2
     have fin := hid (St.snocN (t := ⟨0, t, k⟩) HH.out hb RL.out hne X2 own2 (blk2.imp id fun h => ⟨_, h, X1.size⟩) hvn)
     have XX := hid X2'
     clear own1 src hi hz0 hz1 hz2 own2 grow2 blk2 hvn X2 X2' h2 X1 hw1
     refine wpList_nil ?_
     refine ⟨In.of XX.out, ?_⟩
     go_wp2_with fail
     go_ret
     rw [HP1.out]
     refine ⟨rfl, ?_, ?_⟩
     · rw [← HR.out, HIF.out, ← HT.out]; exact fin.out
     · exact ((HXW.out.trans SG.out.2).trans (XX.out.mono fun i _ h => h.1)).setCell (p := ⟨sb, 3, none⟩) (.inl hb) _
 · have e2 : decide (r.take 2 = [47, 47]) = false := by simpa using h2
   rw [e2]
   have H2 := hid h2
   clear h2 e2
   go_wp2_with fail
   refine (HCP.out _ _ (by decide)).mono ?_
   rintro e w1 ⟨rfl, rfl⟩
   simp only [List.length_cons, List.length_nil, Nat.zero_add, Nat.reduceAdd]
   by_cases h3 : r.take 2 = [47, 42]
   · have e3 : decide (r.take 2 = [47, 42]) = true := by simpa using h3
     rw [e3]
     have hr2 : 2 ≤ r.length := by have := congrArg List.length h3; rw [List.length_take] at this; simp at this; omega
     have H3 := hid h3
     clear h3 e3
     go_wp2_with fail
     rw [extract_eq r 2 r.length]
     have hrt : (r.drop 2).take (r.length - 2) = r.drop 2 := List.take_of_length_le (by rw [List.length_drop]; omega)
     rw [hrt]
     clear hrt
     have CI := (let ⟨m, hm⟩ := HMW.out.2; Tryz.strings_Index ⟨(r.drop 2).toArray⟩ ⟨#[42, 47]⟩ m W (by rw [bsize, List.length_drop]; omega) hm)
     refine CI.mono ?_
     rintro e W ⟨rfl, rfl⟩
     clear CI
     have hix : Lib.index ((⟨(r.drop 2).toArray⟩ : ByteArray).data.toList) ((⟨#[42, 47]⟩ : ByteArray).data.toList) = (match star (r.drop 2) with | some k => (k : Int) | none => -1) := index_star _
     rw [hix]
     clear hix
     cases hst : star (r.drop 2) with
     | none =>
      have HP1 : Hid (p = .bad) := hid (by rw [HP.out]; unfold noteP; rw [if_neg H2.out, if_pos H3.out, hst])
      clear hst
      simp only
      go_wp2_with (go_at_call 163; refine (need_no _ k _).mono ?_; rintro e w1 ⟨rfl, rfl⟩)
      rw [HP1.out]
      exact ⟨rfl, ⟨rfl, HXW.out⟩⟩
     | some j =>
      have hj := star_lt _ _ hst
      rw [List.length_drop] at hj
      have HP1 : Hid (p = .len (j + 4)) := hid (by rw [HP.out]; unfold noteP; rw [if_neg H2.out, if_pos H3.out, hst])
      clear hst
      simp only
      have hj4 : j + 4 ≤ r.length := by omega
      clear hj
      go_wp2_with fail
      refine (need_is _ _ k _ (by simp)).mono ?_
      rintro e w1 ⟨rfl, rfl⟩
      go_wp2_with fail
      rw [extract0]
      refine (Tryz.strings_Contains_one _ 10 _).mono ?_
      rintro e W ⟨rfl, rfl⟩
      have hix : decide (0 ≤ Lib.indexByte ((⟨(r.take (j + 4)).toArray⟩ : ByteArray).data.toList) 10) = decide (10 ∈ r.take (j + 4)) := indexByte_memT _ _
      rw [hix]
      clear hix
      obtain ⟨m, hm⟩ : ∃ m, m = j + 4 := ⟨_, rfl⟩
      have hmm : ((j : Int) + 4) = (m : Int) := by omega
      rw [← hm] at HP1 hj4 ⊢
      rw [hmm]
      clear hmm hm
      by_cases h10 : 10 ∈ r.take m
      · have e10 : decide (10 ∈ r.take m) = true := by simpa using h10
        rw [e10]
        have HIF : Hid ((if 10 ∈ r.take m then lineP l k else l) = lineP l k) := hid (if_pos h10)
        clear h10 e10
        go_wp2_with fail
        refine (tline_any base sb k k s l n W STW.out (by omega) HMW.out HG.out HX.out).mono ?_
        rintro e W2 ⟨rfl, st2, x2⟩
        have ST2 := hid st2
        have HX2 := hid (HXW.out.trans x2)
        have hll : (lineP l k).length ≤ 900001 := by have := lineP_len l k; omega
        clear st2 x2
        obtain ⟨vl, vn, hh, rl, rn, hne, hb⟩ := ST2.out
        have d1 := cell_at hh 1
        have f1 := free_at hh 1
        simp only [List.getElem?_toArray, List.getElem?_cons_zero, List.getElem?_cons_succ] at d1
        have SG := hid (St.go hh hb rl rn hne (Ext.refl none' W2) (k + m) (z := k + m) (by push_cast; rfl))
        clear hh rl rn hne
        go_wp2_with fail
        obtain ⟨W1, hW1⟩ : ∃ W1, W1 = W2.setCell ⟨sb, 1, none⟩ (.int .i64 (k + m)) := ⟨_, rfl⟩
        rw [← hW1] at SG ⊢
        clear hW1 d1 f1
        obtain ⟨vl, vn, hh, rl, rn, hne, hb⟩ := SG.out.1
        have c3 : ∀ t : LaterF (fun i => base ≤ i ∧ i ≠ sb) W1, t.w.cell? ⟨sb, 3, none⟩ = some vn := fun t => by
         rw [cell_at (t.x.heap hh (by simp))]; rfl
        have HH := hid hh
        have RL := hid rl
        have RN := hid rn
        clear hh rl rn
        refine region_in (fun i => base ≤ i ∧ i ≠ sb) W1 [0, 1, 2, 3, 4, 5, 6, 7, 8, 9] [(10, true), (11, true), (12, false), (13, false), (14, false)] (by kernel_rfl) (by kernel_rfl) (fun dst v c a w h => by cases dst <;> exact h) (Ext.refl _ _) ?_
        simp only [sel, List.getElem?_cons_succ, List.getElem?_cons_zero]
        repeat (go_big_quiet_step (fail))
        refine wpQuiet_nil ?_
        rw [extract0 r m]
        obtain ⟨t, ht⟩ : ∃ t, t = r.take m := ⟨_, rfl⟩
        rw [← ht]
        have HT := hid ht
        clear ht
        simp only [wpChain, sel, List.getElem?_cons_succ, List.getElem?_cons_zero]
        go_wp2_with fail
        obtain ⟨w1, hw1⟩ : ∃ w1, w1 = (W1.alloc (.cells #[.int .i64 0, .string ⟨t.toArray⟩, .int .i64 k] 47)).drew := ⟨_, rfl⟩
        rw [← hw1]
        have X1 : Ext none' W1 w1 := by rw [hw1]; exact ((Ext.refl _ _).alloc _).drew
        refine ⟨In.of (X1.mono fun i _ h => h.elim), ?_⟩
        have own1 : w1.ownsRow base 47 3 vn n.length (tokVals n) := ownsRow_ext RN.out X1 (fun _ _ h => h)
        have src : Src Tryz.prog 3 42 (.slice (some ⟨W1.heap.size, 0, none⟩) 1 1) 1 (tokCells ⟨0, t, k⟩) w1 := tok_src (t := 47) (fz := (0, 0)) (by rw [hw1]; exact heap_alloc_at rfl _) rfl (by simp [tokCells, Value.oneCell'])
        obtain ⟨i0, hi, hz0, hz1, hz2⟩ := info_parts info29
        refine wpList_app _ rfl (.tmp 60) (.tmp 66) 42 42 rfl base 47 i0 _ 3 32 Tryz.underlying42 hi hz0 hz1 hz2 rfl vn n.length (tokVals n) rfl own1 _ 1 _ rfl src ?_ ?_ ?_ ?_
        · unfold maxLen; omega
        · omega
        · have := heap_lt HH.out; have := X1.size; omega
        intro v2 w2 own2 grow2 blk2 _
        obtain ⟨a2, c2, rfl⟩ := own_slice own2
        have hvn := own_ne RN.out HH.out
        have X2 : Ext (fun i => vn.ownBlock = some i) W1 w2 := (X1.mono fun i _ h => h.elim).grown grow2 (fun k hk => .inl hk)
        have X2' : Ext (fun i => base ≤ i ∧ i ≠ sb) W1 w2 := X2.mono fun i _ h => ⟨(RN.out.lt i h).1, hvn i h⟩
        have h2 := X2.heap HH.out (fun h => hvn _ h rfl)
        have p2 := cell_at h2 3
        have pf := free_at h2 3
        simp only [List.getElem?_toArray, List.getElem?_cons_zero, List.getElem?_cons_succ] at p2
        have fin := hid (St.snocN (t := ⟨0, t, k⟩) HH.out hb RL.out hne X2 own2 (blk2.imp id fun h => ⟨_, h, X1.size⟩) hvn)
        have XX := hid X2'
        clear own1 src hi hz0 hz1 hz2 own2 grow2 blk2 hvn X2 X2' h2 X1 hw1
        refine wpList_nil ?_
        refine ⟨In.of XX.out, ?_⟩
        go_wp2_with fail
        go_ret
        rw [HP1.out]
        refine ⟨rfl, ?_, ?_⟩
        · rw [← HR.out, HIF.out, ← HT.out]; exact fin.out
        · exact ((HX2.out.trans SG.out.2).trans (XX.out.mono fun i _ h => h.1)).setCell (p := ⟨sb, 3, none⟩) (.inl hb) _
      · have e10 : decide (10 ∈ r.take m) = false := by simpa using h10
        rw [e10]
        have HIF : Hid ((if 10 ∈ r.take m then lineP l k else l) = l) := hid (if_neg h10)
        clear h10 e10
        obtain ⟨vl, vn, hh, rl, rn, hne, hb⟩ := STW.out
        have d1 := cell_at hh 1
        have f1 := free_at hh 1
        simp only [List.getElem?_toArray, List.getElem?_cons_zero, List.getElem?_cons_succ] at d1
        have SG := hid (St.go hh hb rl rn hne (Ext.refl none' W) (k + m) (z := k + m) (by push_cast; rfl))
        clear hh rl rn hne
        go_wp2_with fail
        obtain ⟨W1, hW1⟩ : ∃ W1, W1 = W.setCell ⟨sb, 1, none⟩ (.int .i64 (k + m)) := ⟨_, rfl⟩
        rw [← hW1] at SG ⊢
        clear hW1 d1 f1
        obtain ⟨vl, vn, hh, rl, rn, hne, hb⟩ := SG.out.1
        have c3 : ∀ t : LaterF (fun i => base ≤ i ∧ i ≠ sb) W1, t.w.cell? ⟨sb, 3, none⟩ = some vn := fun t => by
         rw [cell_at (t.x.heap hh (by simp))]; rfl
        have HH := hid hh
        have RL := hid rl
        have RN := hid rn
        clear hh rl rn
        refine region_in (fun i => base ≤ i ∧ i ≠ sb) W1 [0, 1, 2, 3, 4, 5, 6, 7, 8, 9] [(10, true), (11, true), (12, false), (13, false), (14, false)] (by kernel_rfl) (by kernel_rfl) (fun dst v c a w h => by cases dst <;> exact h) (Ext.refl _ _) ?_
        simp only [sel, List.getElem?_cons_succ, List.getElem?_cons_zero]
        repeat (go_big_quiet_step (fail))
        refine wpQuiet_nil ?_
        rw [extract0 r m]
        obtain ⟨t, ht⟩ : ∃ t, t = r.take m := ⟨_, rfl⟩
        rw [← ht]
        have HT := hid ht
        clear ht
        simp only [wpChain, sel, List.getElem?_cons_succ, List.getElem?_cons_zero]
        go_wp2_with fail
        obtain ⟨w1, hw1⟩ : ∃ w1, w1 = (W1.alloc (.cells #[.int .i64 0, .string ⟨t.toArray⟩, .int .i64 k] 47)).drew := ⟨_, rfl⟩
        rw [← hw1]
        have X1 : Ext none' W1 w1 := by rw [hw1]; exact ((Ext.refl _ _).alloc _).drew
        refine ⟨In.of (X1.mono fun i _ h => h.elim), ?_⟩
        have own1 : w1.ownsRow base 47 3 vn n.length (tokVals n) := ownsRow_ext RN.out X1 (fun _ _ h => h)
        have src : Src Tryz.prog 3 42 (.slice (some ⟨W1.heap.size, 0, none⟩) 1 1) 1 (tokCells ⟨0, t, k⟩) w1 := tok_src (t := 47) (fz := (0, 0)) (by rw [hw1]; exact heap_alloc_at rfl _) rfl (by simp [tokCells, Value.oneCell'])
        obtain ⟨i0, hi, hz0, hz1, hz2⟩ := info_parts info29
        refine wpList_app _ rfl (.tmp 60) (.tmp 66) 42 42 rfl base 47 i0 _ 3 32 Tryz.underlying42 hi hz0 hz1 hz2 rfl vn n.length (tokVals n) rfl own1 _ 1 _ rfl src ?_ ?_ ?_ ?_
        · unfold maxLen; omega
        · omega
        · have := heap_lt HH.out; have := X1.size; omega
        intro v2 w2 own2 grow2 blk2 _
        obtain ⟨a2, c2, rfl⟩ := own_slice own2
        have hvn := own_ne RN.out HH.out
        have X2 : Ext (fun i => vn.ownBlock = some i) W1 w2 := (X1.mono fun i _ h => h.elim).grown grow2 (fun k hk => .inl hk)
        have X2' : Ext (fun i => base ≤ i ∧ i ≠ sb) W1 w2 := X2.mono fun i _ h => ⟨(RN.out.lt i h).1, hvn i h⟩
        have h2 := X2.heap HH.out (fun h => hvn _ h rfl)
        have p2 := cell_at h2 3
        have pf := free_at h2 3
        simp only [List.getElem?_toArray, List.getElem?_cons_zero, List.getElem?_cons_succ] at p2
        have fin := hid (St.snocN (t := ⟨0, t, k⟩) HH.out hb RL.out hne X2 own2 (blk2.imp id fun h => ⟨_, h, X1.size⟩) hvn)
        have XX := hid X2'
        clear own1 src hi hz0 hz1 hz2 own2 grow2 blk2 hvn X2 X2' h2 X1 hw1
        refine wpList_nil ?_
        refine ⟨In.of XX.out, ?_⟩
        go_wp2_with fail
        go_ret
        rw [HP1.out]
        refine ⟨rfl, ?_, ?_⟩
        · rw [← HR.out, HIF.out, ← HT.out]; exact fin.out
        · exact ((HXW.out.trans SG.out.2).trans (XX.out.mono fun i _ h => h.1)).setCell (p := ⟨sb, 3, none⟩) (.inl hb) _
   · have e3 : decide (r.take 2 = [47, 42]) = false := by simpa using h3
     rw [e3]
     have HP1 : Hid (p = .none) := hid (by rw [HP.out]; unfold noteP; rw [if_neg H2.out, if_neg h3])
     clear h3 e3
     go_wp2_with fail
     go_ret
     rw [HP1.out]
     exact ⟨rfl, STW.out, HXW.out⟩
theorem St.cells {base sb : Nat} {w : World} {s : List UInt8} {k : Nat} {l n : List Tok} (st : St base sb w s k l n) :
  w.cell? ⟨sb, 0, none⟩ = some (.string ⟨s.toArray⟩) ∧ w.cell? ⟨sb, 1, none⟩ = some (.int .i64 k) ∧ w.frozen? ⟨sb, 1, none⟩ = false := by
 obtain ⟨vl, vn, hh, rl, rn, hne, hb⟩ := st
 refine ⟨?_, ?_, free_at hh 1⟩
 · rw [cell_at hh]; rfl
 · rw [cell_at hh]; rfl
theorem St.go' {base sb : Nat} {w : World} {s : List UInt8} {k : Nat} {l n : List Tok} (st : St base sb w s k l n) (k' : Nat) {z : Int} (hz : z = k') :
  St base sb (w.setCell ⟨sb, 1, none⟩ (.int .i64 z)) s k' l n ∧ Ext (up base) w (w.setCell ⟨sb, 1, none⟩ (.int .i64 z)) := by
 obtain ⟨vl, vn, hh, rl, rn, hne, hb⟩ := st
 exact St.go hh hb rl rn hne (Ext.refl _ _) k' hz
def NxPost (base sb : Nat) (s : List UInt8) (k : Nat) (w : World) (o : Option (Nat × List Tok × List Tok)) (e : Ending) (w' : World) : Prop :=
 match o with
 | some (k', l', n') => StPost base sb s k' l' n' w e w'
 | none => e = .panicked [{ v := gave k, recovered := false }] ∧ Ext (up base) w w'
theorem wordK_cases (t : List UInt8) : wordK t = 0 ∨ wordK t = 1 ∨ wordK t = 2 := by unfold wordK; split <;> (try split) <;> simp
theorem idx3 (t : List UInt8) (w : World) : (Instr.index 108 (.agg #[.int .i64 1, .int .i64 2, .int .i64 3]) (.int .i64 (wordK t : Nat))).run Tryz.prog w = .ok (.int .i64 ((1 + wordK t : Nat) : Int)) w := by
 rcases wordK_cases t with h | h | h <;> rw [h] <;> kernel_rfl
theorem next_any (base sb k : Nat) (s : List UInt8) (l n : List Tok) (w : World) (st : St base sb w s k l n) (hk : k < s.length) (hs : s.length ≤ 1000000) (hl : l.length ≤ 800000) (hn : n.length ≤ 800000) (hm : MaxL w) (hbs : 2 < base)
  (hg : ∀ t ∈ l, TGood t) (hx : ∀ t ∈ l, t.text.length ≤ 1000000) :
  Calls Tryz.prog 84 #[.pointer (some ⟨sb, 0, none⟩)] w (NxPost base sb s k w (stepP s k l n)) := by
 have CN := hid (note_any base sb k s l n w st hk hs (by omega) (by omega) hm hg hx)
 have CL := hid (tline_any base sb k k s l n w st (by omega) hm hg hx)
 obtain ⟨p, hp⟩ : ∃ p, p = stepP s k l n := ⟨_, rfl⟩
 rw [← hp]
 obtain ⟨r, hr⟩ : ∃ r, r = s.drop k := ⟨_, rfl⟩
 have hhd : r.head? = some s[k] := by rw [hr]; simp [List.head?_drop, hk]
 unfold stepP at hp
 rw [← hr] at CN hp
 simp only [hhd] at hp
 have hix : ((⟨s.toArray⟩ : ByteArray)[k]'(by rw [bsize]; exact hk)).toNat = s[k].toNat := by
  show ((s.toArray)[k]'_).toNat = _
  simp
 obtain ⟨c, hc⟩ : ∃ c, c = s[k] := ⟨_, rfl⟩
 rw [← hc] at hix hp
 have HC := hid hc
 have HP := hid hp
 have HR := hid hr
 have ST := hid st
 have HM := hid hm
 obtain ⟨p0, p1, f1⟩ := st.cells
 clear hc hp hr st hm hg hx hhd
 have cb : c.toNat < 256 := c.toNat_lt
 have HCE : Hid (∀ d : UInt8, c = d ↔ c.toNat = d.toNat) := hid fun d => toNat_eq c d
 obtain ⟨x, hx⟩ : ∃ x, c.toNat = x := ⟨_, rfl⟩
 rw [hx] at hix cb
 have HX := hid hx
 clear hx
 have CB : Hid (Calls Tryz.prog 111 #[.string ⟨s.toArray⟩, .string ⟨#[239, 187, 191]⟩] w (RetBool (decide (s.take 3 = [239, 187, 191])) w)) := hid (hasPrefix_any s [239, 187, 191] w hs (by decide))
 have hcne : ∀ d : UInt8, x ≠ d.toNat → c ≠ d := fun d h e => h (HX.out ▸ (HCE.out d).1 e)
 have HNE := hid hcne
 clear hcne
 by_cases hk0 : k = 0 ∧ s.take 3 = [239, 187, 191]
 · have HP1 : Hid (p = some (3, l, n)) := hid (by rw [HP.out, if_pos ⟨hk0.1, by rw [HR.out, hk0.1]; exact hk0.2⟩])
   have e0 : ((k : Int) == 0) = true := by simp [hk0.1]
   have eb : decide (s.take 3 = [239, 187, 191]) = true := by simpa using hk0.2
   have fin := hid (ST.out.go' 3 (z := 3) rfl)
   rw [eb] at CB
   clear hk0 eb
   go_enter Tryz.func84, Tryz.ntmps84
   go_wp2_with fail
   refine CB.out.mono ?_
   rintro e w1 ⟨rfl, rfl⟩
   go_wp2_with fail
   go_end0
   rw [HP1.out]
   exact ⟨rfl, fin.out.1, fin.out.2⟩
 · have HP1 := hid (HP.out.trans (if_neg (by rw [HR.out]; rintro ⟨h1, h2⟩; subst h1; exact hk0 ⟨rfl, h2⟩)))
   have hk1 : ((k : Int) == 0) = false ∨ (((k : Int) == 0) = true ∧ decide (s.take 3 = [239, 187, 191]) = false) := by
    by_cases h : k = 0
    · right; exact ⟨by simp [h], by simp; intro h2; exact hk0 ⟨h, h2⟩⟩
    · left; simp [h]
   clear hk0 HP
   have hx5 : x = 10 ∨ x ≠ 10 := by omega
   rcases hx5 with rfl | h10
   · have HP2 := hid (HP1.out.trans (if_pos ((HCE.out 10).2 HX.out)))
     rcases hk1 with e0 | ⟨e0, eb⟩
     all_goals
      try rw [eb] at CB
      go_enter Tryz.func84, Tryz.ntmps84
      go_wp2_with (go_at_call 111; refine CB.out.mono ?_; rintro e w1 ⟨rfl, rfl⟩)
      refine CL.out.mono ?_
      rintro e W ⟨rfl, st1, x1⟩
      obtain ⟨q0, q1, g1⟩ := st1.cells
      have fin := hid (st1.go' (k + 1) (z := k + 1) (by push_cast; rfl))
      have X1 := hid x1
      clear st1 x1
      go_wp2_with fail
      go_end0
      rw [HP2.out]
      exact ⟨rfl, fin.out.1, X1.out.trans fin.out.2⟩
   · have HP2 := hid (HP1.out.trans (if_neg (HNE.out 10 h10)))
     have e10 : ((x : Int) == 10) = false := by simp; omega
     clear HP1 h10
     by_cases hbl : x = 32 ∨ x = 9 ∨ x = 13
     · have HP3 := hid (HP2.out.trans (if_pos (by
        rcases hbl with h | h | h
        · exact .inl ((HCE.out 32).2 (HX.out.trans h))
        · exact .inr (.inl ((HCE.out 9).2 (HX.out.trans h)))
        · exact .inr (.inr ((HCE.out 13).2 (HX.out.trans h))))))
       have fin := hid (ST.out.go' (k + 1) (z := k + 1) (by push_cast; rfl))
       clear HP2
       rcases hk1 with e0 | ⟨e0, eb⟩
       all_goals
        try rw [eb] at CB
        rcases hbl with rfl | rfl | rfl
        all_goals
         go_enter Tryz.func84, Tryz.ntmps84
         go_wp2_with (go_at_call 111; refine CB.out.mono ?_; rintro e w1 ⟨rfl, rfl⟩)
         go_end0
         rw [HP3.out]
         exact ⟨rfl, fin.out.1, fin.out.2⟩
     · have HP3 := hid (HP2.out.trans (if_neg (by
        rintro (h | h | h)
        · exact HNE.out 32 (fun e => hbl (.inl e)) h
        · exact HNE.out 9 (fun e => hbl (.inr (.inl e))) h
        · exact HNE.out 13 (fun e => hbl (.inr (.inr e))) h)))
       have e32 : ((x : Int) == 32) = false := by simp; omega
       have e9 : ((x : Int) == 9) = false := by simp; omega
       have e13 : ((x : Int) == 13) = false := by simp; omega
       clear HP2 hbl
       rcases hk1 with e0 | ⟨e0, eb⟩
       all_goals
        try rw [eb] at CB
        go_enter Tryz.func84, Tryz.ntmps84
        go_wp2_with (go_at_call 111; refine CB.out.mono ?_; rintro e w1 ⟨rfl, rfl⟩)
        refine CN.out.mono ?_
        intro e W hN
        have HN := hid hN
        clear hN
        cases hnp : noteP r with
        | bad =>
         rw [hnp] at HN HP3
         have HP4 : Hid (p = none) := hid HP3.out
         obtain ⟨rfl, hX⟩ := HN.out
         have X1 := hid hX
         clear hX HN
         go_wp2_with fail
         rw [HP4.out]
         exact ⟨rfl, rfl, X1.out⟩
        | len m =>
         rw [hnp] at HN HP3
         have HP4 : Hid (p = some (k + m, (if 10 ∈ r.take m then lineP l k else l), n ++ [⟨0, r.take m, k⟩])) := hid HP3.out
         obtain ⟨rfl, hS, hX⟩ := HN.out
         rw [← HR.out] at hS
         have S1 := hid hS
         have X1 := hid hX
         clear hX hS HN
         go_wp2_with fail
         go_end0
         rw [HP4.out]
         exact ⟨rfl, S1.out, X1.out⟩
        | none =>
         rw [hnp] at HN HP3
         obtain ⟨rfl, hS, hX⟩ := HN.out
         have ST1 := hid hS
         have X1 := hid hX
         clear hX hS HN CN CL CB ST p0 p1 f1
         simp only at HP3
         have hM1 : MaxL W := HM.out.ext X1.out (by unfold up; omega)
         have HM1 := hid hM1
         clear hM1
         go_wp2_with fail
         refine (letter_any x W).mono ?_
         rintro e w1 ⟨rfl, rfl⟩
         have hLc : letterB c.toNat = letterB x := by rw [HX.out]
         cases hL : letterB x with
         | true =>
          have HP4 := hid (HP3.out.trans (if_pos (by rw [hLc, hL])))
          clear hLc hL HP3
          go_wp2_with fail
          refine (while_any 115 (.inl rfl) base sb k s l n W ST1.out (by omega) hs).mono ?_
          rintro e W2 ⟨rfl, st2, x2⟩
          rw [← HR.out] at st2
          have hm0 := idLen_le r
          obtain ⟨m, hm⟩ : ∃ m, m = idLen r := ⟨_, rfl⟩
          rw [← hm] at HP4 st2 hm0
          have hkm : k + m ≤ s.length := by have := congrArg List.length HR.out; rw [List.length_drop] at this; omega
          clear hm hm0
          have hkj : k ≤ k + m := by omega
          obtain ⟨j, hj⟩ : ∃ j, j = k + m := ⟨_, rfl⟩
          rw [← hj] at st2 hkm hkj HP4
          have HJ := hid hj
          clear hj
          have q0 : ∀ t : LaterF none' W2, t.w.cell? ⟨sb, 0, none⟩ = some (.string ⟨s.toArray⟩) := fun t => (st2.keepE t.x).cells.1
          have q1 : ∀ t : LaterF none' W2, t.w.cell? ⟨sb, 1, none⟩ = some (.int .i64 j) := fun t => (st2.keepE t.x).cells.2.1
          have ST2 := hid st2
          have X2 := hid (X1.out.trans x2)
          clear st2 x2
          go_wp2_with fail
          refine region_in none' W2 [0, 1, 2, 3, 4, 5, 6, 7, 8, 9, 10, 11, 14] [(12, true), (13, true), (15, false)] (by kernel_rfl) (by kernel_rfl) (fun dst v c a w h => by cases dst <;> exact h) (Ext.refl _ _) ?_
          simp only [sel, List.getElem?_cons_succ, List.getElem?_cons_zero]
          repeat (go_big_quiet_step (fail))
          refine wpQuiet_nil ?_
          rw [extract_eq s k j]
          have htk : (s.drop k).take (j - k) = r.take m := by rw [HR.out]; congr 1; have := HJ.out; omega
          have HTK := hid htk
          rw [htk]
          clear htk
          obtain ⟨t, ht⟩ : ∃ t, t = r.take m := ⟨_, rfl⟩
          rw [← ht] at HP4 HTK ⊢
          have CAdd := hid (add_any base sb (1 + wordK t) k j s l n W2.drew (ST2.out.keepE (Ext.refl none' W2).drew) hkj hkm (by omega))
          rw [HTK.out] at CAdd
          have IX := idx3 t
          simp only [wpChain, sel, List.getElem?_cons_succ, List.getElem?_cons_zero]
          clear q0 q1 ht
          go_wp2_with (go_at_call 118; refine (word_any t _).mono ?_; rintro e w1 ⟨rfl, rfl⟩)
          refine ⟨In.of (Ext.refl _ _).drew, ?_⟩
          go_wp2_with fail
          refine ⟨In.of (Ext.refl _ _).drew, ?_⟩
          go_wp2_with fail
          refine CAdd.out.mono ?_
          rintro e W3 ⟨rfl, st3, x3⟩
          have ST3 := hid st3
          have X3 := hid ((X2.out.drew).trans x3)
          clear st3 x3
          go_wp2_with fail
          go_end0
          rw [HP4.out]
          exact ⟨rfl, ST3.out, X3.out⟩
         | false =>
          have HP4 := hid (HP3.out.trans (if_neg (by rw [hLc, hL]; decide)))
          clear hLc hL HP3
          go_wp2_with fail
          refine (figure_any x W).mono ?_
          rintro e w1 ⟨rfl, rfl⟩
          have hLc : figB c.toNat = figB x := by rw [HX.out]
          cases hL : figB x with
          | true =>
           have HP5 := hid (HP4.out.trans (if_pos (by rw [hLc, hL])))
           clear hLc hL HP4
           go_wp2_with fail
           refine (while_any 119 (.inr rfl) base sb k s l n W ST1.out (by omega) hs).mono ?_
           rintro e W2 ⟨rfl, st2, x2⟩
           rw [← HR.out] at st2
           have hm0 := idLen_le r
           obtain ⟨m, hm⟩ : ∃ m, m = idLen r := ⟨_, rfl⟩
           rw [← hm] at HP5 st2 hm0
           have hkm : k + m ≤ s.length := by have := congrArg List.length HR.out; rw [List.length_drop] at this; omega
           have CAdd := hid (add_any base sb 4 k (k + m) s l n W2 st2 (by omega) hkm (by omega))
           have htk : (s.drop k).take (k + m - k) = r.take m := by rw [HR.out]; congr 1; omega
           rw [htk] at CAdd
           have X2 := hid (X1.out.trans x2)
           clear st2 x2 hm hm0 htk
           go_wp2_with fail
           refine CAdd.out.mono ?_
           rintro e W3 ⟨rfl, st3, x3⟩
           have ST3 := hid st3
           have X3 := hid (X2.out.trans x3)
           clear st3 x3
           go_wp2_with fail
           go_end0
           rw [HP5.out]
           exact ⟨rfl, ST3.out, X3.out⟩
          | false =>
           have HP5 := hid (HP4.out.trans (if_neg (by rw [hLc, hL]; decide)))
           clear hLc hL HP4
           by_cases hq : x = 34 ∨ x = 96
           · have hcq : c = 34 ∨ c = 96 := hq.imp (fun h => (HCE.out 34).2 (HX.out.trans h)) (fun h => (HCE.out 96).2 (HX.out.trans h))
             have HP6 := hid (HP5.out.trans (if_pos hcq))
             have CQ := tquoted_any base sb k s l n W ST1.out hk (by rw [← HC.out]; exact hcq) hs (by omega)
             rw [← HC.out] at CQ
             have hrt : s.drop (k + 1) = r.tail := by rw [HR.out, List.tail_drop]
             rw [hrt] at CQ
             have CQ' := hid CQ
             clear CQ hrt hcq HP5
             rcases hq with rfl | rfl
             all_goals
              go_wp2_with fail
              refine CQ'.out.mono ?_
              intro e W2 hQ
              have HQ := hid hQ
              clear hQ CQ'
              cases hqo : quo c false r.tail with
              | none =>
               rw [hqo] at HQ HP6
               have HP7 : Hid (p = none) := hid HP6.out
               obtain ⟨rfl, hX⟩ := HQ.out
               have X2 := hid (X1.out.trans hX)
               clear hX HQ
               go_wp2_with fail
               rw [HP7.out]
               exact ⟨rfl, rfl, X2.out⟩
              | some m =>
               rw [hqo] at HQ HP6
               have HP7 : Hid (p = some (k + 1 + m, l ++ [⟨5, r.take (m + 1), k⟩], n)) := hid HP6.out
               obtain ⟨rfl, hS, hX⟩ := HQ.out
               rw [← HR.out] at hS
               have S2 := hid hS
               have X2 := hid (X1.out.trans hX)
               clear hX hS HQ
               go_wp2_with fail
               go_end0
               rw [HP7.out]
               exact ⟨rfl, S2.out, X2.out⟩
           · have HP6 := hid (HP5.out.trans (if_neg (by
              rintro (h | h)
              · exact HNE.out 34 (fun e => hq (.inl e)) h
              · exact HNE.out 96 (fun e => hq (.inr e)) h)))
             have e34 : ((x : Int) == 34) = false := by simp; omega
             have e96 : ((x : Int) == 96) = false := by simp; omega
             have CS := hid (tsign_any base sb k s l n W ST1.out hk hs (by omega) HM1.out)
             rw [← HR.out] at CS
             clear hq HP5
             go_wp2_with fail
             refine CS.out.mono ?_
             intro e W2 hQ
             have HQ := hid hQ
             clear hQ CS
             cases hsg : signP r with
             | zero =>
              rw [hsg] at HQ
              have HP7 : Hid (p = none) := hid (HP6.out.trans (if_pos hsg))
              obtain ⟨rfl, hX⟩ := HQ.out
              have X2 := hid (X1.out.trans hX)
              clear hX HQ
              go_wp2_with fail
              rw [HP7.out]
              exact ⟨rfl, rfl, X2.out⟩
             | succ m =>
              rw [hsg] at HQ
              have HP7 : Hid (p = some (k + (m + 1), l ++ [⟨6, r.take (m + 1), k⟩], n)) := hid (by rw [HP6.out, if_neg (by omega), hsg])
              obtain ⟨rfl, hS, hX⟩ := HQ.out
              rw [← HR.out] at hS
              have S2 := hid hS
              have X2 := hid (X1.out.trans hX)
              clear hX hS HQ
              go_wp2_with fail
              go_end0
              rw [HP7.out]
              exact ⟨rfl, S2.out, X2.out⟩
end Go.Proofs.YthbmjamgidfneaaGreatDoor
