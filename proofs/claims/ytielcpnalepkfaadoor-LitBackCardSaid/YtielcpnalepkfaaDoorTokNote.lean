import Derived.Test.YtielcpnalepkfaaDoorTokSign
import Derived.Test.YtielcpnalepkfaaDoorTokNoteP
namespace Go.Proofs.YtielcpnalepkfaaDoor
open Go.RowKit Go.Lib Go.BigFrame
theorem ext0_toList (r : List UInt8) (n : Nat) : ((⟨r.toArray⟩ : ByteArray).extract 0 n).toList = r.take n := by rw [extract0, Lib.toList_data]
theorem slHasPrefix_any (r p : List UInt8) (w : World) (_hr : r.length ≤ 1000000) (_hp : p.length ≤ 100) : Calls Tryd.prog 75 #[.string ⟨r.toArray⟩, .string ⟨p.toArray⟩] w (RetBool (decide (r.take p.length = p)) w) := by
  obtain ⟨b, hb⟩ : ∃ b, b = decide (r.take p.length = p) := ⟨_, rfl⟩
  rw [← hb]
  have HB := hid hb
  clear hb
  by_cases hl : p.length ≤ r.length
  · go_enter Tryd.func75, Tryd.ntmps75
    go_wp2
    go_ret
    refine ⟨?_, rfl⟩
    congr 2
    rw [HB.out, ext0_toList, beq_list]
    rfl
  · have HE : Hid (b = false) := hid (by
      rw [HB.out]
      simp only [decide_eq_false_iff_not]
      intro h
      have := congrArg List.length h
      rw [List.length_take] at this
      omega)
    go_enter Tryd.func75, Tryd.ntmps75
    go_wp2
    go_ret
    exact ⟨by rw [HE.out]; rfl, rfl⟩
theorem hasPrefix_any (r p : List UInt8) (w : World) (hr : r.length ≤ 1000000) (hp : p.length ≤ 100) : Calls Tryd.prog 57 #[.string ⟨r.toArray⟩, .string ⟨p.toArray⟩] w (RetBool (decide (r.take p.length = p)) w) := by
  have C := hid (slHasPrefix_any r p w hr hp)
  obtain ⟨b, hb⟩ : ∃ b, b = decide (r.take p.length = p) := ⟨_, rfl⟩
  rw [← hb] at C ⊢
  clear hb
  go_enter Tryd.func57, Tryd.ntmps57
  go_wp2_with (go_at_call 75; refine C.out.mono ?_; rintro e w1 ⟨rfl, rfl⟩)
  go_ret
  exact ⟨rfl, rfl⟩
/-- What an append of one token onto the second row leaves. -/
theorem St.snocN {base sb : Nat} {w w2 : World} {s : List UInt8} {k : Nat} {l n : List Tok} {vl vn v2 : Value} {t : Tok} (hh : w.heap[sb]? = some (.cells #[.string ⟨s.toArray⟩, .int .i64 k, vl, vn] 60 (0, 0))) (hb : base ≤ sb)
    (rl : w.ownsRow base 38 3 vl l.length (tokVals l)) (hne : ∀ g, vl.ownBlock = some g → vn.ownBlock = some g → False) (x2 : Ext (fun i => vn.ownBlock = some i) w w2)
    (own2 : w2.ownsRow base 38 3 v2 (n.length + 1) (tokVals n ++ tokCells t)) (blk2 : v2.ownBlock = vn.ownBlock ∨ ∃ g, v2.ownBlock = some g ∧ w.heap.size ≤ g) (hvn : ∀ g, vn.ownBlock = some g → g ≠ sb) :
    St base sb (w2.setCell ⟨sb, 3, none⟩ v2) s k l (n ++ [t]) := by
  have h2 : w2.heap[sb]? = some (.cells #[.string ⟨s.toArray⟩, .int .i64 k, vl, vn] 60 (0, 0)) := x2.heap hh (fun h => hvn _ h rfl)
  have xs : Ext (one sb) w2 (w2.setCell ⟨sb, 3, none⟩ v2) := (Ext.refl _ _).set 3 v2
  have rl2 := ownsRow_ext rl x2 (fun g h1 h2 => hne g h1 h2)
  refine ⟨vl, v2, ?_, ?_, ?_, ?_, hb⟩
  · rw [heap_setCell_same h2]; rfl
  · exact ownsRow_ext rl2 xs (fun g hg he => own_ne rl2 h2 g hg he)
  · have := ownsRow_ext own2 xs (fun g hg he => own_ne own2 h2 g hg he)
    rw [tokVals_snoc, List.length_append]
    exact this
  · intro g h3 h4
    rcases blk2 with h5 | ⟨g', h5, h6⟩
    · exact hne g h3 (h5 ▸ h4)
    · rw [h5] at h4
      injection h4 with h4
      have := (rl.lt g h3).2
      omega
theorem St.keepE {base sb : Nat} {w w2 : World} {s : List UInt8} {k : Nat} {l n : List Tok} (st : St base sb w s k l n) (x : Ext none' w w2) : St base sb w2 s k l n := by
  obtain ⟨vl, vn, hh, rl, rn, hne, hb⟩ := st
  exact ⟨vl, vn, x.heap hh (fun h => h), ownsRow_ext rl x (fun _ _ h => h), ownsRow_ext rn x (fun _ _ h => h), hne, hb⟩
theorem lineP_len (l : List Tok) (k : Nat) : (lineP l k).length ≤ l.length + 1 := by unfold lineP; split <;> simp
/-- What 'note' leaves. -/
def NtPost (base sb : Nat) (s : List UInt8) (k : Nat) (l n : List Tok) (w : World) (x : NoteR) (e : Ending) (w' : World) : Prop :=
  match x with
  | .none => e = .returned (.bool false) ∧ St base sb w' s k l n ∧ Ext (up base) w w'
  | .bad => e = .panicked [{ v := gave k, recovered := false }] ∧ Ext (up base) w w'
  | .len m => e = .returned (.bool true) ∧ St base sb w' s (k + m) (if 10 ∈ (s.drop k).take m then lineP l k else l) (n ++ [⟨0, (s.drop k).take m, k⟩]) ∧ Ext (up base) w w'
set_option maxHeartbeats 3200000 in
theorem note_any (base sb k : Nat) (s : List UInt8) (l n : List Tok) (w : World) (st : St base sb w s k l n) (hk : k < s.length) (hs : s.length ≤ 1000000) (hl : l.length ≤ 900000) (hn : n.length ≤ 900000) (hm : MaxL w)
    (hg : ∀ t ∈ l, Good t) (hx : ∀ t ∈ l, t.text.length ≤ 1000000) :
    Calls Tryd.prog 58 #[.pointer (some ⟨sb, 0, none⟩)] w (NtPost base sb s k l n w (noteP (s.drop k))) := by
  obtain ⟨r, hr⟩ : ∃ r, r = s.drop k := ⟨_, rfl⟩
  have hrl : r.length ≤ 1000000 := by rw [hr, List.length_drop]; omega
  have HRL : Hid (r.length = s.length - k) := hid (by rw [hr, List.length_drop])
  rw [← hr]
  obtain ⟨p, hp⟩ : ∃ p, p = noteP r := ⟨_, rfl⟩
  rw [← hp]
  have HR := hid hr
  have HP := hid hp
  clear hr hp
  have ST := hid st
  have HG := hid hg
  have HX := hid hx
  clear hg hx
  obtain ⟨vl, vn, hh, rl, rn, hne, hb⟩ := st
  have c0 : ∀ t : LaterF none' w, t.w.cell? ⟨sb, 0, none⟩ = some (.string ⟨s.toArray⟩) := fun t => by
    rw [cell_at (t.x.heap hh (fun h => h))]; rfl
  have c1 : ∀ t : LaterF none' w, t.w.cell? ⟨sb, 1, none⟩ = some (.int .i64 k) := fun t => by
    rw [cell_at (t.x.heap hh (fun h => h))]; rfl
  have HH := hid hh
  have HM := hid hm
  have CP := fun (t : List UInt8) w' (h : t.length ≤ 100) => hasPrefix_any r t w' hrl h
  have HCP := hid CP
  clear hh rl rn hm CP hne
  go_enter Tryd.func58, Tryd.ntmps58
  go_wp2_with fail
  refine region_in none' w [0, 1, 2, 3, 4, 5, 6, 7, 8, 9] [] (by kernel_rfl) (by kernel_rfl) (fun dst v c a w h => by cases dst <;> exact h) (Ext.refl _ _) ?_
  simp only [sel, List.getElem?_cons_succ, List.getElem?_cons_zero]
  repeat (go_big_quiet_step (fail))
  refine wpQuiet_nil ?_
  simp only [wpChain]
  rw [extract_eq s k s.length]
  have hrt : (s.drop k).take (s.length - k) = r := by rw [HR.out, List.take_of_length_le (by rw [List.length_drop]; omega)]
  rw [hrt]
  clear hrt
  obtain ⟨W, hW⟩ : ∃ W, W = w.drew := ⟨_, rfl⟩
  rw [← hW]
  have X1 : Ext none' w W := by rw [hW]; exact (Ext.refl _ _).drew
  have d1 := c1 ⟨_, X1⟩
  have STW : Hid (St base sb W s k l n) := hid (ST.out.keepE X1)
  have HXW : Hid (Ext (up base) w W) := hid (X1.mono fun i _ h => h.elim)
  have HMW := hid (HM.out.ext X1 (fun h => h))
  simp only at d1
  clear c0 c1 hW X1 HH HM ST
  go_wp2_with fail
  refine (HCP.out _ _ (by decide)).mono ?_
  rintro e w1 ⟨rfl, rfl⟩
  clear d1
  simp only [List.length_cons, List.length_nil, Nat.zero_add, Nat.reduceAdd]
  by_cases h2 : r.take 2 = [47, 47]
  · have e2 : decide (r.take 2 = [47, 47]) = true := by simpa using h2
    rw [e2]
    have HP1 : Hid (p = .len (r.takeWhile fun c => c != 10).length) := hid (by rw [HP.out]; unfold noteP; rw [if_pos h2])
    have HIF : Hid ((if 10 ∈ r.take (r.takeWhile fun c => c != 10).length then lineP l k else l) = l) := hid (if_neg (tw_no10 r))
    have hmr := takeWhile_le (fun c => c != 10) r
    have HIB := hid (indexByte_tw r)
    obtain ⟨m, hm⟩ : ∃ m, m = (r.takeWhile fun c => c != 10).length := ⟨_, rfl⟩
    rw [← hm] at HP1 HIF hmr HIB
    clear h2 e2 hm
    go_wp2_with fail
    refine (Tryd.strings_IndexByte _ _ _).mono ?_
    rintro e W ⟨rfl, rfl⟩
    have hcv : Lib.indexByte ((⟨r.toArray⟩ : ByteArray).data.toList) ((10 : Int).toNat.toUInt8) = Lib.indexByte r 10 := rfl
    rw [hcv]
    clear hcv
    rcases HIB.out with ⟨h1, h2⟩ | h1
    · rw [h1]
      have HM2 := hid h2
      have hmr1 : m ≤ r.length := by omega
      obtain rfl : r.length = m := h2.symm
      clear h1 h2 HIB hmr
      obtain ⟨vl, vn, hh, rl, rn, hne, hb⟩ := STW.out
      have d1 := cell_at hh 1
      have f1 := free_at hh 1
      simp only [List.getElem?_toArray, List.getElem?_cons_zero, List.getElem?_cons_succ] at d1
      have SG := hid (St.go hh hb rl rn hne (Ext.refl none' W) (k + r.length) (z := k + r.length) (by push_cast; rfl))
      clear hh rl rn hne
      go_wp2_with fail
      obtain ⟨W1, hW1⟩ : ∃ W1, W1 = W.setCell ⟨sb, 1, none⟩ (.int .i64 (k + r.length)) := ⟨_, rfl⟩
      rw [← hW1] at SG ⊢
      clear hW1 d1 f1
      obtain ⟨vl, vn, hh, rl, rn, hne, hb⟩ := SG.out.1
      have c3 : ∀ t : LaterF (fun i => base ≤ i ∧ i ≠ sb) W1, t.w.cell? ⟨sb, 3, none⟩ = some vn := fun t => by
        rw [cell_at (t.x.heap hh (by simp))]; rfl
      have HH := hid hh
      have RL := hid rl
      have RN := hid rn
      clear hh rl rn
      refine region_in (fun i => base ≤ i ∧ i ≠ sb) W1 [0, 1, 2, 3, 4, 5, 6, 7, 8, 9] [(10, true), (11, true), (12, false), (13, false), (14, false)] (by kernel_rfl) (by kernel_rfl) (fun dst v c a w h => by cases dst <;> exact h) (Ext.refl _ _) ?_
      simp only [sel, List.getElem?_cons_succ, List.getElem?_cons_zero]
      repeat (go_big_quiet_step (fail))
      refine wpQuiet_nil ?_
      rw [extract0 r r.length]
      obtain ⟨t, ht⟩ : ∃ t, t = r.take r.length := ⟨_, rfl⟩
      rw [← ht]
      have HT := hid ht
      clear ht
      simp only [wpChain, sel, List.getElem?_cons_succ, List.getElem?_cons_zero]
      go_wp2_with fail
      obtain ⟨w1, hw1⟩ : ∃ w1, w1 = (W1.alloc (.cells #[.int .i64 0, .string ⟨t.toArray⟩, .int .i64 k] 38)).drew := ⟨_, rfl⟩
      rw [← hw1]
      have X1 : Ext none' W1 w1 := by rw [hw1]; exact ((Ext.refl _ _).alloc _).drew
      refine ⟨In.of (X1.mono fun i _ h => h.elim), ?_⟩
      have own1 : w1.ownsRow base 38 3 vn n.length (tokVals n) := ownsRow_ext RN.out X1 (fun _ _ h => h)
      have src : Src Tryd.prog 3 34 (.slice (some ⟨W1.heap.size, 0, none⟩) 1 1) 1 (tokCells ⟨0, t, k⟩) w1 := tok_src (t := 38) (fz := (0, 0)) (by rw [hw1]; exact heap_alloc_at rfl _) rfl (by simp [tokCells, Value.oneCell'])
      obtain ⟨i0, hi, hz0, hz1, hz2⟩ := info_parts info29
      refine wpList_app _ rfl (.tmp 60) (.tmp 66) 34 34 rfl base 38 i0 _ 3 32 Tryd.underlying34 hi hz0 hz1 hz2 rfl vn n.length (tokVals n) rfl own1 _ 1 _ rfl src ?_ ?_ ?_ ?_
      · unfold maxLen; omega
      · omega
      · have := heap_lt HH.out; have := X1.size; omega
      intro v2 w2 own2 grow2 blk2 _
      obtain ⟨a2, c2, rfl⟩ := own_slice own2
      have hvn := own_ne RN.out HH.out
      have X2 : Ext (fun i => vn.ownBlock = some i) W1 w2 := (X1.mono fun i _ h => h.elim).grown grow2 (fun k hk => .inl hk)
      have X2' : Ext (fun i => base ≤ i ∧ i ≠ sb) W1 w2 := X2.mono fun i _ h => ⟨(RN.out.lt i h).1, hvn i h⟩
      have h2 := X2.heap HH.out (fun h => hvn _ h rfl)
      have p2 := cell_at h2 3
      have pf := free_at h2 3
      simp only [List.getElem?_toArray, List.getElem?_cons_zero, List.getElem?_cons_succ] at p2
      have fin := hid (St.snocN (t := ⟨0, t, k⟩) HH.out hb RL.out hne X2 own2 (blk2.imp id fun h => ⟨_, h, X1.size⟩) hvn)
      have XX := hid X2'
      clear own1 src hi hz0 hz1 hz2 own2 grow2 blk2 hvn X2 X2' h2 X1 hw1
      refine wpList_nil ?_
      refine ⟨In.of XX.out, ?_⟩
      go_wp2_with fail
      go_ret
      rw [HP1.out]
      refine ⟨rfl, ?_, ?_⟩
      · rw [← HR.out, HIF.out, ← HT.out]; exact fin.out
      · exact ((HXW.out.trans SG.out.2).trans (XX.out.mono fun i _ h => h.1)).setCell (p := ⟨sb, 3, none⟩) (.inl hb) _

    · rw [h1]
      clear h1 HIB
      obtain ⟨vl, vn, hh, rl, rn, hne, hb⟩ := STW.out
      have d1 := cell_at hh 1
      have f1 := free_at hh 1
      simp only [List.getElem?_toArray, List.getElem?_cons_zero, List.getElem?_cons_succ] at d1
      have SG := hid (St.go hh hb rl rn hne (Ext.refl none' W) (k + m) (z := k + m) (by push_cast; rfl))
      clear hh rl rn hne
      go_wp2_with fail
      obtain ⟨W1, hW1⟩ : ∃ W1, W1 = W.setCell ⟨sb, 1, none⟩ (.int .i64 (k + m)) := ⟨_, rfl⟩
      rw [← hW1] at SG ⊢
      clear hW1 d1 f1
      obtain ⟨vl, vn, hh, rl, rn, hne, hb⟩ := SG.out.1
      have c3 : ∀ t : LaterF (fun i => base ≤ i ∧ i ≠ sb) W1, t.w.cell? ⟨sb, 3, none⟩ = some vn := fun t => by
        rw [cell_at (t.x.heap hh (by simp))]; rfl
      have HH := hid hh
      have RL := hid rl
      have RN := hid rn
      clear hh rl rn
      refine region_in (fun i => base ≤ i ∧ i ≠ sb) W1 [0, 1, 2, 3, 4, 5, 6, 7, 8, 9] [(10, true), (11, true), (12, false), (13, false), (14, false)] (by kernel_rfl) (by kernel_rfl) (fun dst v c a w h => by cases dst <;> exact h) (Ext.refl _ _) ?_
      simp only [sel, List.getElem?_cons_succ, List.getElem?_cons_zero]
      repeat (go_big_quiet_step (fail))
      refine wpQuiet_nil ?_
      rw [extract0 r m]
      obtain ⟨t, ht⟩ : ∃ t, t = r.take m := ⟨_, rfl⟩
      rw [← ht]
      have HT := hid ht
      clear ht
      simp only [wpChain, sel, List.getElem?_cons_succ, List.getElem?_cons_zero]
      go_wp2_with fail
      obtain ⟨w1, hw1⟩ : ∃ w1, w1 = (W1.alloc (.cells #[.int .i64 0, .string ⟨t.toArray⟩, .int .i64 k] 38)).drew := ⟨_, rfl⟩
      rw [← hw1]
      have X1 : Ext none' W1 w1 := by rw [hw1]; exact ((Ext.refl _ _).alloc _).drew
      refine ⟨In.of (X1.mono fun i _ h => h.elim), ?_⟩
      have own1 : w1.ownsRow base 38 3 vn n.length (tokVals n) := ownsRow_ext RN.out X1 (fun _ _ h => h)
      have src : Src Tryd.prog 3 34 (.slice (some ⟨W1.heap.size, 0, none⟩) 1 1) 1 (tokCells ⟨0, t, k⟩) w1 := tok_src (t := 38) (fz := (0, 0)) (by rw [hw1]; exact heap_alloc_at rfl _) rfl (by simp [tokCells, Value.oneCell'])
      obtain ⟨i0, hi, hz0, hz1, hz2⟩ := info_parts info29
      refine wpList_app _ rfl (.tmp 60) (.tmp 66) 34 34 rfl base 38 i0 _ 3 32 Tryd.underlying34 hi hz0 hz1 hz2 rfl vn n.length (tokVals n) rfl own1 _ 1 _ rfl src ?_ ?_ ?_ ?_
      · unfold maxLen; omega
      · omega
      · have := heap_lt HH.out; have := X1.size; omega
      intro v2 w2 own2 grow2 blk2 _
      obtain ⟨a2, c2, rfl⟩ := own_slice own2
      have hvn := own_ne RN.out HH.out
      have X2 : Ext (fun i => vn.ownBlock = some i) W1 w2 := (X1.mono fun i _ h => h.elim).grown grow2 (fun k hk => .inl hk)
      have X2' : Ext (fun i => base ≤ i ∧ i ≠ sb) W1 w2 := X2.mono fun i _ h => ⟨(RN.out.lt i h).1, hvn i h⟩
      have h2 := X2.heap HH.out (fun h => hvn _ h rfl)
      have p2 := cell_at h2 3
      have pf := free_at h2 3
      simp only [List.getElem?_toArray, List.getElem?_cons_zero, List.getElem?_cons_succ] at p2
      have fin := hid (St.snocN (t := ⟨0, t, k⟩) HH.out hb RL.out hne X2 own2 (blk2.imp id fun h => ⟨_, h, X1.size⟩) hvn)
      have XX := hid X2'
      clear own1 src hi hz0 hz1 hz2 own2 grow2 blk2 hvn X2 X2' h2 X1 hw1
      refine wpList_nil ?_
      refine ⟨In.of XX.out, ?_⟩
      go_wp2_with fail
      go_ret
      rw [HP1.out]
      refine ⟨rfl, ?_, ?_⟩
      · rw [← HR.out, HIF.out, ← HT.out]; exact fin.out
      · exact ((HXW.out.trans SG.out.2).trans (XX.out.mono fun i _ h => h.1)).setCell (p := ⟨sb, 3, none⟩) (.inl hb) _

  · have e2 : decide (r.take 2 = [47, 47]) = false := by simpa using h2
    rw [e2]
    have H2 := hid h2
    clear h2 e2
    go_wp2_with fail
    refine (HCP.out _ _ (by decide)).mono ?_
    rintro e w1 ⟨rfl, rfl⟩
    simp only [List.length_cons, List.length_nil, Nat.zero_add, Nat.reduceAdd]
    by_cases h3 : r.take 2 = [47, 42]
    · have e3 : decide (r.take 2 = [47, 42]) = true := by simpa using h3
      rw [e3]
      have hr2 : 2 ≤ r.length := by have := congrArg List.length h3; rw [List.length_take] at this; simp at this; omega
      have H3 := hid h3
      clear h3 e3
      go_wp2_with fail
      rw [extract_eq r 2 r.length]
      have hrt : (r.drop 2).take (r.length - 2) = r.drop 2 := List.take_of_length_le (by rw [List.length_drop]; omega)
      rw [hrt]
      clear hrt
      have CI := (let ⟨m, hm⟩ := HMW.out.2; Tryd.strings_Index ⟨(r.drop 2).toArray⟩ ⟨#[42, 47]⟩ m W (by rw [bsize, List.length_drop]; omega) hm)
      refine CI.mono ?_
      rintro e W ⟨rfl, rfl⟩
      clear CI
      have hix : Lib.index ((⟨(r.drop 2).toArray⟩ : ByteArray).data.toList) ((⟨#[42, 47]⟩ : ByteArray).data.toList) = (match star (r.drop 2) with | some k => (k : Int) | none => -1) := index_star _
      rw [hix]
      clear hix
      cases hst : star (r.drop 2) with
      | none =>
        have HP1 : Hid (p = .bad) := hid (by rw [HP.out]; unfold noteP; rw [if_neg H2.out, if_pos H3.out, hst])
        clear hst
        simp only
        go_wp2_with (go_at_call 76; refine (need_no _ k _).mono ?_; rintro e w1 ⟨rfl, rfl⟩)
        rw [HP1.out]
        exact ⟨rfl, ⟨rfl, HXW.out⟩⟩
      | some j =>
        have hj := star_lt _ _ hst
        rw [List.length_drop] at hj
        have HP1 : Hid (p = .len (j + 4)) := hid (by rw [HP.out]; unfold noteP; rw [if_neg H2.out, if_pos H3.out, hst])
        clear hst
        simp only
        have hj4 : j + 4 ≤ r.length := by omega
        clear hj
        go_wp2_with fail
        refine (need_is _ _ k _ (by simp)).mono ?_
        rintro e w1 ⟨rfl, rfl⟩
        go_wp2_with fail
        rw [extract0]
        refine (Tryd.strings_Contains_one _ 10 _).mono ?_
        rintro e W ⟨rfl, rfl⟩
        have hix : decide (0 ≤ Lib.indexByte ((⟨(r.take (j + 4)).toArray⟩ : ByteArray).data.toList) 10) = decide (10 ∈ r.take (j + 4)) := indexByte_memT _ _
        rw [hix]
        clear hix
        obtain ⟨m, hm⟩ : ∃ m, m = j + 4 := ⟨_, rfl⟩
        have hmm : ((j : Int) + 4) = (m : Int) := by omega
        rw [← hm] at HP1 hj4 ⊢
        rw [hmm]
        clear hmm hm
        by_cases h10 : 10 ∈ r.take m
        · have e10 : decide (10 ∈ r.take m) = true := by simpa using h10
          rw [e10]
          have HIF : Hid ((if 10 ∈ r.take m then lineP l k else l) = lineP l k) := hid (if_pos h10)
          clear h10 e10
          go_wp2_with fail
          refine (line_any base sb k k s l n W STW.out (by omega) HMW.out HG.out HX.out).mono ?_
          rintro e W2 ⟨rfl, st2, x2⟩
          have ST2 := hid st2
          have HX2 := hid (HXW.out.trans x2)
          have hll : (lineP l k).length ≤ 900001 := by have := lineP_len l k; omega
          clear st2 x2
          obtain ⟨vl, vn, hh, rl, rn, hne, hb⟩ := ST2.out
          have d1 := cell_at hh 1
          have f1 := free_at hh 1
          simp only [List.getElem?_toArray, List.getElem?_cons_zero, List.getElem?_cons_succ] at d1
          have SG := hid (St.go hh hb rl rn hne (Ext.refl none' W2) (k + m) (z := k + m) (by push_cast; rfl))
          clear hh rl rn hne
          go_wp2_with fail
          obtain ⟨W1, hW1⟩ : ∃ W1, W1 = W2.setCell ⟨sb, 1, none⟩ (.int .i64 (k + m)) := ⟨_, rfl⟩
          rw [← hW1] at SG ⊢
          clear hW1 d1 f1
          obtain ⟨vl, vn, hh, rl, rn, hne, hb⟩ := SG.out.1
          have c3 : ∀ t : LaterF (fun i => base ≤ i ∧ i ≠ sb) W1, t.w.cell? ⟨sb, 3, none⟩ = some vn := fun t => by
            rw [cell_at (t.x.heap hh (by simp))]; rfl
          have HH := hid hh
          have RL := hid rl
          have RN := hid rn
          clear hh rl rn
          refine region_in (fun i => base ≤ i ∧ i ≠ sb) W1 [0, 1, 2, 3, 4, 5, 6, 7, 8, 9] [(10, true), (11, true), (12, false), (13, false), (14, false)] (by kernel_rfl) (by kernel_rfl) (fun dst v c a w h => by cases dst <;> exact h) (Ext.refl _ _) ?_
          simp only [sel, List.getElem?_cons_succ, List.getElem?_cons_zero]
          repeat (go_big_quiet_step (fail))
          refine wpQuiet_nil ?_
          rw [extract0 r m]
          obtain ⟨t, ht⟩ : ∃ t, t = r.take m := ⟨_, rfl⟩
          rw [← ht]
          have HT := hid ht
          clear ht
          simp only [wpChain, sel, List.getElem?_cons_succ, List.getElem?_cons_zero]
          go_wp2_with fail
          obtain ⟨w1, hw1⟩ : ∃ w1, w1 = (W1.alloc (.cells #[.int .i64 0, .string ⟨t.toArray⟩, .int .i64 k] 38)).drew := ⟨_, rfl⟩
          rw [← hw1]
          have X1 : Ext none' W1 w1 := by rw [hw1]; exact ((Ext.refl _ _).alloc _).drew
          refine ⟨In.of (X1.mono fun i _ h => h.elim), ?_⟩
          have own1 : w1.ownsRow base 38 3 vn n.length (tokVals n) := ownsRow_ext RN.out X1 (fun _ _ h => h)
          have src : Src Tryd.prog 3 34 (.slice (some ⟨W1.heap.size, 0, none⟩) 1 1) 1 (tokCells ⟨0, t, k⟩) w1 := tok_src (t := 38) (fz := (0, 0)) (by rw [hw1]; exact heap_alloc_at rfl _) rfl (by simp [tokCells, Value.oneCell'])
          obtain ⟨i0, hi, hz0, hz1, hz2⟩ := info_parts info29
          refine wpList_app _ rfl (.tmp 60) (.tmp 66) 34 34 rfl base 38 i0 _ 3 32 Tryd.underlying34 hi hz0 hz1 hz2 rfl vn n.length (tokVals n) rfl own1 _ 1 _ rfl src ?_ ?_ ?_ ?_
          · unfold maxLen; omega
          · omega
          · have := heap_lt HH.out; have := X1.size; omega
          intro v2 w2 own2 grow2 blk2 _
          obtain ⟨a2, c2, rfl⟩ := own_slice own2
          have hvn := own_ne RN.out HH.out
          have X2 : Ext (fun i => vn.ownBlock = some i) W1 w2 := (X1.mono fun i _ h => h.elim).grown grow2 (fun k hk => .inl hk)
          have X2' : Ext (fun i => base ≤ i ∧ i ≠ sb) W1 w2 := X2.mono fun i _ h => ⟨(RN.out.lt i h).1, hvn i h⟩
          have h2 := X2.heap HH.out (fun h => hvn _ h rfl)
          have p2 := cell_at h2 3
          have pf := free_at h2 3
          simp only [List.getElem?_toArray, List.getElem?_cons_zero, List.getElem?_cons_succ] at p2
          have fin := hid (St.snocN (t := ⟨0, t, k⟩) HH.out hb RL.out hne X2 own2 (blk2.imp id fun h => ⟨_, h, X1.size⟩) hvn)
          have XX := hid X2'
          clear own1 src hi hz0 hz1 hz2 own2 grow2 blk2 hvn X2 X2' h2 X1 hw1
          refine wpList_nil ?_
          refine ⟨In.of XX.out, ?_⟩
          go_wp2_with fail
          go_ret
          rw [HP1.out]
          refine ⟨rfl, ?_, ?_⟩
          · rw [← HR.out, HIF.out, ← HT.out]; exact fin.out
          · exact ((HX2.out.trans SG.out.2).trans (XX.out.mono fun i _ h => h.1)).setCell (p := ⟨sb, 3, none⟩) (.inl hb) _

        · have e10 : decide (10 ∈ r.take m) = false := by simpa using h10
          rw [e10]
          have HIF : Hid ((if 10 ∈ r.take m then lineP l k else l) = l) := hid (if_neg h10)
          clear h10 e10
          obtain ⟨vl, vn, hh, rl, rn, hne, hb⟩ := STW.out
          have d1 := cell_at hh 1
          have f1 := free_at hh 1
          simp only [List.getElem?_toArray, List.getElem?_cons_zero, List.getElem?_cons_succ] at d1
          have SG := hid (St.go hh hb rl rn hne (Ext.refl none' W) (k + m) (z := k + m) (by push_cast; rfl))
          clear hh rl rn hne
          go_wp2_with fail
          obtain ⟨W1, hW1⟩ : ∃ W1, W1 = W.setCell ⟨sb, 1, none⟩ (.int .i64 (k + m)) := ⟨_, rfl⟩
          rw [← hW1] at SG ⊢
          clear hW1 d1 f1
          obtain ⟨vl, vn, hh, rl, rn, hne, hb⟩ := SG.out.1
          have c3 : ∀ t : LaterF (fun i => base ≤ i ∧ i ≠ sb) W1, t.w.cell? ⟨sb, 3, none⟩ = some vn := fun t => by
            rw [cell_at (t.x.heap hh (by simp))]; rfl
          have HH := hid hh
          have RL := hid rl
          have RN := hid rn
          clear hh rl rn
          refine region_in (fun i => base ≤ i ∧ i ≠ sb) W1 [0, 1, 2, 3, 4, 5, 6, 7, 8, 9] [(10, true), (11, true), (12, false), (13, false), (14, false)] (by kernel_rfl) (by kernel_rfl) (fun dst v c a w h => by cases dst <;> exact h) (Ext.refl _ _) ?_
          simp only [sel, List.getElem?_cons_succ, List.getElem?_cons_zero]
          repeat (go_big_quiet_step (fail))
          refine wpQuiet_nil ?_
          rw [extract0 r m]
          obtain ⟨t, ht⟩ : ∃ t, t = r.take m := ⟨_, rfl⟩
          rw [← ht]
          have HT := hid ht
          clear ht
          simp only [wpChain, sel, List.getElem?_cons_succ, List.getElem?_cons_zero]
          go_wp2_with fail
          obtain ⟨w1, hw1⟩ : ∃ w1, w1 = (W1.alloc (.cells #[.int .i64 0, .string ⟨t.toArray⟩, .int .i64 k] 38)).drew := ⟨_, rfl⟩
          rw [← hw1]
          have X1 : Ext none' W1 w1 := by rw [hw1]; exact ((Ext.refl _ _).alloc _).drew
          refine ⟨In.of (X1.mono fun i _ h => h.elim), ?_⟩
          have own1 : w1.ownsRow base 38 3 vn n.length (tokVals n) := ownsRow_ext RN.out X1 (fun _ _ h => h)
          have src : Src Tryd.prog 3 34 (.slice (some ⟨W1.heap.size, 0, none⟩) 1 1) 1 (tokCells ⟨0, t, k⟩) w1 := tok_src (t := 38) (fz := (0, 0)) (by rw [hw1]; exact heap_alloc_at rfl _) rfl (by simp [tokCells, Value.oneCell'])
          obtain ⟨i0, hi, hz0, hz1, hz2⟩ := info_parts info29
          refine wpList_app _ rfl (.tmp 60) (.tmp 66) 34 34 rfl base 38 i0 _ 3 32 Tryd.underlying34 hi hz0 hz1 hz2 rfl vn n.length (tokVals n) rfl own1 _ 1 _ rfl src ?_ ?_ ?_ ?_
          · unfold maxLen; omega
          · omega
          · have := heap_lt HH.out; have := X1.size; omega
          intro v2 w2 own2 grow2 blk2 _
          obtain ⟨a2, c2, rfl⟩ := own_slice own2
          have hvn := own_ne RN.out HH.out
          have X2 : Ext (fun i => vn.ownBlock = some i) W1 w2 := (X1.mono fun i _ h => h.elim).grown grow2 (fun k hk => .inl hk)
          have X2' : Ext (fun i => base ≤ i ∧ i ≠ sb) W1 w2 := X2.mono fun i _ h => ⟨(RN.out.lt i h).1, hvn i h⟩
          have h2 := X2.heap HH.out (fun h => hvn _ h rfl)
          have p2 := cell_at h2 3
          have pf := free_at h2 3
          simp only [List.getElem?_toArray, List.getElem?_cons_zero, List.getElem?_cons_succ] at p2
          have fin := hid (St.snocN (t := ⟨0, t, k⟩) HH.out hb RL.out hne X2 own2 (blk2.imp id fun h => ⟨_, h, X1.size⟩) hvn)
          have XX := hid X2'
          clear own1 src hi hz0 hz1 hz2 own2 grow2 blk2 hvn X2 X2' h2 X1 hw1
          refine wpList_nil ?_
          refine ⟨In.of XX.out, ?_⟩
          go_wp2_with fail
          go_ret
          rw [HP1.out]
          refine ⟨rfl, ?_, ?_⟩
          · rw [← HR.out, HIF.out, ← HT.out]; exact fin.out
          · exact ((HXW.out.trans SG.out.2).trans (XX.out.mono fun i _ h => h.1)).setCell (p := ⟨sb, 3, none⟩) (.inl hb) _

    · have e3 : decide (r.take 2 = [47, 42]) = false := by simpa using h3
      rw [e3]
      have HP1 : Hid (p = .none) := hid (by rw [HP.out]; unfold noteP; rw [if_neg H2.out, if_neg h3])
      clear h3 e3
      go_wp2_with fail
      go_ret
      rw [HP1.out]
      exact ⟨rfl, STW.out, HXW.out⟩
end Go.Proofs.YtielcpnalepkfaaDoor
