import Derived.Test.YtielcpnalepkfaaDoorTokLine
namespace Go.Proofs.YtielcpnalepkfaaDoor
open Go.RowKit Go.Lib Go.BigFrame
theorem decodeN_low (n b0 b1 b2 b3 : Nat) (h : b0 < 128) : decodeN n b0 b1 b2 b3 = (b0, 1) := by unfold decodeN; rw [if_pos h]
theorem decodeN_ge (n b0 b1 b2 b3 : Nat) (h : 128 ≤ b0) : 128 ≤ (decodeN n b0 b1 b2 b3).1 := by
  unfold decodeN
  repeat' split
  all_goals simp only
  all_goals omega
theorem idB_high {c : UInt8} (h : 128 ≤ c.toNat) : idB c = false := by
  unfold idB letterB figB
  simp
  omega
/-- What the sign that begins a text is, if it is a letter or a figure. -/
theorem id_head (c : UInt8) (t : List UInt8) : (letterB (decodeL (c :: t)).1 || figB (decodeL (c :: t)).1) = idB c ∧ (idB c = true → (decodeL (c :: t)).2 = 1) := by
  rw [decodeL_N]
  simp only [List.getD_cons_zero]
  by_cases h : c.toNat < 128
  · rw [decodeN_low _ _ _ _ _ h]; exact ⟨rfl, fun _ => rfl⟩
  · have h1 := decodeN_ge (c :: t).length c.toNat ((c :: t).getD 1 0).toNat ((c :: t).getD 2 0).toNat ((c :: t).getD 3 0).toNat (by omega)
    rw [idB_high (by omega)]
    refine ⟨?_, fun h => by cases h⟩
    generalize (decodeN (c :: t).length c.toNat ((c :: t).getD 1 0).toNat ((c :: t).getD 2 0).toNat ((c :: t).getD 3 0).toNat).1 = b at h1 ⊢
    unfold letterB figB
    simp
    omega
theorem takeWhile_at {p : UInt8 → Bool} : ∀ (r : List UInt8) (j : Nat), j ≤ r.length → (∀ c ∈ r.take j, p c = true) → (∀ c, r[j]? = some c → p c = false) → (r.takeWhile p).length = j
  | [], j, h, _, _ => by simp at h; subst h; rfl
  | c :: r, 0, _, _, h2 => by
    have := h2 c rfl
    rw [List.takeWhile_cons, this]; rfl
  | c :: r, j + 1, h, h1, h2 => by
    have hc := h1 c (by simp)
    rw [List.takeWhile_cons, hc]
    simp only [if_true, List.length_cons]
    rw [takeWhile_at r j (by simpa using h) (fun d hd => h1 d (by simp [hd])) (fun d hd => h2 d (by simpa using hd))]
theorem isid1_any (c : Nat) (w : World) : Calls Tryd.prog 61 #[.int .i32 c] w (RetBool (letterB c || figB c) w) := by
  have C1 := hid (letter_any c w)
  have C2 := hid (figure_any c w)
  obtain ⟨a, ha⟩ : ∃ a, letterB c = a := ⟨_, rfl⟩
  obtain ⟨b, hb⟩ : ∃ b, figB c = b := ⟨_, rfl⟩
  rw [ha] at C1
  rw [hb] at C2
  rw [ha, hb]
  clear ha hb
  cases a <;> cases b
  all_goals
    go_enter Tryd.func61, Tryd.ntmps61
    go_wp2_with (first | (go_at_call 59; refine C1.out.mono ?_; rintro e w1 ⟨rfl, rfl⟩) | (go_at_call 62; refine C2.out.mono ?_; rintro e w1 ⟨rfl, rfl⟩))
    go_ret
    exact ⟨rfl, rfl⟩
theorem isid2_any (c : Nat) (w : World) : Calls Tryd.prog 65 #[.int .i32 c] w (RetBool (letterB c || figB c) w) := by
  have C1 := hid (letter_any c w)
  have C2 := hid (figure_any c w)
  obtain ⟨a, ha⟩ : ∃ a, letterB c = a := ⟨_, rfl⟩
  obtain ⟨b, hb⟩ : ∃ b, figB c = b := ⟨_, rfl⟩
  rw [ha] at C1
  rw [hb] at C2
  rw [ha, hb]
  clear ha hb
  cases a <;> cases b
  all_goals
    go_enter Tryd.func65, Tryd.ntmps65
    go_wp2_with (first | (go_at_call 59; refine C1.out.mono ?_; rintro e w1 ⟨rfl, rfl⟩) | (go_at_call 62; refine C2.out.mono ?_; rintro e w1 ⟨rfl, rfl⟩))
    go_ret
    exact ⟨rfl, rfl⟩
theorem decode_dropL (s : List UInt8) (pos : Nat) : Utf8.decode ⟨s.toArray⟩ pos = decodeL (s.drop pos) := (decodeL_drop ⟨s.toArray⟩ pos).symm
theorem St.go {base sb : Nat} {w w2 : World} {s : List UInt8} {k : Nat} {l n : List Tok} {vl vn : Value} (hh : w.heap[sb]? = some (.cells #[.string ⟨s.toArray⟩, .int .i64 k, vl, vn] 60 (0, 0))) (hb : base ≤ sb)
    (rl : w.ownsRow base 38 3 vl l.length (tokVals l)) (rn : w.ownsRow base 38 3 vn n.length (tokVals n)) (hne : ∀ g, vl.ownBlock = some g → vn.ownBlock = some g → False) (x2 : Ext none' w w2) (k' : Nat) {z : Int} (hz : z = k') :
    St base sb (w2.setCell ⟨sb, 1, none⟩ (.int .i64 z)) s k' l n ∧ Ext (up base) w (w2.setCell ⟨sb, 1, none⟩ (.int .i64 z)) := by
  subst hz
  have h2 := x2.heap hh (fun h => h)
  have xs : Ext (one sb) w2 (w2.setCell ⟨sb, 1, none⟩ (.int .i64 k')) := (Ext.refl _ _).set 1 _
  have rl2 := ownsRow_ext rl x2 (fun _ _ h => h)
  have rn2 := ownsRow_ext rn x2 (fun _ _ h => h)
  refine ⟨⟨vl, vn, ?_, ownsRow_ext rl2 xs (fun g hg he => own_ne rl2 h2 g hg he), ownsRow_ext rn2 xs (fun g hg he => own_ne rn2 h2 g hg he), hne, hb⟩, ?_⟩
  · rw [heap_setCell_same h2]; rfl
  · exact (x2.mono fun i _ h => h.elim).setCell (p := ⟨sb, 1, none⟩) (.inl hb) _
/-- What 'while' keeps. -/
structure WhRel (F : Nat → Prop) (b : Nat) (r : List UInt8) (w wr : World) (pos : Nat) : Prop where
  le : pos ≤ r.length
  hit : wr.heap[b]? = some (.stringIter ⟨r.toArray⟩ pos)
  hx : Ext F w wr
  hf : ∀ c ∈ r.take pos, idB c = true
set_option maxHeartbeats 1600000 in
theorem while_any (f : Nat) (hf : f = 61 ∨ f = 65) (base sb k : Nat) (s : List UInt8) (l n : List Tok) (w : World) (st : St base sb w s k l n) (hk : k ≤ s.length) (hs : s.length ≤ 1000000) :
    Calls Tryd.prog 60 #[.pointer (some ⟨sb, 0, none⟩), .func (.func f) #[] #[]] w (StPost base sb s (k + idLen (s.drop k)) l n w) := by
  obtain ⟨vl, vn, hh, rl, rn, hne, hb⟩ := st
  have c0 : ∀ t : LaterF none' w, t.w.cell? ⟨sb, 0, none⟩ = some (.string ⟨s.toArray⟩) := fun t => by
    rw [cell_at (t.x.heap hh (fun h => h))]; rfl
  have c1 : ∀ t : LaterF none' w, t.w.cell? ⟨sb, 1, none⟩ = some (.int .i64 k) := fun t => by
    rw [cell_at (t.x.heap hh (fun h => h))]; rfl
  have CF : Hid (∀ (c : Nat) w', Calls Tryd.prog f #[.int .i32 c] w' (RetBool (letterB c || figB c) w')) := hid fun c w' => by
    rcases hf with rfl | rfl
    · exact isid1_any c w'
    · exact isid2_any c w'
  have HH := hid hh
  have RL := hid rl
  have RN := hid rn
  clear hh rl rn
  rcases hf with rfl | rfl
  · go_enter Tryd.func60, Tryd.ntmps60
    go_wp2_with fail
    refine region_in none' w [0, 1, 2, 3, 4, 5, 6, 7, 8] [(9, false)] (by kernel_rfl) (by kernel_rfl) (fun dst v c a w h => by cases dst <;> exact h) (Ext.refl _ _) ?_
    simp only [sel, List.getElem?_cons_succ, List.getElem?_cons_zero]
    repeat (go_big_quiet_step (fail))
    refine wpQuiet_nil ?_
    simp only [wpChain, sel, List.getElem?_cons_succ, List.getElem?_cons_zero]
    go_wp2_with fail
    rw [extract_eq s k s.length]
    obtain ⟨r, hr⟩ : ∃ r, r = s.drop k := ⟨_, rfl⟩
    have hrt : (s.drop k).take (s.length - k) = r := by rw [hr, List.take_of_length_le (by rw [List.length_drop]; omega)]
    rw [hrt, ← hr]
    have hrl : r.length = s.length - k := by rw [hr, List.length_drop]
    have HR := hid hr
    clear hrt hr
    go_loopw [] (fun wr => ∃ pos, WhRel none' w.heap.size r w wr pos) (fun wr => r.length - wr.iterPos w.heap.size)
    case atStart =>
      refine ⟨0, ⟨by omega, ?_, ?_, by simp⟩⟩
      · exact heap_alloc_at rfl _
      · exact ((Ext.refl _ _).alloc _).drew
    case round =>
      obtain ⟨pos, R⟩ := hrel
      have hle := R.le
      have hnl : ¬ none' sb := fun h => h
      by_cases hp : pos < r.length
      · obtain ⟨d, hd⟩ : ∃ d, Utf8.decode ⟨r.toArray⟩ pos = d := ⟨_, rfl⟩
        have hnx : ∀ ty, (Instr.next (.pointer (some ⟨w.heap.size, 0, none⟩)) true ty).run Tryd.prog wr = .ok (.tuple #[.bool true, .int .i64 pos, .int .i32 d.1]) (wr.iterAt w.heap.size ⟨r.toArray⟩ (pos + d.2)) :=
          fun ty => by rw [← hd]; exact run_next_any_at wr w.heap.size ⟨r.toArray⟩ pos ty R.hit (by rw [bsize]; exact hp)
        have Hd := hid ((decode_dropL r pos).symm.trans hd)
        clear hd
        have hdr : r.drop pos = r[pos] :: r.drop (pos + 1) := List.drop_eq_getElem_cons hp
        have hid' := id_head r[pos] (r.drop (pos + 1))
        rw [← hdr, Hd.out] at hid'
        have w1 := dw1 (r.drop pos)
        rw [Hd.out] at w1
        have X1 : Ext none' w (wr.iterAt w.heap.size ⟨r.toArray⟩ (pos + d.2)) := R.hx.iterAt (.inr (Nat.le_refl _)) _ _
        have h2 := X1.heap HH.out (fun h => h)
        have p1 := cell_at h2 1
        have pf := free_at h2 1
        simp only [List.getElem?_toArray, List.getElem?_cons_zero, List.getElem?_cons_succ] at p1
        have hit2 : (wr.iterAt w.heap.size ⟨r.toArray⟩ (pos + d.2)).heap[w.heap.size]? = some (.stringIter ⟨r.toArray⟩ (pos + d.2)) := iterAt_heap _ _ _ _ _ R.hit
        have hit := hid (iterPos_of R.hit)
        have CC := CF.out d.1 (wr.iterAt w.heap.size ⟨r.toArray⟩ (pos + d.2))
        rw [hid'.1] at CC
        have HC := hid CC
        have RR := hid R
        have HX1 := hid X1
        have HI2 := hid hit2
        have HH2 := hid h2
        have HID := hid hid'
        clear CC R X1 hit2 h2 hid' hdr
        by_cases e : idB r[pos] = true
        · have hw := hid (HID.out.2 e)
          rw [e] at HC
          have HE := hid e
          clear e
          go_wp2_with (go_at_call 61; refine HC.out.mono ?_; rintro e w1 ⟨rfl, rfl⟩)
          refine ⟨⟨pos + d.2, ?_, HI2.out, HX1.out, ?_⟩, ?_⟩
          · have := hw.out; omega
          · rw [hw.out, List.take_add_one, List.getElem?_eq_getElem hp]
            intro c hc
            simp only [Option.toList_some, List.mem_append, List.mem_singleton] at hc
            rcases hc with hc | rfl
            · exact RR.out.hf c hc
            · exact HE.out
          · rw [iterPos_of HI2.out, hit.out]; omega
        · have e' : idB r[pos] = false := by simpa using e
          rw [e'] at HC
          have hlen : Hid (idLen r = pos) := hid (takeWhile_at r pos hle RR.out.hf (fun c hc => by rw [List.getElem?_eq_getElem hp] at hc; cases hc; exact e'))
          clear e e'
          go_wp2_with (go_at_call 61; refine HC.out.mono ?_; rintro e w1 ⟨rfl, rfl⟩)
          have fin := St.go HH.out hb RL.out RN.out hne HX1.out (k + idLen r) (z := k + pos) (by rw [hlen.out]; push_cast; rfl)
          first
            | go_end0
            | refine bodyPost_ret (results_none rfl _ _ _) rfl ?_
          exact ⟨rfl, fin⟩
      · have hnx : ∀ ty, (Instr.next (.pointer (some ⟨w.heap.size, 0, none⟩)) true ty).run Tryd.prog wr = _ := fun ty => run_next_end_at wr w.heap.size ⟨r.toArray⟩ pos ty R.hit (by rw [bsize]; exact hp)
        have hlen : Hid (idLen r = r.length) := hid (takeWhile_at r r.length (Nat.le_refl _) (by have := R.hf; rwa [show pos = r.length by omega] at this) (fun c hc => by rw [List.getElem?_eq_none (Nat.le_refl _)] at hc; cases hc))
        have h2 := R.hx.heap HH.out (fun h => h)
        have p1 := cell_at h2 1
        have p0 := cell_at h2 0
        have pf := free_at h2 1
        simp only [List.getElem?_toArray, List.getElem?_cons_zero, List.getElem?_cons_succ] at p1 p0
        have RR := hid R
        have HH2 := hid h2
        clear R h2
        go_wp2_with fail
        have fin := St.go HH.out hb RL.out RN.out hne RR.out.hx (k + idLen r) (z := s.length) (by rw [hlen.out]; omega)
        go_end0
        refine ⟨rfl, ?_⟩
        rw [← HR.out]
        exact fin
  · go_enter Tryd.func60, Tryd.ntmps60
    go_wp2_with fail
    refine region_in none' w [0, 1, 2, 3, 4, 5, 6, 7, 8] [(9, false)] (by kernel_rfl) (by kernel_rfl) (fun dst v c a w h => by cases dst <;> exact h) (Ext.refl _ _) ?_
    simp only [sel, List.getElem?_cons_succ, List.getElem?_cons_zero]
    repeat (go_big_quiet_step (fail))
    refine wpQuiet_nil ?_
    simp only [wpChain, sel, List.getElem?_cons_succ, List.getElem?_cons_zero]
    go_wp2_with fail
    rw [extract_eq s k s.length]
    obtain ⟨r, hr⟩ : ∃ r, r = s.drop k := ⟨_, rfl⟩
    have hrt : (s.drop k).take (s.length - k) = r := by rw [hr, List.take_of_length_le (by rw [List.length_drop]; omega)]
    rw [hrt, ← hr]
    have hrl : r.length = s.length - k := by rw [hr, List.length_drop]
    have HR := hid hr
    clear hrt hr
    go_loopw [] (fun wr => ∃ pos, WhRel none' w.heap.size r w wr pos) (fun wr => r.length - wr.iterPos w.heap.size)
    case atStart =>
      refine ⟨0, ⟨by omega, ?_, ?_, by simp⟩⟩
      · exact heap_alloc_at rfl _
      · exact ((Ext.refl _ _).alloc _).drew
    case round =>
      obtain ⟨pos, R⟩ := hrel
      have hle := R.le
      have hnl : ¬ none' sb := fun h => h
      by_cases hp : pos < r.length
      · obtain ⟨d, hd⟩ : ∃ d, Utf8.decode ⟨r.toArray⟩ pos = d := ⟨_, rfl⟩
        have hnx : ∀ ty, (Instr.next (.pointer (some ⟨w.heap.size, 0, none⟩)) true ty).run Tryd.prog wr = .ok (.tuple #[.bool true, .int .i64 pos, .int .i32 d.1]) (wr.iterAt w.heap.size ⟨r.toArray⟩ (pos + d.2)) :=
          fun ty => by rw [← hd]; exact run_next_any_at wr w.heap.size ⟨r.toArray⟩ pos ty R.hit (by rw [bsize]; exact hp)
        have Hd := hid ((decode_dropL r pos).symm.trans hd)
        clear hd
        have hdr : r.drop pos = r[pos] :: r.drop (pos + 1) := List.drop_eq_getElem_cons hp
        have hid' := id_head r[pos] (r.drop (pos + 1))
        rw [← hdr, Hd.out] at hid'
        have w1 := dw1 (r.drop pos)
        rw [Hd.out] at w1
        have X1 : Ext none' w (wr.iterAt w.heap.size ⟨r.toArray⟩ (pos + d.2)) := R.hx.iterAt (.inr (Nat.le_refl _)) _ _
        have h2 := X1.heap HH.out (fun h => h)
        have p1 := cell_at h2 1
        have pf := free_at h2 1
        simp only [List.getElem?_toArray, List.getElem?_cons_zero, List.getElem?_cons_succ] at p1
        have hit2 : (wr.iterAt w.heap.size ⟨r.toArray⟩ (pos + d.2)).heap[w.heap.size]? = some (.stringIter ⟨r.toArray⟩ (pos + d.2)) := iterAt_heap _ _ _ _ _ R.hit
        have hit := hid (iterPos_of R.hit)
        have CC := CF.out d.1 (wr.iterAt w.heap.size ⟨r.toArray⟩ (pos + d.2))
        rw [hid'.1] at CC
        have HC := hid CC
        have RR := hid R
        have HX1 := hid X1
        have HI2 := hid hit2
        have HH2 := hid h2
        have HID := hid hid'
        clear CC R X1 hit2 h2 hid' hdr
        by_cases e : idB r[pos] = true
        · have hw := hid (HID.out.2 e)
          rw [e] at HC
          have HE := hid e
          clear e
          go_wp2_with (go_at_call 65; refine HC.out.mono ?_; rintro e w1 ⟨rfl, rfl⟩)
          refine ⟨⟨pos + d.2, ?_, HI2.out, HX1.out, ?_⟩, ?_⟩
          · have := hw.out; omega
          · rw [hw.out, List.take_add_one, List.getElem?_eq_getElem hp]
            intro c hc
            simp only [Option.toList_some, List.mem_append, List.mem_singleton] at hc
            rcases hc with hc | rfl
            · exact RR.out.hf c hc
            · exact HE.out
          · rw [iterPos_of HI2.out, hit.out]; omega
        · have e' : idB r[pos] = false := by simpa using e
          rw [e'] at HC
          have hlen : Hid (idLen r = pos) := hid (takeWhile_at r pos hle RR.out.hf (fun c hc => by rw [List.getElem?_eq_getElem hp] at hc; cases hc; exact e'))
          clear e e'
          go_wp2_with (go_at_call 65; refine HC.out.mono ?_; rintro e w1 ⟨rfl, rfl⟩)
          have fin := St.go HH.out hb RL.out RN.out hne HX1.out (k + idLen r) (z := k + pos) (by rw [hlen.out]; push_cast; rfl)
          first
            | go_end0
            | refine bodyPost_ret (results_none rfl _ _ _) rfl ?_
          exact ⟨rfl, fin⟩
      · have hnx : ∀ ty, (Instr.next (.pointer (some ⟨w.heap.size, 0, none⟩)) true ty).run Tryd.prog wr = _ := fun ty => run_next_end_at wr w.heap.size ⟨r.toArray⟩ pos ty R.hit (by rw [bsize]; exact hp)
        have hlen : Hid (idLen r = r.length) := hid (takeWhile_at r r.length (Nat.le_refl _) (by have := R.hf; rwa [show pos = r.length by omega] at this) (fun c hc => by rw [List.getElem?_eq_none (Nat.le_refl _)] at hc; cases hc))
        have h2 := R.hx.heap HH.out (fun h => h)
        have p1 := cell_at h2 1
        have p0 := cell_at h2 0
        have pf := free_at h2 1
        simp only [List.getElem?_toArray, List.getElem?_cons_zero, List.getElem?_cons_succ] at p1 p0
        have RR := hid R
        have HH2 := hid h2
        clear R h2
        go_wp2_with fail
        have fin := St.go HH.out hb RL.out RN.out hne RR.out.hx (k + idLen r) (z := s.length) (by rw [hlen.out]; omega)
        go_end0
        refine ⟨rfl, ?_⟩
        rw [← HR.out]
        exact fin
end Go.Proofs.YtielcpnalepkfaaDoor
