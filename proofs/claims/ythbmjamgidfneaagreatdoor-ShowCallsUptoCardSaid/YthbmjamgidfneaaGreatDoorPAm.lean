import Derived.Test.YthbmjamgidfneaaGreatDoorPAb
import Derived.Test.YthbmjamgidfneaaGreatDoorPAe
import Derived.Test.YthbmjamgidfneaaGreatDoorPAl
import Derived.Test.YthbmjamgidfneaaGreatDoorPAd
import Derived.Lib.IndexMore
set_option maxRecDepth 100000
set_option maxHeartbeats 6400000
namespace Go.Proofs.YthbmjamgidfneaaGreatDoor
open Go.RowKit Go.Lib Go.BigFrame
theorem takeWhile_at {p : UInt8 → Bool} : ∀ (r : List UInt8) (j : Nat), j ≤ r.length → (∀ c ∈ r.take j, p c = true) → (∀ c, r[j]? = some c → p c = false) → (r.takeWhile p).length = j
 | [], j, h, _, _ => by simp at h; subst h; rfl
 | c :: r, 0, _, _, h2 => by
  have := h2 c rfl
  rw [List.takeWhile_cons, this]; rfl
 | c :: r, j + 1, h, h1, h2 => by
  have hc := h1 c (by simp)
  rw [List.takeWhile_cons, hc]
  simp only [if_true, List.length_cons]
  rw [takeWhile_at r j (by simpa using h) (fun d hd => h1 d (by simp [hd])) (fun d hd => h2 d (by simpa using hd))]
theorem isid1_any (c : Nat) (w : World) : Calls Tryz.prog 115 #[.int .i32 c] w (RetBool (letterB c || figB c) w) := by
 have C1 := hid (letter_any c w)
 have C2 := hid (figure_any c w)
 obtain ⟨a, ha⟩ : ∃ a, letterB c = a := ⟨_, rfl⟩
 obtain ⟨b, hb⟩ : ∃ b, figB c = b := ⟨_, rfl⟩
 rw [ha] at C1
 rw [hb] at C2
 rw [ha, hb]
 clear ha hb
 cases a <;> cases b
 all_goals
  go_enter Tryz.func115, Tryz.ntmps115
  go_wp2_with (first | (go_at_call 113; refine C1.out.mono ?_; rintro e w1 ⟨rfl, rfl⟩) | (go_at_call 116; refine C2.out.mono ?_; rintro e w1 ⟨rfl, rfl⟩))
  go_ret
  exact ⟨rfl, rfl⟩
theorem isid2_any (c : Nat) (w : World) : Calls Tryz.prog 119 #[.int .i32 c] w (RetBool (letterB c || figB c) w) := by
 have C1 := hid (letter_any c w)
 have C2 := hid (figure_any c w)
 obtain ⟨a, ha⟩ : ∃ a, letterB c = a := ⟨_, rfl⟩
 obtain ⟨b, hb⟩ : ∃ b, figB c = b := ⟨_, rfl⟩
 rw [ha] at C1
 rw [hb] at C2
 rw [ha, hb]
 clear ha hb
 cases a <;> cases b
 all_goals
  go_enter Tryz.func119, Tryz.ntmps119
  go_wp2_with (first | (go_at_call 113; refine C1.out.mono ?_; rintro e w1 ⟨rfl, rfl⟩) | (go_at_call 116; refine C2.out.mono ?_; rintro e w1 ⟨rfl, rfl⟩))
  go_ret
  exact ⟨rfl, rfl⟩
theorem St.go {base sb : Nat} {w w2 : World} {s : List UInt8} {k : Nat} {l n : List Tok} {vl vn : Value} (hh : w.heap[sb]? = some (.cells #[.string ⟨s.toArray⟩, .int .i64 k, vl, vn] 59 (0, 0))) (hb : base ≤ sb)
  (rl : w.ownsRow base 47 3 vl l.length (tokVals l)) (rn : w.ownsRow base 47 3 vn n.length (tokVals n)) (hne : ∀ g, vl.ownBlock = some g → vn.ownBlock = some g → False) (x2 : Ext none' w w2) (k' : Nat) {z : Int} (hz : z = k') :
  St base sb (w2.setCell ⟨sb, 1, none⟩ (.int .i64 z)) s k' l n ∧ Ext (up base) w (w2.setCell ⟨sb, 1, none⟩ (.int .i64 z)) := by
 subst hz
 have h2 := x2.heap hh (fun h => h)
 have xs : Ext (one sb) w2 (w2.setCell ⟨sb, 1, none⟩ (.int .i64 k')) := (Ext.refl _ _).set 1 _
 have rl2 := ownsRow_ext rl x2 (fun _ _ h => h)
 have rn2 := ownsRow_ext rn x2 (fun _ _ h => h)
 refine ⟨⟨vl, vn, ?_, ownsRow_ext rl2 xs (fun g hg he => own_ne rl2 h2 g hg he), ownsRow_ext rn2 xs (fun g hg he => own_ne rn2 h2 g hg he), hne, hb⟩, ?_⟩
 · rw [heap_setCell_same h2]; rfl
 · exact (x2.mono fun i _ h => h.elim).setCell (p := ⟨sb, 1, none⟩) (.inl hb) _
structure WhRel (F : Nat → Prop) (b : Nat) (r : List UInt8) (w wr : World) (pos : Nat) : Prop where
 le : pos ≤ r.length
 hit : wr.heap[b]? = some (.stringIter ⟨r.toArray⟩ pos)
 hx : Ext F w wr
 hf : ∀ c ∈ r.take pos, idB c = true
theorem while_any (f : Nat) (hf : f = 115 ∨ f = 119) (base sb k : Nat) (s : List UInt8) (l n : List Tok) (w : World) (st : St base sb w s k l n) (hk : k ≤ s.length) (hs : s.length ≤ 1000000) :
  Calls Tryz.prog 114 #[.pointer (some ⟨sb, 0, none⟩), .func (.func f) #[] #[]] w (StPost base sb s (k + idLen (s.drop k)) l n w) := by
 obtain ⟨vl, vn, hh, rl, rn, hne, hb⟩ := st
 have c0 : ∀ t : LaterF none' w, t.w.cell? ⟨sb, 0, none⟩ = some (.string ⟨s.toArray⟩) := fun t => by
  rw [cell_at (t.x.heap hh (fun h => h))]; rfl
 have c1 : ∀ t : LaterF none' w, t.w.cell? ⟨sb, 1, none⟩ = some (.int .i64 k) := fun t => by
  rw [cell_at (t.x.heap hh (fun h => h))]; rfl
 have CF : Hid (∀ (c : Nat) w', Calls Tryz.prog f #[.int .i32 c] w' (RetBool (letterB c || figB c) w')) := hid fun c w' => by
  rcases hf with rfl | rfl
  · exact isid1_any c w'
  · exact isid2_any c w'
 have HH := hid hh
 have RL := hid rl
 have RN := hid rn
 clear hh rl rn
 rcases hf with rfl | rfl
 · go_enter Tryz.func114, Tryz.ntmps114
   go_wp2_with fail
   refine region_in none' w [0, 1, 2, 3, 4, 5, 6, 7, 8] [(9, false)] (by kernel_rfl) (by kernel_rfl) (fun dst v c a w h => by cases dst <;> exact h) (Ext.refl _ _) ?_
   simp only [sel, List.getElem?_cons_succ, List.getElem?_cons_zero]
   repeat (go_big_quiet_step (fail))
   refine wpQuiet_nil ?_
   simp only [wpChain, sel, List.getElem?_cons_succ, List.getElem?_cons_zero]
   go_wp2_with fail
   rw [extract_eq s k s.length]
   obtain ⟨r, hr⟩ : ∃ r, r = s.drop k := ⟨_, rfl⟩
   have hrt : (s.drop k).take (s.length - k) = r := by rw [hr, List.take_of_length_le (by rw [List.length_drop]; omega)]
   rw [hrt, ← hr]
   have hrl : r.length = s.length - k := by rw [hr, List.length_drop]
   have HR := hid hr
   clear hrt hr
   go_loopw [] (fun wr => ∃ pos, WhRel none' w.heap.size r w wr pos) (fun wr => r.length - wr.iterPos w.heap.size)
   case atStart =>
    refine ⟨0, ⟨by omega, ?_, ?_, by simp⟩⟩
    · exact heap_alloc_at rfl _
    · exact ((Ext.refl _ _).alloc _).drew
   case round =>
    obtain ⟨pos, R⟩ := hrel
    have hle := R.le
    have hnl : ¬ none' sb := fun h => h
    by_cases hp : pos < r.length
    · obtain ⟨d, hd⟩ : ∃ d, Utf8.decode ⟨r.toArray⟩ pos = d := ⟨_, rfl⟩
      have hnx : ∀ ty, (Instr.next (.pointer (some ⟨w.heap.size, 0, none⟩)) true ty).run Tryz.prog wr = .ok (.tuple #[.bool true, .int .i64 pos, .int .i32 d.1]) (wr.iterAt w.heap.size ⟨r.toArray⟩ (pos + d.2)) :=
       fun ty => by rw [← hd]; exact run_next_any_at wr w.heap.size ⟨r.toArray⟩ pos ty R.hit (by rw [bsize]; exact hp)
      have Hd := hid ((decode_dropL r pos).symm.trans hd)
      clear hd
      have hdr : r.drop pos = r[pos] :: r.drop (pos + 1) := List.drop_eq_getElem_cons hp
      have hid' := id_head r[pos] (r.drop (pos + 1))
      rw [← hdr, Hd.out] at hid'
      have w1 := dw1 (r.drop pos)
      rw [Hd.out] at w1
      have X1 : Ext none' w (wr.iterAt w.heap.size ⟨r.toArray⟩ (pos + d.2)) := R.hx.iterAt (.inr (Nat.le_refl _)) _ _
      have h2 := X1.heap HH.out (fun h => h)
      have p1 := cell_at h2 1
      have pf := free_at h2 1
      simp only [List.getElem?_toArray, List.getElem?_cons_zero, List.getElem?_cons_succ] at p1
      have hit2 : (wr.iterAt w.heap.size ⟨r.toArray⟩ (pos + d.2)).heap[w.heap.size]? = some (.stringIter ⟨r.toArray⟩ (pos + d.2)) := iterAt_heap _ _ _ _ _ R.hit
      have hit := hid (iterPos_of R.hit)
      have CC := CF.out d.1 (wr.iterAt w.heap.size ⟨r.toArray⟩ (pos + d.2))
      rw [hid'.1] at CC
      have HC := hid CC
      have RR := hid R
      have HX1 := hid X1
      have HI2 := hid hit2
      have HH2 := hid h2
      have HID := hid hid'
      clear CC R X1 hit2 h2 hid' hdr
      by_cases e : idB r[pos] = true
      · have hw := hid (HID.out.2 e)
        rw [e] at HC
        have HE := hid e
        clear e
        go_wp2_with (go_at_call 115; refine HC.out.mono ?_; rintro e w1 ⟨rfl, rfl⟩)
        refine ⟨⟨pos + d.2, ?_, HI2.out, HX1.out, ?_⟩, ?_⟩
        · have := hw.out; omega
        · rw [hw.out, List.take_add_one, List.getElem?_eq_getElem hp]
          intro c hc
          simp only [Option.toList_some, List.mem_append, List.mem_singleton] at hc
          rcases hc with hc | rfl
          · exact RR.out.hf c hc
          · exact HE.out
        · rw [iterPos_of HI2.out, hit.out]; omega
      · have e' : idB r[pos] = false := by simpa using e
        rw [e'] at HC
        have hlen : Hid (idLen r = pos) := hid (takeWhile_at r pos hle RR.out.hf (fun c hc => by rw [List.getElem?_eq_getElem hp] at hc; cases hc; exact e'))
        clear e e'
        go_wp2_with (go_at_call 115; refine HC.out.mono ?_; rintro e w1 ⟨rfl, rfl⟩)
        have fin := St.go HH.out hb RL.out RN.out hne HX1.out (k + idLen r) (z := k + pos) (by rw [hlen.out]; push_cast; rfl)
        first
         | go_end0
         | refine bodyPost_ret (results_none rfl _ _ _) rfl ?_
        exact ⟨rfl, fin⟩
    · have hnx : ∀ ty, (Instr.next (.pointer (some ⟨w.heap.size, 0, none⟩)) true ty).run Tryz.prog wr = _ := fun ty => run_next_end_at wr w.heap.size ⟨r.toArray⟩ pos ty R.hit (by rw [bsize]; exact hp)
      have hlen : Hid (idLen r = r.length) := hid (takeWhile_at r r.length (Nat.le_refl _) (by have := R.hf; rwa [show pos = r.length by omega] at this) (fun c hc => by rw [List.getElem?_eq_none (Nat.le_refl _)] at hc; cases hc))
      have h2 := R.hx.heap HH.out (fun h => h)
      have p1 := cell_at h2 1
      have p0 := cell_at h2 0
      have pf := free_at h2 1
      simp only [List.getElem?_toArray, List.getElem?_cons_zero, List.getElem?_cons_succ] at p1 p0
      have RR := hid R
      have HH2 := hid h2
      clear R h2
      go_wp2_with fail
      have fin := St.go HH.out hb RL.out RN.out hne RR.out.hx (k + idLen r) (z := s.length) (by rw [hlen.out]; omega)
      go_end0
      refine ⟨rfl, ?_⟩
      rw [← HR.out]
      exact fin
 · go_enter Tryz.func114, Tryz.ntmps114
   go_wp2_with fail
   refine region_in none' w [0, 1, 2, 3, 4, 5, 6, 7, 8] [(9, false)] (by kernel_rfl) (by kernel_rfl) (fun dst v c a w h => by cases dst <;> exact h) (Ext.refl _ _) ?_
   simp only [sel, List.getElem?_cons_succ, List.getElem?_cons_zero]
   repeat (go_big_quiet_step (fail))
   refine wpQuiet_nil ?_
   simp only [wpChain, sel, List.getElem?_cons_succ, List.getElem?_cons_zero]
   go_wp2_with fail
   rw [extract_eq s k s.length]
   obtain ⟨r, hr⟩ : ∃ r, r = s.drop k := ⟨_, rfl⟩
   have hrt : (s.drop k).take (s.length - k) = r := by rw [hr, List.take_of_length_le (by rw [List.length_drop]; omega)]
   rw [hrt, ← hr]
   have hrl : r.length = s.length - k := by rw [hr, List.length_drop]
   have HR := hid hr
   clear hrt hr
   go_loopw [] (fun wr => ∃ pos, WhRel none' w.heap.size r w wr pos) (fun wr => r.length - wr.iterPos w.heap.size)
   case atStart =>
    refine ⟨0, ⟨by omega, ?_, ?_, by simp⟩⟩
    · exact heap_alloc_at rfl _
    · exact ((Ext.refl _ _).alloc _).drew
   case round =>
    obtain ⟨pos, R⟩ := hrel
    have hle := R.le
    have hnl : ¬ none' sb := fun h => h
    by_cases hp : pos < r.length
    · obtain ⟨d, hd⟩ : ∃ d, Utf8.decode ⟨r.toArray⟩ pos = d := ⟨_, rfl⟩
      have hnx : ∀ ty, (Instr.next (.pointer (some ⟨w.heap.size, 0, none⟩)) true ty).run Tryz.prog wr = .ok (.tuple #[.bool true, .int .i64 pos, .int .i32 d.1]) (wr.iterAt w.heap.size ⟨r.toArray⟩ (pos + d.2)) :=
       fun ty => by rw [← hd]; exact run_next_any_at wr w.heap.size ⟨r.toArray⟩ pos ty R.hit (by rw [bsize]; exact hp)
      have Hd := hid ((decode_dropL r pos).symm.trans hd)
      clear hd
      have hdr : r.drop pos = r[pos] :: r.drop (pos + 1) := List.drop_eq_getElem_cons hp
      have hid' := id_head r[pos] (r.drop (pos + 1))
      rw [← hdr, Hd.out] at hid'
      have w1 := dw1 (r.drop pos)
      rw [Hd.out] at w1
      have X1 : Ext none' w (wr.iterAt w.heap.size ⟨r.toArray⟩ (pos + d.2)) := R.hx.iterAt (.inr (Nat.le_refl _)) _ _
      have h2 := X1.heap HH.out (fun h => h)
      have p1 := cell_at h2 1
      have pf := free_at h2 1
      simp only [List.getElem?_toArray, List.getElem?_cons_zero, List.getElem?_cons_succ] at p1
      have hit2 : (wr.iterAt w.heap.size ⟨r.toArray⟩ (pos + d.2)).heap[w.heap.size]? = some (.stringIter ⟨r.toArray⟩ (pos + d.2)) := iterAt_heap _ _ _ _ _ R.hit
      have hit := hid (iterPos_of R.hit)
      have CC := CF.out d.1 (wr.iterAt w.heap.size ⟨r.toArray⟩ (pos + d.2))
      rw [hid'.1] at CC
      have HC := hid CC
      have RR := hid R
      have HX1 := hid X1
      have HI2 := hid hit2
      have HH2 := hid h2
      have HID := hid hid'
      clear CC R X1 hit2 h2 hid' hdr
      by_cases e : idB r[pos] = true
      · have hw := hid (HID.out.2 e)
        rw [e] at HC
        have HE := hid e
        clear e
        go_wp2_with (go_at_call 119; refine HC.out.mono ?_; rintro e w1 ⟨rfl, rfl⟩)
        refine ⟨⟨pos + d.2, ?_, HI2.out, HX1.out, ?_⟩, ?_⟩
        · have := hw.out; omega
        · rw [hw.out, List.take_add_one, List.getElem?_eq_getElem hp]
          intro c hc
          simp only [Option.toList_some, List.mem_append, List.mem_singleton] at hc
          rcases hc with hc | rfl
          · exact RR.out.hf c hc
          · exact HE.out
        · rw [iterPos_of HI2.out, hit.out]; omega
      · have e' : idB r[pos] = false := by simpa using e
        rw [e'] at HC
        have hlen : Hid (idLen r = pos) := hid (takeWhile_at r pos hle RR.out.hf (fun c hc => by rw [List.getElem?_eq_getElem hp] at hc; cases hc; exact e'))
        clear e e'
        go_wp2_with (go_at_call 119; refine HC.out.mono ?_; rintro e w1 ⟨rfl, rfl⟩)
        have fin := St.go HH.out hb RL.out RN.out hne HX1.out (k + idLen r) (z := k + pos) (by rw [hlen.out]; push_cast; rfl)
        first
         | go_end0
         | refine bodyPost_ret (results_none rfl _ _ _) rfl ?_
        exact ⟨rfl, fin⟩
    · have hnx : ∀ ty, (Instr.next (.pointer (some ⟨w.heap.size, 0, none⟩)) true ty).run Tryz.prog wr = _ := fun ty => run_next_end_at wr w.heap.size ⟨r.toArray⟩ pos ty R.hit (by rw [bsize]; exact hp)
      have hlen : Hid (idLen r = r.length) := hid (takeWhile_at r r.length (Nat.le_refl _) (by have := R.hf; rwa [show pos = r.length by omega] at this) (fun c hc => by rw [List.getElem?_eq_none (Nat.le_refl _)] at hc; cases hc))
      have h2 := R.hx.heap HH.out (fun h => h)
      have p1 := cell_at h2 1
      have p0 := cell_at h2 0
      have pf := free_at h2 1
      simp only [List.getElem?_toArray, List.getElem?_cons_zero, List.getElem?_cons_succ] at p1 p0
      have RR := hid R
      have HH2 := hid h2
      clear R h2
      go_wp2_with fail
      have fin := St.go HH.out hb RL.out RN.out hne RR.out.hx (k + idLen r) (z := s.length) (by rw [hlen.out]; omega)
      go_end0
      refine ⟨rfl, ?_⟩
      rw [← HR.out]
      exact fin
structure QuRel (b : Nat) (q : UInt8) (r : List UInt8) (p : Option Nat) (w wr : World) (pos : Nat) (sl : Bool) : Prop where
 le : pos ≤ r.length
 hit : wr.heap[b]? = some (.stringIter ⟨r.toArray⟩ pos)
 hx : Ext none' w wr
 hf : p = (quo q sl (r.drop pos)).map (· + pos)
theorem decodeN_high (n b0 b1 b2 b3 : Nat) : ((decodeN n b0 b1 b2 b3).2 = 1) ∨ ((decodeN n b0 b1 b2 b3).2 = 2 ∧ 128 ≤ b0 ∧ 128 ≤ b1 ∧ 1 < n) ∨ ((decodeN n b0 b1 b2 b3).2 = 3 ∧ 128 ≤ b0 ∧ 128 ≤ b1 ∧ 128 ≤ b2 ∧ 2 < n) ∨ ((decodeN n b0 b1 b2 b3).2 = 4 ∧ 128 ≤ b0 ∧ 128 ≤ b1 ∧ 128 ≤ b2 ∧ 128 ≤ b3 ∧ 3 < n) := by
 obtain ⟨d, hd⟩ : ∃ d, decodeN n b0 b1 b2 b3 = d := ⟨_, rfl⟩
 rw [hd]
 unfold decodeN at hd
 repeat' split at hd
 all_goals subst hd
 all_goals dsimp only
 all_goals omega
theorem quo_high (q : UInt8) (hq : q = 34 ∨ q = 96) (c : UInt8) (t : List UInt8) (sl : Bool) (h : 128 ≤ c.toNat) : quo q sl (c :: t) = (quo q false t).map (· + 1) := by
 have h1 : c ≠ 10 := by rintro rfl; revert h; decide
 have h2 : c ≠ 92 := by rintro rfl; revert h; decide
 have h3 : c ≠ q := by rintro rfl; rcases hq with rfl | rfl <;> revert h <;> decide
 cases sl <;> simp [quo, h1, h2, h3]
theorem map_map_add {o : Option Nat} {a b : Nat} : (o.map (· + a)).map (· + b) = o.map (· + (a + b)) := by
 cases o <;> simp [Nat.add_assoc]
theorem quo_run (q : UInt8) (hq : q = 34 ∨ q = 96) : ∀ (m : Nat) (r : List UInt8) (sl : Bool), 1 ≤ m → m ≤ r.length → (∀ j, j < m → 128 ≤ (r.getD j 0).toNat) → quo q sl r = (quo q false (r.drop m)).map (· + m)
 | 0, _, _, h, _, _ => by omega
 | m + 1, [], _, _, h, _ => by simp at h
 | m + 1, c :: t, sl, _, hl, hh => by
  rw [quo_high q hq c t sl (by simpa using hh 0 (by omega))]
  by_cases hm : m = 0
  · subst hm; rfl
  · rw [quo_run q hq m t false (by omega) (by simpa using hl) (fun j hj => by simpa using hh (j + 1) (by omega)), map_map_add]
    rfl
theorem decodeL_run (r : List UInt8) (hc : 128 ≤ (r.getD 0 0).toNat) : ∀ j, j < (decodeL r).2 → 128 ≤ (r.getD j 0).toNat := by
 intro j hj
 rw [decodeL_N] at hj
 rcases decodeN_high r.length (r.getD 0 0).toNat (r.getD 1 0).toNat (r.getD 2 0).toNat (r.getD 3 0).toNat with h1 | ⟨h1, h2⟩ | ⟨h1, h2⟩ | ⟨h1, h2⟩
 all_goals rw [h1] at hj
 · have : j = 0 := by omega
   subst this; exact hc
 · have : j = 0 ∨ j = 1 := by omega
   rcases this with rfl | rfl <;> omega
 · have : j = 0 ∨ j = 1 ∨ j = 2 := by omega
   rcases this with rfl | rfl | rfl <;> omega
 · have : j = 0 ∨ j = 1 ∨ j = 2 ∨ j = 3 := by omega
   rcases this with rfl | rfl | rfl | rfl <;> omega
theorem quo_rune (q : UInt8) (hq : q = 34 ∨ q = 96) (r : List UInt8) (h : r ≠ []) (sl : Bool) (hc : 128 ≤ (r.getD 0 0).toNat) : quo q sl r = (quo q false (r.drop (decodeL r).2)).map (· + (decodeL r).2) :=
 quo_run q hq _ r sl (dw1 r) (dwle r h) (decodeL_run r hc)
theorem decodeL_low (c : UInt8) (t : List UInt8) (h : c.toNat < 128) : decodeL (c :: t) = (c.toNat, 1) := by rw [decodeL_N]; exact decodeN_low _ _ _ _ _ h
theorem decodeL_ge (c : UInt8) (t : List UInt8) (h : 128 ≤ c.toNat) : 128 ≤ (decodeL (c :: t)).1 := by rw [decodeL_N]; exact decodeN_ge _ _ _ _ _ h
theorem toNat_eq (c : UInt8) (k : UInt8) : c = k ↔ c.toNat = k.toNat := ⟨fun h => by rw [h], fun h => UInt8.toNat_inj.1 h⟩
theorem quo_true (q : UInt8) (hq : q = 34 ∨ q = 96) (r : List UInt8) (h : r ≠ []) : quo q true r = if (decodeL r).1 = 10 then none else (quo q false (r.drop (decodeL r).2)).map (· + (decodeL r).2) := by
 cases r with
 | nil => exact absurd rfl h
 | cons c t =>
  by_cases hc : c.toNat < 128
  · rw [decodeL_low c t hc]
    simp only [quo, toNat_eq]
    rfl
  · have g := decodeL_ge c t (by omega)
    rw [if_neg (by omega)]
    exact quo_rune q hq (c :: t) h true (by simpa using (show 128 ≤ c.toNat by omega))
theorem quo_false (q : UInt8) (hq : q = 34 ∨ q = 96) (r : List UInt8) (h : r ≠ []) : quo q false r = if (decodeL r).1 = 92 ∧ q = 34 then (quo q true (r.drop (decodeL r).2)).map (· + (decodeL r).2)
  else if (decodeL r).1 = q.toNat then some 1 else if (decodeL r).1 = 10 ∧ q ≠ 96 then none else (quo q false (r.drop (decodeL r).2)).map (· + (decodeL r).2) := by
 cases r with
 | nil => exact absurd rfl h
 | cons c t =>
  by_cases hc : c.toNat < 128
  · rw [decodeL_low c t hc]
    have e1 : (c = 92) = (c.toNat = 92) := propext (toNat_eq c 92)
    have e2 : (c = q) = (c.toNat = q.toNat) := propext (toNat_eq c q)
    have e3 : (c = 10) = (c.toNat = 10) := propext (toNat_eq c 10)
    simp only [quo, e1, e2, e3]
    rfl
  · have g := decodeL_ge c t (by omega)
    have g2 : q.toNat < 128 := by rcases hq with rfl | rfl <;> decide
    rw [if_neg (by omega), if_neg (by omega), if_neg (by omega)]
    exact quo_rune q hq (c :: t) h false (by simpa using (show 128 ≤ c.toNat by omega))
theorem need_is (v : Value) (b : Bool) (p : Nat) (w : World) (hb : b = true) : Calls Tryz.prog 163 #[v, .bool b, .int .i64 p] w fun e w' => e = .returned (.tuple #[]) ∧ w = w' := by
 subst hb; exact need_yes v p w
def QPost (base sb : Nat) (s : List UInt8) (k : Nat) (l n : List Tok) (w : World) (p : Option Nat) (e : Ending) (w' : World) : Prop :=
 match p with
 | some m => StPost base sb s (k + 1 + m) (l ++ [⟨5, (s.drop k).take (m + 1), k⟩]) n w e w'
 | none => e = .panicked [{ v := gave k, recovered := false }] ∧ Ext (up base) w w'
theorem quoted_34 (base sb k : Nat) (s : List UInt8) (l n : List Tok) (w : World) (st : St base sb w s k l n) (hk : k < s.length) (hq : s[k] = 34) (hs : s.length ≤ 1000000) (hl : l.length ≤ 900000) :
  Calls Tryz.prog 120 #[.pointer (some ⟨sb, 0, none⟩)] w (QPost base sb s k l n w (quo 34 false (s.drop (k + 1)))) := by
 obtain ⟨p, hp⟩ : ∃ p, p = quo 34 false (s.drop (k + 1)) := ⟨_, rfl⟩
 rw [← hp]
 have HP := hid hp
 clear hp
 have ST := hid st
 obtain ⟨vl, vn, hh, rl, rn, hne, hb⟩ := st
 have p0 := cell_at hh 0
 have p1 := cell_at hh 1
 simp only [List.getElem?_toArray, List.getElem?_cons_zero, List.getElem?_cons_succ] at p0 p1
 have HH := hid hh
 have RL := hid rl
 have RN := hid rn
 have HQ := hid hq
 clear hh rl rn hq
 go_enter Tryz.func120, Tryz.ntmps120
 have hix : ((⟨s.toArray⟩ : ByteArray)[k]'(by rw [bsize]; exact hk)).toNat = 34 := by
  have : ((⟨s.toArray⟩ : ByteArray)[k]'(by rw [bsize]; exact hk)) = s[k] := by
   show (s.toArray)[k]'_ = s[k]
   simp
  rw [this, HQ.out]; rfl
 go_wp2_with fail
 rw [extract_eq s (k + 1) s.length]
 obtain ⟨r, hr⟩ : ∃ r, r = s.drop (k + 1) := ⟨_, rfl⟩
 have hrt : (s.drop (k + 1)).take (s.length - (k + 1)) = r := by rw [hr, List.take_of_length_le (by rw [List.length_drop]; omega)]
 rw [hrt]
 have hrl : r.length = s.length - (k + 1) := by rw [hr, List.length_drop]
 have HR := hid hr
 rw [← hr] at HP
 clear hrt hr
 go_loopw [4] (fun z wr => ∃ pos sl, z = .bool sl ∧ QuRel w.heap.size 34 r p w wr pos sl) (fun _ wr => r.length - wr.iterPos w.heap.size)
 case atStart =>
  refine ⟨0, false, rfl, ⟨by omega, ?_, ?_, ?_⟩⟩
  · exact heap_alloc_at rfl _
  · exact ((Ext.refl _ _).alloc _)
  · rw [HP.out]; simp
 case round =>
  obtain ⟨pos, sl, rfl, R⟩ := hrel
  have hle := R.le
  by_cases hp : pos < r.length
  · obtain ⟨d, hd⟩ : ∃ d, Utf8.decode ⟨r.toArray⟩ pos = d := ⟨_, rfl⟩
    have hnx : ∀ ty, (Instr.next (.pointer (some ⟨w.heap.size, 0, none⟩)) true ty).run Tryz.prog wr = .ok (.tuple #[.bool true, .int .i64 pos, .int .i32 d.1]) (wr.iterAt w.heap.size ⟨r.toArray⟩ (pos + d.2)) :=
     fun ty => by rw [← hd]; exact run_next_any_at wr w.heap.size ⟨r.toArray⟩ pos ty R.hit (by rw [bsize]; exact hp)
    have Hd := hid ((decode_dropL r pos).symm.trans hd)
    clear hd
    have w1 := dw1 (r.drop pos)
    have w2 := dwle (r.drop pos) (by intro e; have := congrArg List.length e; rw [List.length_drop] at this; simp at this; omega)
    rw [List.length_drop] at w2
    rw [Hd.out] at w1 w2
    have X1 : Ext none' w (wr.iterAt w.heap.size ⟨r.toArray⟩ (pos + d.2)) := R.hx.iterAt (.inr (Nat.le_refl _)) _ _
    have h2 := X1.heap HH.out (fun h => h)
    have p1 := cell_at h2 1
    have pf := free_at h2 1
    simp only [List.getElem?_toArray, List.getElem?_cons_zero, List.getElem?_cons_succ] at p1
    have hit2 : (wr.iterAt w.heap.size ⟨r.toArray⟩ (pos + d.2)).heap[w.heap.size]? = some (.stringIter ⟨r.toArray⟩ (pos + d.2)) := iterAt_heap _ _ _ _ _ R.hit
    have hit := hid (iterPos_of R.hit)
    have RR := hid R
    have HX1 := hid X1
    have HI2 := hid hit2
    have HH2 := hid h2
    clear R X1 hit2 h2
    have NX : ∀ sl', Hid (p = (quo 34 sl' (r.drop (pos + d.2))).map (· + (pos + d.2)) → (∃ ps sx, (Value.bool sl' : Value) = .bool sx ∧ QuRel w.heap.size 34 r p w (wr.iterAt w.heap.size ⟨r.toArray⟩ (pos + d.2)) ps sx) ∧ r.length - (wr.iterAt w.heap.size ⟨r.toArray⟩ (pos + d.2)).iterPos w.heap.size < r.length - wr.iterPos w.heap.size) := fun sl' => hid fun hpp => by
     refine ⟨⟨pos + d.2, sl', rfl, ⟨by omega, HI2.out, HX1.out, hpp⟩⟩, ?_⟩
     rw [iterPos_of HI2.out, hit.out]; omega
    have hne' : r.drop pos ≠ [] := by intro e; have := congrArg List.length e; rw [List.length_drop] at this; simp at this; omega
    have qt := quo_true 34 (.inl rfl) (r.drop pos) hne'
    have qf := quo_false 34 (.inl rfl) (r.drop pos) hne'
    rw [Hd.out, List.drop_drop] at qt qf
    have QT := hid qt
    have QF := hid qf
    clear qt qf hne'
    have HP1 : Hid (p = (quo 34 sl (r.drop pos)).map (· + pos)) := hid RR.out.hf
    have sw : pos + d.2 = d.2 + pos := Nat.add_comm _ _
    have SW := hid sw
    clear sw
    obtain ⟨d1, d2⟩ := d
    simp only at *
    by_cases a10 : d1 = 10
    · subst a10
      have hpn : Hid (p = none) := hid (by
       rw [HP1.out]
       cases sl
       · rw [QF.out]; simp
       · rw [QT.out]; simp)
      clear NX
      cases sl
      · go_wp2_with (go_at_call 163; refine (need_no _ k _).mono ?_; rintro e w1 ⟨rfl, rfl⟩)
        rw [hpn.out]
        exact ⟨rfl, ⟨rfl, HX1.out.mono fun i _ h => h.elim⟩⟩
      · go_wp2_with (go_at_call 163; refine (need_no _ k _).mono ?_; rintro e w1 ⟨rfl, rfl⟩)
        rw [hpn.out]
        exact ⟨rfl, ⟨rfl, HX1.out.mono fun i _ h => h.elim⟩⟩
    · by_cases a92 : d1 = 92
      · subst a92
        cases sl
        · have HN : Hid (p = (quo 34 true (r.drop (pos + d2))).map (· + (pos + d2))) := hid (by rw [HP1.out, QF.out, if_pos ⟨rfl, trivial⟩, map_map_add, SW.out])
          have N := (NX true).out HN.out
          clear NX
          go_wp2_with fail
          exact N
        · have HN : Hid (p = (quo 34 false (r.drop (pos + d2))).map (· + (pos + d2))) := hid (by rw [HP1.out, QT.out, if_neg (by decide), map_map_add, SW.out])
          have N := hid ((NX false).out HN.out)
          clear NX
          go_wp2_with (go_at_call 163; refine (need_yes _ k _).mono ?_; rintro e w1 ⟨rfl, rfl⟩)
          exact N.out
      · have e10 : ((d1 : Int) == 10) = false := by simp; omega
        have e92 : ((d1 : Int) == 92) = false := by simp; omega
        cases sl
        · by_cases a34 : d1 = 34
          · subst a34
            have HN : Hid (p = some (1 + pos)) := hid (by rw [HP1.out, QF.out, if_neg (by decide), if_pos (by decide)]; rfl)
            have fin := St.go HH.out hb RL.out RN.out hne HX1.out (k + pos + 2) (z := k + pos + 2) (by push_cast; rfl)
            have CA := hid (add_any base sb 5 k (k + pos + 2) s l n _ fin.1 (by omega) (by omega) (by omega))
            have FX := hid fin.2
            clear NX a10 a92 e10 e92 fin
            go_wp2_with fail
            refine CA.out.mono ?_
            rintro e w1 ⟨rfl, st1, x1⟩
            have S1 := hid st1
            have Y1 := hid (FX.out.trans x1)
            clear st1 x1
            go_wp2_with fail
            rw [HN.out]
            refine bodyPost_ret (results_none rfl _ _ _) rfl ⟨rfl, ?_, Y1.out⟩
            have e1 : k + 1 + (1 + pos) = k + pos + 2 := by omega
            have e2 : 1 + pos + 1 = k + pos + 2 - k := by omega
            rw [e1, e2]
            exact S1.out
          · have e34 : ((d1 : Int) == 34) = false := by simp; omega
            have HN : Hid (p = (quo 34 false (r.drop (pos + d2))).map (· + (pos + d2))) := hid (by rw [HP1.out, QF.out, if_neg (by omega), if_neg (by simpa using a34), if_neg (by omega), map_map_add, SW.out])
            have N := hid ((NX false).out HN.out)
            clear NX a10 a92 a34
            go_wp2_with fail
            exact N.out
        · have HN : Hid (p = (quo 34 false (r.drop (pos + d2))).map (· + (pos + d2))) := hid (by rw [HP1.out, QT.out, if_neg (by omega), map_map_add, SW.out])
          have N := hid ((NX false).out HN.out)
          have A10 := hid a10
          clear NX a10 a92 e92 e10
          go_wp2_with fail
          refine (need_is _ _ k _ (by have := A10.out; simp; omega)).mono ?_
          rintro e w1 ⟨rfl, rfl⟩
          go_wp2_with fail
          exact N.out
  · have hnx : ∀ ty, (Instr.next (.pointer (some ⟨w.heap.size, 0, none⟩)) true ty).run Tryz.prog wr = _ := fun ty => run_next_end_at wr w.heap.size ⟨r.toArray⟩ pos ty R.hit (by rw [bsize]; exact hp)
    have hpn : Hid (p = none) := hid (by rw [R.hf, show pos = r.length by omega, List.drop_length]; cases sl <;> rfl)
    have RR := hid R
    clear R
    go_wp2_with (go_at_call 163; refine (need_no _ k _).mono ?_; rintro e w1 ⟨rfl, rfl⟩)
    rw [hpn.out]
    exact ⟨rfl, ⟨rfl, RR.out.hx.mono fun i _ h => h.elim⟩⟩
theorem quoted_96 (base sb k : Nat) (s : List UInt8) (l n : List Tok) (w : World) (st : St base sb w s k l n) (hk : k < s.length) (hq : s[k] = 96) (hs : s.length ≤ 1000000) (hl : l.length ≤ 900000) :
  Calls Tryz.prog 120 #[.pointer (some ⟨sb, 0, none⟩)] w (QPost base sb s k l n w (quo 96 false (s.drop (k + 1)))) := by
 obtain ⟨p, hp⟩ : ∃ p, p = quo 96 false (s.drop (k + 1)) := ⟨_, rfl⟩
 rw [← hp]
 have HP := hid hp
 clear hp
 have ST := hid st
 obtain ⟨vl, vn, hh, rl, rn, hne, hb⟩ := st
 have p0 := cell_at hh 0
 have p1 := cell_at hh 1
 simp only [List.getElem?_toArray, List.getElem?_cons_zero, List.getElem?_cons_succ] at p0 p1
 have HH := hid hh
 have RL := hid rl
 have RN := hid rn
 have HQ := hid hq
 clear hh rl rn hq
 go_enter Tryz.func120, Tryz.ntmps120
 have hix : ((⟨s.toArray⟩ : ByteArray)[k]'(by rw [bsize]; exact hk)).toNat = 96 := by
  have : ((⟨s.toArray⟩ : ByteArray)[k]'(by rw [bsize]; exact hk)) = s[k] := by
   show (s.toArray)[k]'_ = s[k]
   simp
  rw [this, HQ.out]; rfl
 go_wp2_with fail
 rw [extract_eq s (k + 1) s.length]
 obtain ⟨r, hr⟩ : ∃ r, r = s.drop (k + 1) := ⟨_, rfl⟩
 have hrt : (s.drop (k + 1)).take (s.length - (k + 1)) = r := by rw [hr, List.take_of_length_le (by rw [List.length_drop]; omega)]
 rw [hrt]
 have hrl : r.length = s.length - (k + 1) := by rw [hr, List.length_drop]
 have HR := hid hr
 rw [← hr] at HP
 clear hrt hr
 go_loopw [4] (fun z wr => z = .bool false ∧ ∃ pos, QuRel w.heap.size 96 r p w wr pos false) (fun _ wr => r.length - wr.iterPos w.heap.size)
 case atStart =>
  refine ⟨rfl, 0, ⟨by omega, ?_, ?_, ?_⟩⟩
  · exact heap_alloc_at rfl _
  · exact ((Ext.refl _ _).alloc _)
  · rw [HP.out]; simp
 case round =>
  obtain ⟨rfl, pos, R⟩ := hrel
  have hle := R.le
  by_cases hp : pos < r.length
  · obtain ⟨d, hd⟩ : ∃ d, Utf8.decode ⟨r.toArray⟩ pos = d := ⟨_, rfl⟩
    have hnx : ∀ ty, (Instr.next (.pointer (some ⟨w.heap.size, 0, none⟩)) true ty).run Tryz.prog wr = .ok (.tuple #[.bool true, .int .i64 pos, .int .i32 d.1]) (wr.iterAt w.heap.size ⟨r.toArray⟩ (pos + d.2)) :=
     fun ty => by rw [← hd]; exact run_next_any_at wr w.heap.size ⟨r.toArray⟩ pos ty R.hit (by rw [bsize]; exact hp)
    have Hd := hid ((decode_dropL r pos).symm.trans hd)
    clear hd
    have w1 := dw1 (r.drop pos)
    have w2 := dwle (r.drop pos) (by intro e; have := congrArg List.length e; rw [List.length_drop] at this; simp at this; omega)
    rw [List.length_drop] at w2
    rw [Hd.out] at w1 w2
    have X1 : Ext none' w (wr.iterAt w.heap.size ⟨r.toArray⟩ (pos + d.2)) := R.hx.iterAt (.inr (Nat.le_refl _)) _ _
    have h2 := X1.heap HH.out (fun h => h)
    have p1 := cell_at h2 1
    have pf := free_at h2 1
    simp only [List.getElem?_toArray, List.getElem?_cons_zero, List.getElem?_cons_succ] at p1
    have hit2 : (wr.iterAt w.heap.size ⟨r.toArray⟩ (pos + d.2)).heap[w.heap.size]? = some (.stringIter ⟨r.toArray⟩ (pos + d.2)) := iterAt_heap _ _ _ _ _ R.hit
    have hit := hid (iterPos_of R.hit)
    have RR := hid R
    have HX1 := hid X1
    have HI2 := hid hit2
    have HH2 := hid h2
    clear R X1 hit2 h2
    have NX : Hid (p = (quo 96 false (r.drop (pos + d.2))).map (· + (pos + d.2)) → ((Value.bool false : Value) = .bool false ∧ ∃ ps, QuRel w.heap.size 96 r p w (wr.iterAt w.heap.size ⟨r.toArray⟩ (pos + d.2)) ps false) ∧ r.length - (wr.iterAt w.heap.size ⟨r.toArray⟩ (pos + d.2)).iterPos w.heap.size < r.length - wr.iterPos w.heap.size) := hid fun hpp => by
     refine ⟨⟨rfl, pos + d.2, ⟨by omega, HI2.out, HX1.out, hpp⟩⟩, ?_⟩
     rw [iterPos_of HI2.out, hit.out]; omega
    have hne' : r.drop pos ≠ [] := by intro e; have := congrArg List.length e; rw [List.length_drop] at this; simp at this; omega
    have qf := quo_false 96 (.inr rfl) (r.drop pos) hne'
    rw [Hd.out, List.drop_drop] at qf
    have QF := hid qf
    clear qf hne'
    have HP1 : Hid (p = (quo 96 false (r.drop pos)).map (· + pos)) := hid RR.out.hf
    have sw : pos + d.2 = d.2 + pos := Nat.add_comm _ _
    have SW := hid sw
    clear sw
    obtain ⟨d1, d2⟩ := d
    simp only at *
    by_cases a96 : d1 = 96
    · subst a96
      have HN : Hid (p = some (1 + pos)) := hid (by rw [HP1.out, QF.out, if_neg (by decide), if_pos (by decide)]; rfl)
      have fin := St.go HH.out hb RL.out RN.out hne HX1.out (k + pos + 2) (z := k + pos + 2) (by push_cast; rfl)
      have CA := hid (add_any base sb 5 k (k + pos + 2) s l n _ fin.1 (by omega) (by omega) (by omega))
      have FX := hid fin.2
      clear NX fin
      go_wp2_with fail
      refine CA.out.mono ?_
      rintro e w1 ⟨rfl, st1, x1⟩
      have S1 := hid st1
      have Y1 := hid (FX.out.trans x1)
      clear st1 x1
      go_wp2_with fail
      rw [HN.out]
      refine bodyPost_ret (results_none rfl _ _ _) rfl ⟨rfl, ?_, Y1.out⟩
      have e1 : k + 1 + (1 + pos) = k + pos + 2 := by omega
      have e2 : 1 + pos + 1 = k + pos + 2 - k := by omega
      rw [e1, e2]
      exact S1.out
    · have e96 : ((d1 : Int) == 96) = false := by simp; omega
      have HN : Hid (p = (quo 96 false (r.drop (pos + d2))).map (· + (pos + d2))) := hid (by rw [HP1.out, QF.out, if_neg (by simp), if_neg (by simpa using a96), if_neg (by simp), map_map_add, SW.out])
      have N := hid (NX.out HN.out)
      clear NX a96
      by_cases a10 : d1 = 10
      · subst a10
        go_wp2_with (go_at_call 163; refine (need_is _ _ k _ (by rfl)).mono ?_; rintro e w1 ⟨rfl, rfl⟩)
        exact ⟨⟨rfl, N.out.1.2⟩, N.out.2⟩
      · have e10 : ((d1 : Int) == 10) = false := by simp; omega
        clear a10
        by_cases a92 : d1 = 92
        · subst a92
          go_wp2_with fail
          exact ⟨⟨rfl, N.out.1.2⟩, N.out.2⟩
        · have e92 : ((d1 : Int) == 92) = false := by simp; omega
          clear a92
          go_wp2_with fail
          exact ⟨⟨rfl, N.out.1.2⟩, N.out.2⟩
  · have hnx : ∀ ty, (Instr.next (.pointer (some ⟨w.heap.size, 0, none⟩)) true ty).run Tryz.prog wr = _ := fun ty => run_next_end_at wr w.heap.size ⟨r.toArray⟩ pos ty R.hit (by rw [bsize]; exact hp)
    have hpn : Hid (p = none) := hid (by rw [R.hf, show pos = r.length by omega, List.drop_length]; rfl)
    have RR := hid R
    clear R
    go_wp2_with (go_at_call 163; refine (need_no _ k _).mono ?_; rintro e w1 ⟨rfl, rfl⟩)
    rw [hpn.out]
    exact ⟨rfl, ⟨rfl, RR.out.hx.mono fun i _ h => h.elim⟩⟩
theorem tquoted_any (base sb k : Nat) (s : List UInt8) (l n : List Tok) (w : World) (st : St base sb w s k l n) (hk : k < s.length) (hq : s[k] = 34 ∨ s[k] = 96) (hs : s.length ≤ 1000000) (hl : l.length ≤ 900000) :
  Calls Tryz.prog 120 #[.pointer (some ⟨sb, 0, none⟩)] w (QPost base sb s k l n w (quo s[k] false (s.drop (k + 1)))) := by
 rcases hq with hq | hq
 · rw [hq]; exact quoted_34 base sb k s l n w st hk hq hs hl
 · rw [hq]; exact quoted_96 base sb k s l n w st hk hq hs hl
end Go.Proofs.YthbmjamgidfneaaGreatDoor
namespace Go.Proofs.YthbmjamgidfneaaGreatDoor
open Go.Lib
theorem occ_take (s sub : List UInt8) (i : Nat) : Lib.occAt s sub i = decide ((s.drop i).take sub.length = sub) := by
 unfold Lib.occAt
 rw [Bool.eq_iff_iff, List.isPrefixOf_iff_prefix, List.prefix_iff_eq_take]
 simp only [decide_eq_true_eq]
 exact ⟨fun h => h.symm, fun h => h.symm⟩
theorem contains_iff (s sub : List UInt8) : Lib.contains s sub = true ↔ ∃ i, i ≤ s.length ∧ (s.drop i).take sub.length = sub := by
 unfold Lib.contains
 rcases Lib.index_spec s sub with ⟨h1, h2⟩ | ⟨i, h1, h2, h3, _⟩
 · rw [h1]
   constructor
   · intro h; simp at h
   · rintro ⟨i, hi, he⟩
     have := h2 i hi
     rw [occ_take] at this
     simp [he] at this
 · rw [h1]
   constructor
   · intro _; exact ⟨i, h2, by simpa [occ_take] using h3⟩
   · intro _; simp
def wins (s : List UInt8) (n : Nat) : List (List UInt8) := (List.range (s.length + 1)).map fun i => (s.drop i).take n
theorem contains_wins (s sub : List UInt8) : Lib.contains s sub = decide (sub ∈ wins s sub.length) := by
 rw [Bool.eq_iff_iff, contains_iff]
 unfold wins
 simp only [decide_eq_true_eq, List.mem_map, List.mem_range]
 exact ⟨fun ⟨i, h1, h2⟩ => ⟨i, by omega, h2⟩, fun ⟨i, h1, h2⟩ => ⟨i, by omega, h2⟩⟩
def edged (n : Nat) (x : List UInt8) : Bool := x.head? == some 32 && x.getLast? == some 32 && x.length == n + 2
theorem sign_in (row : List UInt8) (n : Nat) (L : List (List UInt8)) (h : (wins row (n + 2)).filter (edged n) = L.map fun t => 32 :: (t ++ [32])) (t : List UInt8) (ht : t.length = n) :
  Lib.contains row (32 :: (t ++ [32])) = decide (t ∈ L) := by
 rw [contains_wins, Bool.eq_iff_iff]
 simp only [decide_eq_true_eq]
 have hl : (32 :: (t ++ [32])).length = n + 2 := by simp [ht]
 have he : edged n (32 :: (t ++ [32])) = true := by
  unfold edged
  rw [hl]
  simp [List.getLast?_cons, List.getLast?_append]
 rw [hl]
 constructor
 · intro hm
   have := List.mem_filter.2 ⟨hm, he⟩
   rw [h, List.mem_map] at this
   obtain ⟨u, hu, hx⟩ := this
   simp at hx
   exact hx ▸ hu
 · intro hm
   have : (32 :: (t ++ [32])) ∈ (wins row (n + 2)).filter (edged n) := by rw [h]; exact List.mem_map.2 ⟨t, hm, rfl⟩
   exact (List.mem_filter.1 this).1
def row3 : List UInt8 := [60, 60, 61, 32, 62, 62, 61, 32, 38, 94, 61, 32, 46, 46, 46]
def row2 : List UInt8 := [38, 38, 32, 124, 124, 32, 61, 61, 32, 33, 61, 32, 60, 61, 32, 62, 61, 32, 58, 61, 32, 43, 43, 32, 45, 45, 32, 43, 61, 32, 45, 61, 32, 42, 61, 32, 47, 61, 32, 37, 61, 32, 38, 61, 32, 124, 61, 32, 94, 61, 32, 60, 60, 32, 62, 62, 32, 38, 94, 32, 60, 45]
def row1 : List UInt8 := [43, 32, 45, 32, 42, 32, 47, 32, 37, 32, 38, 32, 124, 32, 94, 32, 60, 32, 62, 32, 61, 32, 33, 32, 40, 32, 41, 32, 91, 32, 93, 32, 123, 32, 125, 32, 44, 32, 59, 32, 46, 32, 58, 32, 126]
theorem sign3_in (t : List UInt8) (ht : t.length = 3) : Lib.contains (32 :: (row3 ++ [32])) (32 :: (t ++ [32])) = decide (t ∈ signs3) := sign_in _ 3 _ (by decide) t ht
theorem sign2_in (t : List UInt8) (ht : t.length = 2) : Lib.contains (32 :: (row2 ++ [32])) (32 :: (t ++ [32])) = decide (t ∈ signs2) := sign_in _ 2 _ (by decide +kernel) t ht
theorem sign1_in (t : List UInt8) (ht : t.length = 1) : Lib.contains (32 :: (row1 ++ [32])) (32 :: (t ++ [32])) = decide (t ∈ signs1) := sign_in _ 1 _ (by decide +kernel) t ht
end Go.Proofs.YthbmjamgidfneaaGreatDoor
namespace Go.Proofs.YthbmjamgidfneaaGreatDoor
open Go.RowKit Go.Lib Go.BigFrame
def rowV (l : List UInt8) : Value := .string ⟨l.toArray⟩
def SignsPost (w : World) (e : Ending) (w' : World) : Prop := e = .returned (.agg #[rowV row3, rowV row2, rowV row1]) ∧ Ext none' w w'
theorem signs_any (w : World) : Calls Tryz.prog 165 #[] w (SignsPost w) := by
 go_enter Tryz.func165, Tryz.ntmps165
 go_wp2
 exact bodyPost_ret (v := .agg #[rowV row3, rowV row2, rowV row1]) (by simp [results, Tryz.results165, go_sem]; exact ⟨rfl, rfl, rfl⟩) rfl ⟨rfl, ((Ext.refl _ _).alloc _)⟩
theorem extract0 (r : List UInt8) (n : Nat) : (⟨r.toArray⟩ : ByteArray).extract 0 n = ⟨(r.take n).toArray⟩ := by rw [extract_eq]; rfl
theorem len3 : ∀ t ∈ signs3, t.length = 3 := by decide
theorem len2 : ∀ t ∈ signs2, t.length = 2 := by decide
def SgPost (base sb : Nat) (s : List UInt8) (k : Nat) (l n : List Tok) (w : World) (m : Nat) (e : Ending) (w' : World) : Prop :=
 match m with
 | 0 => e = .panicked [{ v := gave k, recovered := false }] ∧ Ext (up base) w w'
 | m + 1 => StPost base sb s (k + (m + 1)) (l ++ [⟨6, (s.drop k).take (m + 1), k⟩]) n w e w'
theorem tsign_any (base sb k : Nat) (s : List UInt8) (l n : List Tok) (w : World) (st : St base sb w s k l n) (hk : k < s.length) (hs : s.length ≤ 1000000) (hl : l.length ≤ 900000) (hm : MaxL w) :
  Calls Tryz.prog 121 #[.pointer (some ⟨sb, 0, none⟩)] w (SgPost base sb s k l n w (signP (s.drop k))) := by
 obtain ⟨r, hr⟩ : ∃ r, r = s.drop k := ⟨_, rfl⟩
 have hrl : r.length ≤ 1000000 := by rw [hr, List.length_drop]; omega
 have hr1 : 1 ≤ r.length := by rw [hr, List.length_drop]; omega
 have HRL : Hid (r.length = s.length - k) := hid (by rw [hr, List.length_drop])
 rw [← hr]
 obtain ⟨p, hp⟩ : ∃ p, p = signP r := ⟨_, rfl⟩
 rw [← hp]
 have HR := hid hr
 have HP := hid hp
 clear hr hp
 have ST := hid st
 obtain ⟨vl, vn, hh, rl, rn, hne, hb⟩ := st
 have c0 : ∀ t : LaterF none' w, t.w.cell? ⟨sb, 0, none⟩ = some (.string ⟨s.toArray⟩) := fun t => by
  rw [cell_at (t.x.heap hh (fun h => h))]; rfl
 have c1 : ∀ t : LaterF none' w, t.w.cell? ⟨sb, 1, none⟩ = some (.int .i64 k) := fun t => by
  rw [cell_at (t.x.heap hh (fun h => h))]; rfl
 have HH := hid hh
 have RL := hid rl
 have RN := hid rn
 have HM := hid hm
 have CC := fun (hay t : List UInt8) w' (h : MaxL w') (hl : hay.length < 4294967281) => (let ⟨m, hm⟩ := h.2; Tryz.strings_Contains ⟨hay.toArray⟩ ⟨t.toArray⟩ m w' (by rw [bsize]; exact hl) hm)
 have HC := hid CC
 clear hh rl rn hm CC
 go_enter Tryz.func121, Tryz.ntmps121
 go_wp2_with fail
 refine region_in none' w [0, 1, 2, 3, 4, 5, 6, 7, 8, 9] [] (by kernel_rfl) (by kernel_rfl) (fun dst v c a w h => by cases dst <;> exact h) (Ext.refl _ _) ?_
 simp only [sel, List.getElem?_cons_succ, List.getElem?_cons_zero]
 repeat (go_big_quiet_step (fail))
 refine wpQuiet_nil ?_
 simp only [wpChain]
 rw [extract_eq s k s.length]
 have hrt : (s.drop k).take (s.length - k) = r := by rw [HR.out, List.take_of_length_le (by rw [List.length_drop]; omega)]
 rw [hrt]
 clear hrt
 go_wp2_with fail
 refine (signs_any _).mono ?_
 rintro e w1 ⟨rfl, X1'⟩
 have X1 : Ext none' w w1 := (Ext.refl _ _).drew.trans X1'
 go_wp2_with fail
 go_loopw [16, 3, 4, 5] (fun z _ _ _ wr => ∃ i : Nat, i ≤ 3 ∧ z = .int .i64 i ∧ wr = w1 ∧ Hid (1 ≤ i → r.take 3 ∉ signs3) ∧ Hid (2 ≤ i → r.take 2 ∉ signs2) ∧ Hid (3 ≤ i → r.take 1 ∉ signs1)) (fun z _ _ _ _ => 3 - (RowKit.intOf z).toNat)
 case atStart => exact ⟨0, by omega, rfl, rfl, hid (by omega), hid (by omega), hid (by omega)⟩
 case round =>
  obtain ⟨i, hi, rfl, rfl, N3, N2, N1⟩ := hrel
  have hi4 : i = 0 ∨ i = 1 ∨ i = 2 ∨ i = 3 := by omega
  have HX1 := hid X1
  have d0 := c0 ⟨_, X1⟩
  have d1 := c1 ⟨_, X1⟩
  have f1 := free_at (X1.heap HH.out (fun h => h)) 1
  simp only at d0 d1
  have i0 : ∀ w, (Instr.index 125 (.agg #[rowV row3, rowV row2, rowV row1]) (.int .i64 0)).run Tryz.prog w = .ok (.string ⟨row3.toArray⟩) w := fun _ => by kernel_rfl
  have i1 : ∀ w, (Instr.index 125 (.agg #[rowV row3, rowV row2, rowV row1]) (.int .i64 1)).run Tryz.prog w = .ok (.string ⟨row2.toArray⟩) w := fun _ => by kernel_rfl
  have i2 : ∀ w, (Instr.index 125 (.agg #[rowV row3, rowV row2, rowV row1]) (.int .i64 2)).run Tryz.prog w = .ok (.string ⟨row1.toArray⟩) w := fun _ => by kernel_rfl
  clear c0 c1 X1 X1' hi
  rcases hi4 with rfl | rfl | rfl | rfl
  · by_cases hl : 3 ≤ r.length
    · have ct := sign3_in (r.take 3) (by rw [List.length_take]; omega)
      by_cases hin : r.take 3 ∈ signs3
      · have HCT : Hid (Lib.contains (32 :: (row3 ++ [32])) (32 :: (r.take 3 ++ [32])) = true) := hid (by rw [ct]; simpa using hin)
        have HPP : Hid (p = 3) := hid (by rw [HP.out]; unfold signP; rw [if_pos ⟨hl, hin⟩])
        clear ct hin
        go_wp2_with fail
        rw [extract0, cat_eq, cat_eq]
        refine (HC.out _ _ wr (HM.out.ext HX1.out (fun h => h)) (by decide)).mono ?_
        rintro e w2 ⟨rfl, rfl⟩
        have fin := St.go HH.out hb RL.out RN.out hne HX1.out (k + 3) (z := k + 3) (by push_cast; rfl)
        have CA := hid (add_any base sb 6 k (k + 3) s l n _ fin.1 (by omega) (by have := HRL.out; omega) (by omega))
        have FX := hid fin.2
        rw [HCT.out]
        clear fin
        go_wp2_with fail
        refine CA.out.mono ?_
        rintro e w3 ⟨rfl, st1, x1⟩
        have S1 := hid st1
        have Y1 := hid (FX.out.trans x1)
        clear st1 x1
        go_wp2_with fail
        rw [HPP.out]
        refine bodyPost_ret (results_none rfl _ _ _) rfl ⟨rfl, ?_, Y1.out⟩
        have e1 : k + 3 - k = 3 := by omega
        have := S1.out
        rw [e1] at this
        exact this
      · have HCT : Hid (Lib.contains (32 :: (row3 ++ [32])) (32 :: (r.take 3 ++ [32])) = false) := hid (by rw [ct]; simpa using hin)
        have HIN := hid hin
        clear ct hin
        go_wp2_with fail
        rw [extract0, cat_eq, cat_eq]
        refine (HC.out _ _ wr (HM.out.ext HX1.out (fun h => h)) (by decide)).mono ?_
        rintro e w2 ⟨rfl, rfl⟩
        rw [HCT.out]
        go_wp2_with fail
        go_roundw
        case rel => exact ⟨1, by omega, rfl, trivial, hid (fun _ => HIN.out), hid (by omega), hid (by omega)⟩
        case measure => simp [RowKit.intOf]
    · have HIN : Hid (r.take 3 ∉ signs3) := hid (fun h => by have := len3 _ h; rw [List.length_take] at this; omega)
      go_wp2_with fail
      go_roundw
      case rel => exact ⟨1, by omega, rfl, trivial, hid (fun _ => HIN.out), hid (by omega), hid (by omega)⟩
      case measure => simp [RowKit.intOf]
  · by_cases hl : 2 ≤ r.length
    · have ct := sign2_in (r.take 2) (by rw [List.length_take]; omega)
      by_cases hin : r.take 2 ∈ signs2
      · have HCT : Hid (Lib.contains (32 :: (row2 ++ [32])) (32 :: (r.take 2 ++ [32])) = true) := hid (by rw [ct]; simpa using hin)
        have HPP : Hid (p = 2) := hid (by rw [HP.out]; unfold signP; rw [if_neg (fun h => N3.out (by omega) h.2), if_pos ⟨hl, hin⟩])
        clear ct hin
        go_wp2_with fail
        rw [extract0, cat_eq, cat_eq]
        refine (HC.out _ _ wr (HM.out.ext HX1.out (fun h => h)) (by decide)).mono ?_
        rintro e w2 ⟨rfl, rfl⟩
        have fin := St.go HH.out hb RL.out RN.out hne HX1.out (k + 2) (z := k + 2) (by push_cast; rfl)
        have CA := hid (add_any base sb 6 k (k + 2) s l n _ fin.1 (by omega) (by have := HRL.out; omega) (by omega))
        have FX := hid fin.2
        rw [HCT.out]
        clear fin
        go_wp2_with fail
        refine CA.out.mono ?_
        rintro e w3 ⟨rfl, st1, x1⟩
        have S1 := hid st1
        have Y1 := hid (FX.out.trans x1)
        clear st1 x1
        go_wp2_with fail
        rw [HPP.out]
        refine bodyPost_ret (results_none rfl _ _ _) rfl ⟨rfl, ?_, Y1.out⟩
        have e1 : k + 2 - k = 2 := by omega
        have := S1.out
        rw [e1] at this
        exact this
      · have HCT : Hid (Lib.contains (32 :: (row2 ++ [32])) (32 :: (r.take 2 ++ [32])) = false) := hid (by rw [ct]; simpa using hin)
        have HIN := hid hin
        clear ct hin
        go_wp2_with fail
        rw [extract0, cat_eq, cat_eq]
        refine (HC.out _ _ wr (HM.out.ext HX1.out (fun h => h)) (by decide)).mono ?_
        rintro e w2 ⟨rfl, rfl⟩
        rw [HCT.out]
        go_wp2_with fail
        go_roundw
        case rel => exact ⟨2, by omega, rfl, trivial, hid (fun _ => N3.out (by omega)), hid (fun _ => HIN.out), hid (by omega)⟩
        case measure => simp [RowKit.intOf]
    · have HIN : Hid (r.take 2 ∉ signs2) := hid (fun h => by have := len2 _ h; rw [List.length_take] at this; omega)
      go_wp2_with fail
      go_roundw
      case rel => exact ⟨2, by omega, rfl, trivial, hid (fun _ => N3.out (by omega)), hid (fun _ => HIN.out), hid (by omega)⟩
      case measure => simp [RowKit.intOf]
  · by_cases hl : 1 ≤ r.length
    · have ct := sign1_in (r.take 1) (by rw [List.length_take]; omega)
      by_cases hin : r.take 1 ∈ signs1
      · have HCT : Hid (Lib.contains (32 :: (row1 ++ [32])) (32 :: (r.take 1 ++ [32])) = true) := hid (by rw [ct]; simpa using hin)
        have HPP : Hid (p = 1) := hid (by rw [HP.out]; unfold signP; rw [if_neg (fun h => N3.out (by omega) h.2), if_neg (fun h => N2.out (by omega) h.2), if_pos hin])
        clear ct hin
        go_wp2_with fail
        rw [extract0, cat_eq, cat_eq]
        refine (HC.out _ _ wr (HM.out.ext HX1.out (fun h => h)) (by decide)).mono ?_
        rintro e w2 ⟨rfl, rfl⟩
        have fin := St.go HH.out hb RL.out RN.out hne HX1.out (k + 1) (z := k + 1) (by push_cast; rfl)
        have CA := hid (add_any base sb 6 k (k + 1) s l n _ fin.1 (by omega) (by have := HRL.out; omega) (by omega))
        have FX := hid fin.2
        rw [HCT.out]
        clear fin
        go_wp2_with fail
        refine CA.out.mono ?_
        rintro e w3 ⟨rfl, st1, x1⟩
        have S1 := hid st1
        have Y1 := hid (FX.out.trans x1)
        clear st1 x1
        go_wp2_with fail
        rw [HPP.out]
        refine bodyPost_ret (results_none rfl _ _ _) rfl ⟨rfl, ?_, Y1.out⟩
        have e1 : k + 1 - k = 1 := by omega
        have := S1.out
        rw [e1] at this
        exact this
      · have HCT : Hid (Lib.contains (32 :: (row1 ++ [32])) (32 :: (r.take 1 ++ [32])) = false) := hid (by rw [ct]; simpa using hin)
        have HIN := hid hin
        clear ct hin
        go_wp2_with fail
        rw [extract0, cat_eq, cat_eq]
        refine (HC.out _ _ wr (HM.out.ext HX1.out (fun h => h)) (by decide)).mono ?_
        rintro e w2 ⟨rfl, rfl⟩
        rw [HCT.out]
        go_wp2_with fail
        go_roundw
        case rel => exact ⟨3, by omega, rfl, trivial, hid (fun _ => N3.out (by omega)), hid (fun _ => N2.out (by omega)), hid (fun _ => HIN.out)⟩
        case measure => simp [RowKit.intOf]
    · exact absurd hr1 hl
  · have HPP : Hid (p = 0) := hid (by rw [HP.out]; unfold signP; rw [if_neg (fun h => N3.out (by omega) h.2), if_neg (fun h => N2.out (by omega) h.2), if_neg (fun h => N1.out (by omega) h)])
    go_wp2_with (go_at_call 163; refine (need_no _ k _).mono ?_; rintro e w1 ⟨rfl, rfl⟩)
    rw [HPP.out]
    exact ⟨rfl, ⟨rfl, HX1.out.mono fun i _ h => h.elim⟩⟩
end Go.Proofs.YthbmjamgidfneaaGreatDoor
