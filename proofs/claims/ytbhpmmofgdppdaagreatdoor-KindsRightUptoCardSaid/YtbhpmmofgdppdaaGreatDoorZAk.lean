import Derived.Test.YtbhpmmofgdppdaaGreatDoorZAj
import Derived.Test.YtbhpmmofgdppdaaGreatDoorZAa
import Derived.Test.YtbhpmmofgdppdaaGreatDoorProg
import Derived.Test.YtbhpmmofgdppdaaGreatDoorZAb
import Derived.Test.YtbhpmmofgdppdaaGreatDoorZAg
import Derived.Deep.Cut
namespace Go.Proofs.YtbhpmmofgdppdaaGreatDoor
open Go.RowKit Go.Lib
def RetBool (b : Bool) (w : World) (e : Ending) (w' : World) : Prop := e = .returned (.bool b) ∧ w = w'
theorem letter_any (c : Nat) (w : World) : Calls Tryz.prog 184 #[.int .i32 c] w (RetBool (letterB c) w) := by
  obtain ⟨b, hb⟩ : ∃ b, b = letterB c := ⟨_, rfl⟩
  rw [← hb]
  have HB := hid hb
  clear hb
  go_enter Tryz.func184, Tryz.ntmps184
  go_wp2
  all_goals go_ret
  all_goals refine ⟨?_, rfl⟩
  all_goals congr 2
  all_goals rw [HB.out]; simp [letterB]
  all_goals first | omega | (rw [Bool.eq_iff_iff]; simp; omega)
theorem figure_any (c : Nat) (w : World) : Calls Tryz.prog 185 #[.int .i32 c] w (RetBool (figB c) w) := by
  obtain ⟨b, hb⟩ : ∃ b, b = figB c := ⟨_, rfl⟩
  rw [← hb]
  have HB := hid hb
  clear hb
  go_enter Tryz.func185, Tryz.ntmps185
  go_wp2
  all_goals go_ret
  all_goals refine ⟨?_, rfl⟩
  all_goals congr 2
  all_goals rw [HB.out]; simp [figB]
  all_goals first | omega | (rw [Bool.eq_iff_iff]; simp; omega)
theorem word_none (s : List UInt8) (w : World) (h1 : s ∉ words1) (h2 : s ∉ words2) : Calls Tryz.prog 186 #[.string ⟨s.toArray⟩] w fun e w' => e = .returned (.int .i64 0) ∧ w = w' := by
  simp only [words1, words2, List.mem_cons, List.mem_nil_iff, or_false, not_or] at h1 h2
  obtain ⟨a0, a1, a2, a3, a4, a5, a6, a7, a8, a9, a10, a11, a12, a13⟩ := h1
  obtain ⟨b0, b1, b2, b3, b4, b5, b6, b7, b8, b9, b10⟩ := h2
  have c0 : (s == [98, 114, 101, 97, 107]) = false := by simpa using a0
  have c1 : (s == [99, 111, 110, 116, 105, 110, 117, 101]) = false := by simpa using a1
  have c2 : (s == [101, 108, 115, 101]) = false := by simpa using a2
  have c3 : (s == [102, 111, 114]) = false := by simpa using a3
  have c4 : (s == [102, 117, 110, 99]) = false := by simpa using a4
  have c5 : (s == [105, 102]) = false := by simpa using a5
  have c6 : (s == [105, 109, 112, 111, 114, 116]) = false := by simpa using a6
  have c7 : (s == [105, 110, 116, 101, 114, 102, 97, 99, 101]) = false := by simpa using a7
  have c8 : (s == [112, 97, 99, 107, 97, 103, 101]) = false := by simpa using a8
  have c9 : (s == [114, 97, 110, 103, 101]) = false := by simpa using a9
  have c10 : (s == [114, 101, 116, 117, 114, 110]) = false := by simpa using a10
  have c11 : (s == [115, 116, 114, 117, 99, 116]) = false := by simpa using a11
  have c12 : (s == [116, 121, 112, 101]) = false := by simpa using a12
  have c13 : (s == [118, 97, 114]) = false := by simpa using a13
  have d0 : (s == [99, 97, 115, 101]) = false := by simpa using b0
  have d1 : (s == [99, 104, 97, 110]) = false := by simpa using b1
  have d2 : (s == [99, 111, 110, 115, 116]) = false := by simpa using b2
  have d3 : (s == [100, 101, 102, 97, 117, 108, 116]) = false := by simpa using b3
  have d4 : (s == [100, 101, 102, 101, 114]) = false := by simpa using b4
  have d5 : (s == [102, 97, 108, 108, 116, 104, 114, 111, 117, 103, 104]) = false := by simpa using b5
  have d6 : (s == [103, 111]) = false := by simpa using b6
  have d7 : (s == [103, 111, 116, 111]) = false := by simpa using b7
  have d8 : (s == [109, 97, 112]) = false := by simpa using b8
  have d9 : (s == [115, 101, 108, 101, 99, 116]) = false := by simpa using b9
  have d10 : (s == [115, 119, 105, 116, 99, 104]) = false := by simpa using b10
  clear a0 a1 a2 a3 a4 a5 a6 a7 a8 a9 a10 a11 a12 a13 b0 b1 b2 b3 b4 b5 b6 b7 b8 b9 b10
  go_enter Tryz.func186, Tryz.ntmps186
  go_wp2
  go_ret
  exact ⟨rfl, rfl⟩
set_option maxHeartbeats 1600000 in
theorem word_one (s : List UInt8) (w : World) (h1 : s ∈ words1) : Calls Tryz.prog 186 #[.string ⟨s.toArray⟩] w fun e w' => e = .returned (.int .i64 1) ∧ w = w' := by
  simp only [words1, List.mem_cons, List.mem_nil_iff, or_false] at h1
  rcases h1 with rfl | rfl | rfl | rfl | rfl | rfl | rfl | rfl | rfl | rfl | rfl | rfl | rfl | rfl
  all_goals
    go_enter Tryz.func186, Tryz.ntmps186
    go_wp2
    go_ret
    exact ⟨rfl, rfl⟩
set_option maxHeartbeats 1600000 in
theorem word_two (s : List UInt8) (w : World) (h1 : s ∈ words2) : Calls Tryz.prog 186 #[.string ⟨s.toArray⟩] w fun e w' => e = .returned (.int .i64 2) ∧ w = w' := by
  simp only [words2, List.mem_cons, List.mem_nil_iff, or_false] at h1
  rcases h1 with rfl | rfl | rfl | rfl | rfl | rfl | rfl | rfl | rfl | rfl | rfl
  all_goals
    go_enter Tryz.func186, Tryz.ntmps186
    go_wp2
    go_ret
    exact ⟨rfl, rfl⟩
def RetNat (z : Nat) (w : World) (e : Ending) (w' : World) : Prop := e = .returned (.int .i64 z) ∧ w = w'
theorem word_any (s : List UInt8) (w : World) : Calls Tryz.prog 186 #[.string ⟨s.toArray⟩] w (RetNat (wordK s) w) := by
  unfold wordK
  split
  · exact word_one s w (by assumption)
  · split
    · exact word_two s w (by assumption)
    · exact word_none s w (by assumption) (by assumption)
end Go.Proofs.YtbhpmmofgdppdaaGreatDoor
namespace Go.Proofs.YtbhpmmofgdppdaaGreatDoor
open Go.RowKit Go.Lib
def strV (s : List UInt8) : Value := .string ⟨s.toArray⟩
/-- A row of texts. -/
def Texts (w : World) (b : Nat) (ts : List (List UInt8)) : Prop := ∀ j (h : j < ts.length), w.cell? ⟨b, j, none⟩ = some (.string ⟨(ts[j]).toArray⟩)
theorem beq_list (a b : List UInt8) : (a == b) = decide (a = b) := by
  by_cases h : a = b
  · subst h; simp
  · simp [h]
theorem texts_of {w : World} {b : Nat} {ts : List (List UInt8)} {cs : Array Value} {t : TypeId} {fz : Nat × Nat} (h : w.heap[b]? = some (.cells cs t fz)) (e : cs = (ts.map strV).toArray) : Texts w b ts := fun j hj => by
  rw [cell_at h, e]
  simp [strV, hj]
end Go.Proofs.YtbhpmmofgdppdaaGreatDoor
namespace Go.Proofs.YtbhpmmofgdppdaaGreatDoor
open Go.RowKit Go.Lib Go.BigFrame
theorem decodeN_low (n b0 b1 b2 b3 : Nat) (h : b0 < 128) : decodeN n b0 b1 b2 b3 = (b0, 1) := by unfold decodeN; rw [if_pos h]
theorem decodeN_ge (n b0 b1 b2 b3 : Nat) (h : 128 ≤ b0) : 128 ≤ (decodeN n b0 b1 b2 b3).1 := by
  unfold decodeN
  repeat' split
  all_goals simp only
  all_goals omega
theorem idB_high {c : UInt8} (h : 128 ≤ c.toNat) : idB c = false := by
  unfold idB letterB figB
  simp
  omega
/-- What the sign that begins a text is, if it is a letter or a figure. -/
theorem id_head (c : UInt8) (t : List UInt8) : (letterB (decodeL (c :: t)).1 || figB (decodeL (c :: t)).1) = idB c ∧ (idB c = true → (decodeL (c :: t)).2 = 1) := by
  rw [decodeL_N]
  simp only [List.getD_cons_zero]
  by_cases h : c.toNat < 128
  · rw [decodeN_low _ _ _ _ _ h]; exact ⟨rfl, fun _ => rfl⟩
  · have h1 := decodeN_ge (c :: t).length c.toNat ((c :: t).getD 1 0).toNat ((c :: t).getD 2 0).toNat ((c :: t).getD 3 0).toNat (by omega)
    rw [idB_high (by omega)]
    refine ⟨?_, fun h => by cases h⟩
    generalize (decodeN (c :: t).length c.toNat ((c :: t).getD 1 0).toNat ((c :: t).getD 2 0).toNat ((c :: t).getD 3 0).toNat).1 = b at h1 ⊢
    unfold letterB figB
    simp
    omega
theorem decode_dropL (s : List UInt8) (pos : Nat) : Utf8.decode ⟨s.toArray⟩ pos = decodeL (s.drop pos) := (decodeL_drop ⟨s.toArray⟩ pos).symm
def BoolPost (b : Bool) (w : World) (e : Ending) (w' : World) : Prop := e = .returned (.bool b) ∧ Ext none' w w'
end Go.Proofs.YtbhpmmofgdppdaaGreatDoor
namespace Go.Proofs.YtbhpmmofgdppdaaGreatDoor
open Go.RowKit Go.Lib Go.BigFrame
theorem let_high {b : Nat} (h : 128 ≤ b) : letterB b = false ∧ figB b = false := by
  unfold letterB figB
  constructor <;> simp <;> omega
theorem let_head (c : UInt8) (t : List UInt8) : letterB (decodeL (c :: t)).1 = letterB c.toNat ∧ figB (decodeL (c :: t)).1 = figB c.toNat := by
  rw [decodeL_N]
  simp only [List.getD_cons_zero]
  by_cases h : c.toNat < 128
  · rw [decodeN_low _ _ _ _ _ h]; exact ⟨rfl, rfl⟩
  · have h1 := decodeN_ge (c :: t).length c.toNat ((c :: t).getD 1 0).toNat ((c :: t).getD 2 0).toNat ((c :: t).getD 3 0).toNat (by omega)
    have h2 := let_high h1
    have h3 := let_high (b := c.toNat) (by omega)
    exact ⟨by rw [h2.1, h3.1], by rw [h2.2, h3.2]⟩
theorem let_fig0 {c : Nat} (h : letterB c = true) : figB c = false := by
  unfold letterB at h; unfold figB
  simp at h ⊢
  omega
/-- What 'Name' keeps. -/
structure NmRel (b : Nat) (s : List UInt8) (w wr : World) (pos : Nat) : Prop where
  le : pos ≤ s.length
  hit : wr.heap[b]? = some (.stringIter ⟨s.toArray⟩ pos)
  hx : Ext none' w wr
  hall : ∀ c ∈ s.take pos, idB c = true
  hd : 0 < pos → ∀ c t, s = c :: t → figB c.toNat = false
theorem nameB_no {s : List UInt8} {pos : Nat} (h : pos < s.length) (hn : idB s[pos] = false) : nameB s = false := by
  cases s with
  | nil => simp at h
  | cons c t =>
    unfold nameB
    have : (c :: t).all idB = false := by
      rw [List.all_eq_false]
      exact ⟨_, List.getElem_mem h, by rw [hn]; simp⟩
    rw [this]; simp
theorem nameB_fig {c : UInt8} {t : List UInt8} (h : figB c.toNat = true) : nameB (c :: t) = false := by
  show (!figB c.toNat && wordK (c :: t) == 0 && (c :: t).all idB) = false
  rw [h]; simp
theorem nameB_end {s : List UInt8} (hne : s ≠ []) (hall : ∀ c ∈ s, idB c = true) (hd : ∀ c t, s = c :: t → figB c.toNat = false) : nameB s = (wordK s == 0) := by
  cases s with
  | nil => exact absurd rfl hne
  | cons c t =>
    show (!figB c.toNat && wordK (c :: t) == 0 && (c :: t).all idB) = _
    rw [hd c t rfl]
    have : (c :: t).all idB = true := List.all_eq_true.2 hall
    rw [this]; simp
set_option maxHeartbeats 1600000 in
theorem name_any (s : List UInt8) (w : World) (hs : s.length ≤ 1000000) : Calls Tryz.prog 150 #[.string ⟨s.toArray⟩] w (BoolPost (nameB s) w) := by
  obtain ⟨p, hp⟩ : ∃ p, p = nameB s := ⟨_, rfl⟩
  rw [← hp]
  have HP := hid hp
  clear hp
  go_enter Tryz.func150, Tryz.ntmps150
  go_wp2_with fail
  go_loopw [] (fun wr => ∃ pos, NmRel w.heap.size s w wr pos) (fun wr => s.length - wr.iterPos w.heap.size)
  case atStart =>
    refine ⟨0, ⟨by omega, ?_, ?_, by simp, by omega⟩⟩
    · exact heap_alloc_at rfl _
    · exact (Ext.refl _ _).alloc _
  case round =>
    obtain ⟨pos, R⟩ := hrel
    have hle := R.le
    by_cases hp : pos < s.length
    · obtain ⟨d, hd⟩ : ∃ d, Utf8.decode ⟨s.toArray⟩ pos = d := ⟨_, rfl⟩
      have hnx : ∀ ty, (Instr.next (.pointer (some ⟨w.heap.size, 0, none⟩)) true ty).run Tryz.prog wr = .ok (.tuple #[.bool true, .int .i64 pos, .int .i32 d.1]) (wr.iterAt w.heap.size ⟨s.toArray⟩ (pos + d.2)) :=
        fun ty => by rw [← hd]; exact run_next_any_at wr w.heap.size ⟨s.toArray⟩ pos ty R.hit (by rw [bsize]; exact hp)
      have Hd := hid ((decode_dropL s pos).symm.trans hd)
      clear hd
      have hdr : s.drop pos = s[pos] :: s.drop (pos + 1) := List.drop_eq_getElem_cons hp
      have hlh := let_head s[pos] (s.drop (pos + 1))
      have hid' := id_head s[pos] (s.drop (pos + 1))
      rw [← hdr, Hd.out] at hlh hid'
      have X1 : Ext none' w (wr.iterAt w.heap.size ⟨s.toArray⟩ (pos + d.2)) := R.hx.iterAt (.inr (Nat.le_refl _)) _ _
      have hit2 : (wr.iterAt w.heap.size ⟨s.toArray⟩ (pos + d.2)).heap[w.heap.size]? = some (.stringIter ⟨s.toArray⟩ (pos + d.2)) := iterAt_heap _ _ _ _ _ R.hit
      have hit := hid (iterPos_of R.hit)
      obtain ⟨d1, d2⟩ := d
      simp only at hlh hid' hnx X1 hit2 Hd
      have NX : Hid (idB s[pos] = true → (0 < pos ∨ figB s[pos].toNat = false) → (∃ ps, NmRel w.heap.size s w (wr.iterAt w.heap.size ⟨s.toArray⟩ (pos + d2)) ps) ∧ s.length - (wr.iterAt w.heap.size ⟨s.toArray⟩ (pos + d2)).iterPos w.heap.size < s.length - wr.iterPos w.heap.size) := hid fun hi h0 => by
        have e2 := hid'.2 hi
        subst e2
        refine ⟨⟨pos + 1, ⟨by omega, hit2, X1, ?_, ?_⟩⟩, by rw [iterPos_of hit2, hit.out]; omega⟩
        · intro c hc
          rw [List.take_add_one, List.getElem?_eq_getElem hp] at hc
          simp only [Option.toList_some, List.mem_append, List.mem_singleton] at hc
          rcases hc with hc | rfl
          · exact R.hall c hc
          · exact hi
        · intro _ c t hst
          rcases h0 with h0 | h0
          · exact R.hd h0 c t hst
          · by_cases hz : 0 < pos
            · exact R.hd hz c t hst
            · have : pos = 0 := by omega
              subst this
              subst hst
              exact h0
      have NO : Hid (idB s[pos] = false → p = false) := hid fun hn => by rw [HP.out]; exact nameB_no hp hn
      have NF : Hid (pos = 0 → figB s[pos].toNat = true → p = false) := hid fun hz hf => by
        subst hz
        rw [HP.out]
        cases s with
        | nil => simp at hp
        | cons c t => exact nameB_fig hf
      have LW := hid (letter_any d1 (wr.iterAt w.heap.size ⟨s.toArray⟩ (pos + d2)))
      have FW := hid (figure_any d1 (wr.iterAt w.heap.size ⟨s.toArray⟩ (pos + d2)))
      have HX1 := hid X1
      have hidb : idB s[pos] = (letterB s[pos].toNat || figB s[pos].toNat) := rfl
      obtain ⟨lb, hlb⟩ : ∃ b, letterB s[pos].toNat = b := ⟨_, rfl⟩
      obtain ⟨fb, hfb⟩ : ∃ b, figB s[pos].toNat = b := ⟨_, rfl⟩
      have hlf : lb = true → fb = false := fun h => by rw [← hfb]; exact let_fig0 (hlb.trans h)
      rw [hlh.1, hlb] at LW
      rw [hlh.2, hfb] at FW
      rw [hlb, hfb] at hidb
      rw [hidb, hfb] at NX
      rw [hidb] at NO
      rw [hfb] at NF
      clear hlh hid' hlb hfb hidb X1 hit2 hdr R
      cases lb with
      | true =>
        have hf0 := hlf rfl
        subst hf0
        have N := hid (NX.out rfl (.inr rfl))
        clear NX NO NF hlf FW
        go_wp2_with (go_at_call 184; refine LW.out.mono ?_; rintro e w1 ⟨rfl, rfl⟩)
        exact N.out
      | false =>
        clear hlf
        by_cases hz : pos = 0
        · have hp0 : Hid (p = false) := hid (by
            cases fb
            · exact NO.out rfl
            · exact NF.out hz rfl)
          have e0 : ((pos : Int) == 0) = true := by simp [hz]
          clear NX NO NF hz
          go_wp2_with (go_at_call 184; refine LW.out.mono ?_; rintro e w1 ⟨rfl, rfl⟩)
          go_ret
          exact ⟨by rw [hp0.out]; rfl, HX1.out⟩
        · have e0 : ((pos : Int) == 0) = false := by simp [hz]
          have hz' : 0 < pos := by omega
          cases fb with
          | true =>
            have N := hid (NX.out rfl (.inl hz'))
            clear NX NO NF hz hz'
            go_wp2_with (first | (go_at_call 184; refine LW.out.mono ?_; rintro e w1 ⟨rfl, rfl⟩) | (go_at_call 185; refine FW.out.mono ?_; rintro e w1 ⟨rfl, rfl⟩))
            exact N.out
          | false =>
            have hp0 := hid (NO.out rfl)
            clear NX NO NF hz hz'
            go_wp2_with (first | (go_at_call 184; refine LW.out.mono ?_; rintro e w1 ⟨rfl, rfl⟩) | (go_at_call 185; refine FW.out.mono ?_; rintro e w1 ⟨rfl, rfl⟩))
            go_ret
            exact ⟨by rw [hp0.out]; rfl, HX1.out⟩
    · have hnx : ∀ ty, (Instr.next (.pointer (some ⟨w.heap.size, 0, none⟩)) true ty).run Tryz.prog wr = _ := fun ty => run_next_end_at wr w.heap.size ⟨s.toArray⟩ pos ty R.hit (by rw [bsize]; exact hp)
      have RR := hid R
      clear R
      by_cases hs0 : s = []
      · have hp0 : Hid (p = false) := hid (by rw [HP.out, hs0]; rfl)
        subst hs0
        go_wp2_with fail
        go_ret
        exact ⟨by rw [hp0.out]; rfl, RR.out.hx⟩
      · have hpl : pos = s.length := by omega
        have hpe : Hid (p = (wordK s == 0)) := hid (by
          rw [HP.out]
          exact nameB_end hs0 (fun c hc => RR.out.hall c (by rw [hpl, List.take_length]; exact hc)) (RR.out.hd (by have := List.length_pos_iff.2 hs0; omega)))
        have hsb : (s == []) = false := by simpa using hs0
        have WW := hid (word_any s wr)
        obtain ⟨k, hk⟩ : ∃ k, wordK s = k := ⟨_, rfl⟩
        rw [hk] at WW hpe
        clear hk hpl
        go_wp2_with (go_at_call 186; refine WW.out.mono ?_; rintro e w1 ⟨rfl, rfl⟩)
        go_ret
        refine ⟨?_, RR.out.hx⟩
        rw [hpe.out]
        congr 2
        simp
        rw [Bool.eq_iff_iff, beq_iff_eq, beq_iff_eq]
        omega
end Go.Proofs.YtbhpmmofgdppdaaGreatDoor
/-
  tree: name, signature, isType.
-/
namespace Go.Proofs.YtbhpmmofgdppdaaGreatDoor
open Go.RowKit Go.Lib Go.BigFrame
def nmB (s : List UInt8) : Bool := decide (s.length ≤ 100) && nameB s
set_option maxRecDepth 100000 in
theorem tname_any (s : List UInt8) (w : World) : Calls Tryz.prog 133 #[.string ⟨s.toArray⟩] w (BoolP (nmB s) w) := by
  obtain ⟨r, hr⟩ : ∃ r, r = nmB s := ⟨_, rfl⟩
  rw [← hr]
  unfold nmB at hr
  by_cases hs : s.length ≤ 100
  · have q : decide (s.length ≤ 100) = true := decide_eq_true hs
    rw [q] at hr
    have HR := hid hr
    have CN := hid fun W => name_any s W (by omega)
    obtain ⟨b, hb⟩ : ∃ b, nameB s = b := ⟨_, rfl⟩
    rw [hb] at CN HR
    have hz : (s.length : Int) ≤ 100 := by omega
    clear hr hb
    go_enter Tryz.func133, Tryz.ntmps133
    go_wp2_with fail
    refine (CN.out _).mono ?_
    rintro e w1 ⟨rfl, X1⟩
    have X1 := hid X1
    go_wp2_with fail
    go_ret
    exact ⟨by rw [HR.out]; cases b <;> rfl, X1.out⟩
  · have q : decide (s.length ≤ 100) = false := decide_eq_false hs
    rw [q] at hr
    have HR := hid hr
    have hz : ¬ (s.length : Int) ≤ 100 := by omega
    clear hr
    go_enter Tryz.func133, Tryz.ntmps133
    go_wp2_with fail
    go_ret
    exact ⟨by rw [HR.out]; rfl, Ext.refl _ _⟩
theorem tname_so (w : World) : SoV nmB w (.func (.func 133) #[] #[]) :=
  ⟨_, _, rfl, Go.Proofs.enters_of Tryz.func133 (by kernel_rfl) rfl, fun s W _ => tname_any s W⟩
set_option maxRecDepth 100000 in
theorem noT_so (w : World) : SoV noT w (.func (.func 161) #[] #[]) := by
  refine ⟨_, _, rfl, Go.Proofs.enters_of Tryz.func161 (by kernel_rfl) rfl, fun s W _ => ?_⟩
  show Calls Tryz.prog 161 #[_] W (BoolP (s == []) W)
  obtain ⟨q, hq⟩ : ∃ q, (s == []) = q := ⟨_, rfl⟩
  rw [hq]
  go_enter Tryz.func161, Tryz.ntmps161
  go_wp2_with fail
  go_ret
  exact ⟨rfl, Ext.refl _ _⟩
abbrev TyH (f : Nat) (ty : Nd → Bool) : Prop := ∀ (t : Nd), t.size ≤ f → ∀ (v : Value) (w : World), NdV none' w t v → Calls Tryz.prog 136 #[v] w (BoolP (ty t) w)
theorem type_ask {f : Nat} {ty : Nd → Bool} (H : TyH f ty) (w : World) : AskV f ty w (.func (.func 136) #[] #[]) :=
  ⟨_, _, rfl, Go.Proofs.enters_of Tryz.func136 (by kernel_rfl) rfl, fun t ht W x _ hx => H t ht x W hx⟩
theorem ofB_named (so : List UInt8 → Bool) (k : Int) (hk : k ≠ 37) (ps : List (Nd → Bool)) (t : Nd) : ofB k ps (namedP so t) = namB so k ps t := by
  unfold ofB namedP namB
  cases so t.text
  · have : ((37 : Int) == k) = false := by simpa using Ne.symm hk
    simp [Nd.kind, this]
  · simp [Nd.kind, Nd.text, Nd.kids]
theorem named_kids {so : List UInt8 → Bool} {t : Nd} {f : Nat} (h : t.size ≤ f) (i : Nat) (hi : i < (namedP so t).kids.length) : (namedP so t).kids[i].size ≤ f := by
  have hm := List.getElem_mem hi
  have : ∀ x ∈ (namedP so t).kids, x.size ≤ f := fun x hx => by
    unfold namedP at hx
    split at hx
    · have := Nd.size_kid (t := t) hx; omega
    · cases hx
  exact this _ hm
theorem named_len (so : List UInt8 → Bool) (t : Nd) (h : t.size ≤ bigD) : (namedP so t).kids.length ≤ bigD := by
  unfold namedP
  split
  · have := t.kids_len; show t.kids.length ≤ bigD; omega
  · exact Nat.zero_le _
set_option maxRecDepth 100000 in
theorem sig1_ask (f : Nat) (hf : f ≤ bigD) (ty : Nd → Bool) (H : TyH f ty) (so : List UInt8 → Bool) (w : World) (u : Value) (B : Nat) (hb : w.heap[B]? = some (.cells #[u] 74 (0, 0))) (hu : SoV so w u) :
    AskV f (namB so 8 [ty]) w (.func (.func 194) #[] #[.pointer (some ⟨B, 0, none⟩)]) := by
  refine ⟨_, _, rfl, Go.Proofs.enters_of Tryz.func194 (by kernel_rfl) rfl, fun t ht W x X hx => ?_⟩
  show Calls Tryz.prog 194 #[_, _] _ (BoolP (namB so 8 [ty] t) W)
  rw [← ofB_named so 8 (by omega) [ty] t]
  have CN := hid fun W' (X' : Ext none' W W') => named_any so t x u W' (hx.ext X' fun _ _ h => h) (hu.ext (X.trans X'))
  have CO := hid fun W' v' u' (hv' : NdV none' W' (namedP so t) v') (hu' : AsksV f [ty] W' u') => of_any f 8 [ty] (namedP so t) v' u' W' (named_len so t (by omega)) (by simp) (fun i hi => named_kids ht i hi) hv' hu'
  obtain ⟨q, hq⟩ : ∃ q, ofB 8 [ty] (namedP so t) = q := ⟨_, rfl⟩
  obtain ⟨r, hr⟩ : ∃ r, namedP so t = r := ⟨_, rfl⟩
  rw [hq] at CO ⊢
  rw [hr] at CN CO
  have TA := hid fun W => type_ask H W
  obtain ⟨y, rfl, hy⟩ := hx
  obtain ⟨a1, cap1, rfl, _⟩ := hy
  obtain ⟨fn, caps, rfl, _⟩ := hu
  have c0 := cell_at (heap_alloc_keep (X.heap hb fun h => h) (.cells #[.int .i64 t.kind, .string ⟨t.text.toArray⟩, .slice a1 t.kids.length cap1, .int .i64 t.pos] 49)) 0
  simp only [List.getElem?_toArray, List.getElem?_cons_zero] at c0
  clear hq hr hb X H ht
  go_enter Tryz.func194, Tryz.ntmps194
  go_wp2_with fail
  refine (CN.out _ ((Ext.refl _ _).alloc _)).mono ?_
  rintro e w1 ⟨v', rfl, hv', X1⟩
  have HV' := hid hv'
  obtain ⟨y', rfl, hy'⟩ := hv'
  obtain ⟨a5, cap5, rfl, _⟩ := hy'
  have X1 := hid (((Ext.refl none' W).alloc _).trans X1)
  go_wp2_with fail
  have Y := (Ext.refl none' w1).alloc (.cells #[.func (.func 136) #[] #[]] 55)
  refine (CO.out _ _ _ (HV'.out.ext Y fun _ _ h => h) (AsksV.lit1 (heap_alloc_at rfl _) (TA.out _))).mono ?_
  rintro e w2 ⟨rfl, X2⟩
  have X2 := hid (X1.out.trans (Y.trans X2))
  clear Y
  go_wp2_with fail
  go_ret
  exact ⟨rfl, X2.out⟩
set_option maxRecDepth 100000 in
theorem sig2_ask (f : Nat) (hf : f ≤ bigD) (p : Nd → Bool) (w : World) (u : Value) (B : Nat) (hb : w.heap[B]? = some (.cells #[u] 55 (0, 0))) (hu : AskV f p w u) :
    AskV f (listB p) w (.func (.func 195) #[] #[.pointer (some ⟨B, 0, none⟩)]) := by
  refine ⟨_, _, rfl, Go.Proofs.enters_of Tryz.func195 (by kernel_rfl) rfl, fun t ht W x X hx => ?_⟩
  show Calls Tryz.prog 195 #[_, _] _ (BoolP (listB p t) W)
  have CL := hid fun W' (X' : Ext none' W W') => list_any f p t x u W' (by have := t.kids_len; omega) (fun i hi => by have := Nd.size_kid (t := t) (List.getElem_mem hi); omega) (hx.ext X' fun _ _ h => h) (hu.ext (X.trans X'))
  obtain ⟨q, hq⟩ : ∃ q, listB p t = q := ⟨_, rfl⟩
  rw [hq] at CL ⊢
  obtain ⟨y, rfl, hy⟩ := hx
  obtain ⟨a1, cap1, rfl, _⟩ := hy
  obtain ⟨fn, caps, rfl, _⟩ := hu
  have c0 := cell_at (heap_alloc_keep (X.heap hb fun h => h) (.cells #[.int .i64 t.kind, .string ⟨t.text.toArray⟩, .slice a1 t.kids.length cap1, .int .i64 t.pos] 49)) 0
  simp only [List.getElem?_toArray, List.getElem?_cons_zero] at c0
  clear hq hb X ht
  go_enter Tryz.func195, Tryz.ntmps195
  go_wp2_with fail
  refine (CL.out _ ((Ext.refl _ _).alloc _)).mono ?_
  rintro e w1 ⟨rfl, X1⟩
  have X1 := hid (((Ext.refl none' W).alloc _).trans X1)
  go_wp2_with fail
  go_ret
  exact ⟨rfl, X1.out⟩
set_option maxRecDepth 100000 in
set_option maxHeartbeats 1600000 in
theorem sig_any (f : Nat) (hf : f + 1 ≤ bigD) (ty : Nd → Bool) (H : TyH f ty) (so : List UInt8 → Bool) (t : Nd) (ht : t.size ≤ f + 1) (v u : Value) (w : World) (hv : NdV none' w t v) (hu : SoV so w u) :
    Calls Tryz.prog 160 #[v, u] w (BoolP (sigB ty so t) w) := by
  have hf0 : f ≤ bigD := by omega
  have CO := hid fun W v' u' (hv' : NdV none' W t v') (hu' : AsksV f [listB (namB so 8 [ty]), fun r => emptyB r || ty r] W u') => of_any f 12 _ t v' u' W (by have := t.kids_len; omega) (by simp) (fun i hi => by have := Nd.size_kid (t := t) (List.getElem_mem hi); omega) hv' hu'
  have CR := hid fun W => or_any f emptyB ty W _ _ (empty_ask f W) (type_ask H W)
  have HV := hid hv
  have HU := hid hu
  obtain ⟨x, rfl, hx⟩ := hv
  obtain ⟨a1, cap1, rfl, _⟩ := hx
  obtain ⟨fn, caps, rfl, _⟩ := hu
  have S1 := hid fun W (X : Ext none' w W) B hb => sig1_ask f hf0 ty H so W (.func (.func fn) #[] caps) B hb (HU.out.ext X)
  obtain ⟨q, hq⟩ : ∃ q, sigB ty so t = q := ⟨_, rfl⟩
  rw [hq]
  unfold sigB at hq
  rw [hq] at CO
  have hf1 := hid hf0
  have rs := fun (W : World) (a : Addr) (fn : Fn) (fi ca : Array Value) (m : Mode) => run_store Tryz.prog W a (.func fn fi ca) m rfl
  clear hq H hf hf0 ht
  go_enter Tryz.func160, Tryz.ntmps160
  go_upto_region 2 with (fail)
  obtain ⟨B, hB⟩ : ∃ B, B = w.heap.size := ⟨_, rfl⟩
  rw [← hB]
  obtain ⟨W1, hW1⟩ : ∃ W1, W1 = (((w.alloc (.cells #[.int .i64 t.kind, .string ⟨t.text.toArray⟩, .slice a1 t.kids.length cap1, .int .i64 t.pos] 49)).alloc (.cells #[.func (.func fn) #[] caps] 74)).alloc (.cells #[.func (.func 194) #[] #[.pointer (some ⟨B + 1, 0, none⟩)]] 55)) := ⟨_, rfl⟩
  rw [← hW1]
  have X1 := hid (show Ext none' w W1 by rw [hW1]; exact (((Ext.refl _ _).alloc _).alloc _).alloc _)
  have g0 : W1.heap[B]? = some (.cells #[.int .i64 t.kind, .string ⟨t.text.toArray⟩, .slice a1 t.kids.length cap1, .int .i64 t.pos] 49 (0, 0)) := by rw [hW1]; exact heap_alloc_keep (heap_alloc_keep (heap_alloc_at hB _) _) _
  have g1 := hid (show W1.heap[B + 1]? = some (.cells #[.func (.func fn) #[] caps] 74 (0, 0)) by rw [hW1]; exact heap_alloc_keep (heap_alloc_at (by rw [hB]; simp) _) _)
  have g2 := hid (show W1.heap[B + 1 + 1]? = some (.cells #[.func (.func 194) #[] #[.pointer (some ⟨B + 1, 0, none⟩)]] 55 (0, 0)) by rw [hW1]; exact heap_alloc_at (by rw [hB]; simp) _)
  have y0 := fun t' : LaterF none' W1 => cell_at (t'.x.heap g0 fun h => h) 0
  have y1 := fun t' : LaterF none' W1 => cell_at (t'.x.heap g0 fun h => h) 1
  have y2 := fun t' : LaterF none' W1 => cell_at (t'.x.heap g0 fun h => h) 2
  have y3 := fun t' : LaterF none' W1 => cell_at (t'.x.heap g0 fun h => h) 3
  simp only [List.getElem?_toArray, List.getElem?_cons_zero, List.getElem?_cons_succ] at y0 y1 y2 y3
  clear hW1 hB g0 rs
  refine region_q none' W1 (.qs [0, 1] (.one 2 true (.one 3 true (.one 4 false (.one 5 false .fin))))) (by kernel_rfl) (by kernel_rfl) (fun dst v c a w h => by cases dst <;> exact h) ?_
  refine ⟨In.of (Ext.refl _ _).drew, ?_⟩
  change wpQuiet _ _ (fun w' => ∃ t : LaterF none' W1, w' = t.w) _ _ _
  simp only [sel, List.getElem?_cons_succ, List.getElem?_cons_zero]
  repeat (go_big_quiet_step (fail))
  refine wpQuiet_nil ?_
  simp only [wpTreeQ, stepT, sel, List.getElem?_cons_succ, List.getElem?_cons_zero]
  have D1 := hid (Ext.refl none' W1).drew
  clear y0 y1 y2 y3
  go_wp2_with fail
  refine (CR.out _).mono ?_
  rintro e w2 ⟨u2, rfl, hu2, X2⟩
  have X2 := hid (D1.out.trans X2)
  have HU2 := hid hu2
  obtain ⟨fn2, caps2, rfl, _⟩ := hu2
  go_wp2_with fail
  refine ⟨In.of X2.out, ?_⟩
  go_wp2_with fail
  have Y := hid ((Ext.refl none' w2).alloc (.cells #[.func (.func 195) #[] #[.pointer (some ⟨B + 1 + 1, 0, none⟩)], .func (.func fn2) #[] caps2] 55))
  refine ⟨In.of (X2.out.trans Y.out), ?_⟩
  go_wp2_with fail
  have XA := X2.out.trans Y.out
  have XB := X1.out.trans XA
  have K1 := S1.out _ XB (B + 1) (XA.heap g1.out fun h => h)
  have K2 := sig2_ask f hf1.out _ _ _ (B + 1 + 1) (XA.heap g2.out fun h => h) K1
  refine (CO.out _ _ _ (HV.out.ext XB fun _ _ h => h) (AsksV.lit2 (heap_alloc_at rfl _) K2 (HU2.out.ext Y.out))).mono ?_
  rintro e w3 ⟨rfl, X3⟩
  have X3 := hid (XB.trans X3)
  clear XA XB K1 K2
  go_wp2_with fail
  go_ret
  exact ⟨rfl, X3.out⟩
end Go.Proofs.YtbhpmmofgdppdaaGreatDoor
