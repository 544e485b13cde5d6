import Derived.Test.YtokjnalmjdighaaDoorTokWhile
namespace Go.Proofs.YtokjnalmjdighaaDoor
open Go.RowKit Go.Lib Go.BigFrame
theorem let_high {b : Nat} (h : 128 ≤ b) : letterB b = false ∧ figB b = false := by
  unfold letterB figB
  constructor <;> simp <;> omega
theorem let_head (c : UInt8) (t : List UInt8) : letterB (decodeL (c :: t)).1 = letterB c.toNat ∧ figB (decodeL (c :: t)).1 = figB c.toNat := by
  rw [decodeL_N]
  simp only [List.getD_cons_zero]
  by_cases h : c.toNat < 128
  · rw [decodeN_low _ _ _ _ _ h]; exact ⟨rfl, rfl⟩
  · have h1 := decodeN_ge (c :: t).length c.toNat ((c :: t).getD 1 0).toNat ((c :: t).getD 2 0).toNat ((c :: t).getD 3 0).toNat (by omega)
    have h2 := let_high h1
    have h3 := let_high (b := c.toNat) (by omega)
    exact ⟨by rw [h2.1, h3.1], by rw [h2.2, h3.2]⟩
theorem let_fig0 {c : Nat} (h : letterB c = true) : figB c = false := by
  unfold letterB at h; unfold figB
  simp at h ⊢
  omega
/-- What 'Name' keeps. -/
structure NmRel (b : Nat) (s : List UInt8) (w wr : World) (pos : Nat) : Prop where
  le : pos ≤ s.length
  hit : wr.heap[b]? = some (.stringIter ⟨s.toArray⟩ pos)
  hx : Ext none' w wr
  hall : ∀ c ∈ s.take pos, idB c = true
  hd : 0 < pos → ∀ c t, s = c :: t → figB c.toNat = false
theorem nameB_no {s : List UInt8} {pos : Nat} (h : pos < s.length) (hn : idB s[pos] = false) : nameB s = false := by
  cases s with
  | nil => simp at h
  | cons c t =>
    unfold nameB
    have : (c :: t).all idB = false := by
      rw [List.all_eq_false]
      exact ⟨_, List.getElem_mem h, by rw [hn]; simp⟩
    rw [this]; simp
theorem nameB_fig {c : UInt8} {t : List UInt8} (h : figB c.toNat = true) : nameB (c :: t) = false := by
  show (!figB c.toNat && wordK (c :: t) == 0 && (c :: t).all idB) = false
  rw [h]; simp
theorem nameB_end {s : List UInt8} (hne : s ≠ []) (hall : ∀ c ∈ s, idB c = true) (hd : ∀ c t, s = c :: t → figB c.toNat = false) : nameB s = (wordK s == 0) := by
  cases s with
  | nil => exact absurd rfl hne
  | cons c t =>
    show (!figB c.toNat && wordK (c :: t) == 0 && (c :: t).all idB) = _
    rw [hd c t rfl]
    have : (c :: t).all idB = true := List.all_eq_true.2 hall
    rw [this]; simp
set_option maxHeartbeats 1600000 in
theorem name_any (s : List UInt8) (w : World) (hs : s.length ≤ 1000000) : Calls Tryd.prog 15 #[.string ⟨s.toArray⟩] w (BoolPost (nameB s) w) := by
  obtain ⟨p, hp⟩ : ∃ p, p = nameB s := ⟨_, rfl⟩
  rw [← hp]
  have HP := hid hp
  clear hp
  go_enter Tryd.func15, Tryd.ntmps15
  go_wp2_with fail
  go_loopw [] (fun wr => ∃ pos, NmRel w.heap.size s w wr pos) (fun wr => s.length - wr.iterPos w.heap.size)
  case atStart =>
    refine ⟨0, ⟨by omega, ?_, ?_, by simp, by omega⟩⟩
    · exact heap_alloc_at rfl _
    · exact (Ext.refl _ _).alloc _
  case round =>
    obtain ⟨pos, R⟩ := hrel
    have hle := R.le
    by_cases hp : pos < s.length
    · obtain ⟨d, hd⟩ : ∃ d, Utf8.decode ⟨s.toArray⟩ pos = d := ⟨_, rfl⟩
      have hnx : ∀ ty, (Instr.next (.pointer (some ⟨w.heap.size, 0, none⟩)) true ty).run Tryd.prog wr = .ok (.tuple #[.bool true, .int .i64 pos, .int .i32 d.1]) (wr.iterAt w.heap.size ⟨s.toArray⟩ (pos + d.2)) :=
        fun ty => by rw [← hd]; exact run_next_any_at wr w.heap.size ⟨s.toArray⟩ pos ty R.hit (by rw [bsize]; exact hp)
      have Hd := hid ((decode_dropL s pos).symm.trans hd)
      clear hd
      have hdr : s.drop pos = s[pos] :: s.drop (pos + 1) := List.drop_eq_getElem_cons hp
      have hlh := let_head s[pos] (s.drop (pos + 1))
      have hid' := id_head s[pos] (s.drop (pos + 1))
      rw [← hdr, Hd.out] at hlh hid'
      have X1 : Ext none' w (wr.iterAt w.heap.size ⟨s.toArray⟩ (pos + d.2)) := R.hx.iterAt (.inr (Nat.le_refl _)) _ _
      have hit2 : (wr.iterAt w.heap.size ⟨s.toArray⟩ (pos + d.2)).heap[w.heap.size]? = some (.stringIter ⟨s.toArray⟩ (pos + d.2)) := iterAt_heap _ _ _ _ _ R.hit
      have hit := hid (iterPos_of R.hit)
      obtain ⟨d1, d2⟩ := d
      simp only at hlh hid' hnx X1 hit2 Hd
      have NX : Hid (idB s[pos] = true → (0 < pos ∨ figB s[pos].toNat = false) → (∃ ps, NmRel w.heap.size s w (wr.iterAt w.heap.size ⟨s.toArray⟩ (pos + d2)) ps) ∧ s.length - (wr.iterAt w.heap.size ⟨s.toArray⟩ (pos + d2)).iterPos w.heap.size < s.length - wr.iterPos w.heap.size) := hid fun hi h0 => by
        have e2 := hid'.2 hi
        subst e2
        refine ⟨⟨pos + 1, ⟨by omega, hit2, X1, ?_, ?_⟩⟩, by rw [iterPos_of hit2, hit.out]; omega⟩
        · intro c hc
          rw [List.take_add_one, List.getElem?_eq_getElem hp] at hc
          simp only [Option.toList_some, List.mem_append, List.mem_singleton] at hc
          rcases hc with hc | rfl
          · exact R.hall c hc
          · exact hi
        · intro _ c t hst
          rcases h0 with h0 | h0
          · exact R.hd h0 c t hst
          · by_cases hz : 0 < pos
            · exact R.hd hz c t hst
            · have : pos = 0 := by omega
              subst this
              subst hst
              exact h0
      have NO : Hid (idB s[pos] = false → p = false) := hid fun hn => by rw [HP.out]; exact nameB_no hp hn
      have NF : Hid (pos = 0 → figB s[pos].toNat = true → p = false) := hid fun hz hf => by
        subst hz
        rw [HP.out]
        cases s with
        | nil => simp at hp
        | cons c t => exact nameB_fig hf
      have LW := hid (letter_any d1 (wr.iterAt w.heap.size ⟨s.toArray⟩ (pos + d2)))
      have FW := hid (figure_any d1 (wr.iterAt w.heap.size ⟨s.toArray⟩ (pos + d2)))
      have HX1 := hid X1
      have hidb : idB s[pos] = (letterB s[pos].toNat || figB s[pos].toNat) := rfl
      obtain ⟨lb, hlb⟩ : ∃ b, letterB s[pos].toNat = b := ⟨_, rfl⟩
      obtain ⟨fb, hfb⟩ : ∃ b, figB s[pos].toNat = b := ⟨_, rfl⟩
      have hlf : lb = true → fb = false := fun h => by rw [← hfb]; exact let_fig0 (hlb.trans h)
      rw [hlh.1, hlb] at LW
      rw [hlh.2, hfb] at FW
      rw [hlb, hfb] at hidb
      rw [hidb, hfb] at NX
      rw [hidb] at NO
      rw [hfb] at NF
      clear hlh hid' hlb hfb hidb X1 hit2 hdr R
      cases lb with
      | true =>
        have hf0 := hlf rfl
        subst hf0
        have N := hid (NX.out rfl (.inr rfl))
        clear NX NO NF hlf FW
        go_wp2_with (go_at_call 27; refine LW.out.mono ?_; rintro e w1 ⟨rfl, rfl⟩)
        exact N.out
      | false =>
        clear hlf
        by_cases hz : pos = 0
        · have hp0 : Hid (p = false) := hid (by
            cases fb
            · exact NO.out rfl
            · exact NF.out hz rfl)
          have e0 : ((pos : Int) == 0) = true := by simp [hz]
          clear NX NO NF hz
          go_wp2_with (go_at_call 27; refine LW.out.mono ?_; rintro e w1 ⟨rfl, rfl⟩)
          go_ret
          exact ⟨by rw [hp0.out]; rfl, HX1.out⟩
        · have e0 : ((pos : Int) == 0) = false := by simp [hz]
          have hz' : 0 < pos := by omega
          cases fb with
          | true =>
            have N := hid (NX.out rfl (.inl hz'))
            clear NX NO NF hz hz'
            go_wp2_with (first | (go_at_call 27; refine LW.out.mono ?_; rintro e w1 ⟨rfl, rfl⟩) | (go_at_call 28; refine FW.out.mono ?_; rintro e w1 ⟨rfl, rfl⟩))
            exact N.out
          | false =>
            have hp0 := hid (NO.out rfl)
            clear NX NO NF hz hz'
            go_wp2_with (first | (go_at_call 27; refine LW.out.mono ?_; rintro e w1 ⟨rfl, rfl⟩) | (go_at_call 28; refine FW.out.mono ?_; rintro e w1 ⟨rfl, rfl⟩))
            go_ret
            exact ⟨by rw [hp0.out]; rfl, HX1.out⟩
    · have hnx : ∀ ty, (Instr.next (.pointer (some ⟨w.heap.size, 0, none⟩)) true ty).run Tryd.prog wr = _ := fun ty => run_next_end_at wr w.heap.size ⟨s.toArray⟩ pos ty R.hit (by rw [bsize]; exact hp)
      have RR := hid R
      clear R
      by_cases hs0 : s = []
      · have hp0 : Hid (p = false) := hid (by rw [HP.out, hs0]; rfl)
        subst hs0
        go_wp2_with fail
        go_ret
        exact ⟨by rw [hp0.out]; rfl, RR.out.hx⟩
      · have hpl : pos = s.length := by omega
        have hpe : Hid (p = (wordK s == 0)) := hid (by
          rw [HP.out]
          exact nameB_end hs0 (fun c hc => RR.out.hall c (by rw [hpl, List.take_length]; exact hc)) (RR.out.hd (by have := List.length_pos_iff.2 hs0; omega)))
        have hsb : (s == []) = false := by simpa using hs0
        have WW := hid (word_any s wr)
        obtain ⟨k, hk⟩ : ∃ k, wordK s = k := ⟨_, rfl⟩
        rw [hk] at WW hpe
        clear hk hpl
        go_wp2_with (go_at_call 17; refine WW.out.mono ?_; rintro e w1 ⟨rfl, rfl⟩)
        go_ret
        refine ⟨?_, RR.out.hx⟩
        rw [hpe.out]
        congr 2
        simp
        rw [Bool.eq_iff_iff, beq_iff_eq, beq_iff_eq]
        omega
end Go.Proofs.YtokjnalmjdighaaDoor
