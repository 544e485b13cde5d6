/-
  Layer 1 (place), for the layers above: where bytes cease to be a text, by the program and by the reference; nothing else of the layer.
-/
import Derived.Test.YtielcpnalepkfaaDoorKit
import Derived.Test.YtielcpnalepkfaaDoorPlaceSign
import Derived.Test.YtielcpnalepkfaaDoorDec
namespace Go.Proofs.YtielcpnalepkfaaDoor
open Go.RowKit Go.Lib
def IntPost (z : Int) (w : World) (e : Ending) (w' : World) : Prop := e = .returned (.int .i64 z) ∧ Ext none' w w'
theorem decode_drop (s : List UInt8) (pos : Nat) : Utf8.decode ⟨s.toArray⟩ pos = decodeL (s.drop pos) := (decodeL_drop ⟨s.toArray⟩ pos).symm
theorem drop_ne {s : List UInt8} {pos : Nat} (h : pos < s.length) : s.drop pos ≠ [] := by
  intro e
  have := congrArg List.length e
  rw [List.length_drop] at this
  simp at this
  omega
def signL (s : List UInt8) : Int × Int := if decodeL s = (65533, 1) then (1, -1) else (((decodeL s).2 : Int), ((decodeL s).1 : Int))
theorem sign_bytes (B : Nat) (s : List UInt8) (v : Value) (k : Nat) (w : World) (hv : Bytes B w v s) (hk : k < s.length) (hs : s.length ≤ 1000000) :
    Calls Tryd.prog 41 #[v, .int .i64 k] w (RetPair (signL (s.drop k)) w) := by
  have hne : s ≠ [] := by intro e; subst e; simp at hk
  obtain ⟨aa, cap, rfl, h1, h2, h3, h4⟩ := hv
  obtain ⟨b, off, rfl, _, _, hc⟩ := h4 hne
  have gd : ∀ j, j < s.length → w.cell? ⟨b, off + j, none⟩ = some (.int .u8 (((s.getD j 0).toNat : Nat) : Int)) := fun j hj => by
    rw [hc j hj]; simp [List.getD, hj]
  have hlt : ∀ j, (s.getD j 0).toNat < 256 := fun j => UInt8.toNat_lt _
  refine sign_core b off s.length cap k (s.getD k 0).toNat (s.getD (k + 1) 0).toNat (s.getD (k + 2) 0).toNat (s.getD (k + 3) 0).toNat w _ ?_ (by omega) hk (hlt _) (hlt _) (hlt _) (hlt _) (gd _ hk) (gd _) (gd _) (gd _)
  refine hid ?_
  rw [sgn_eq _ _ _ _ _ (hlt _) (hlt _) (hlt _) (by omega) (hlt _)]
  unfold signL signN
  rw [decodeL_N, List.length_drop, getD_dropU, getD_dropU, getD_dropU, getD_dropU, Nat.add_zero]
theorem signL_10 (s : List UInt8) : (signL s).2 = 10 ↔ (decodeL s).1 = 10 := by
  unfold signL
  split
  · rename_i h; rw [h]; simp
  · simp only; omega
theorem signL_w (s : List UInt8) : (signL s).1 = (decodeL s).2 := by
  unfold signL
  split
  · rename_i h; rw [h]; simp
  · rfl
/-! ### plain -/
def halts (d : Nat × Nat) (i : Nat) : Prop := d.1 = 0 ∨ d = (65533, 1) ∨ (d.1 = 65279 ∧ 0 < i)
instance (d : Nat × Nat) (i : Nat) : Decidable (halts d i) := by unfold halts; infer_instance
def wrF : Nat → List UInt8 → Nat → Int
  | 0, _, _ => -1
  | f + 1, s, i => if s = [] then -1 else if halts (decodeL s) i then i else wrF f (s.drop (decodeL s).2) (i + (decodeL s).2)
theorem wrF_nil (f i : Nat) : wrF f [] i = -1 := by cases f <;> simp [wrF]
theorem wrF_fuel : ∀ (f g : Nat) (s : List UInt8) (i : Nat), s.length ≤ f → s.length ≤ g → wrF f s i = wrF g s i
  | 0, g, s, i, h, _ => by
    have : s = [] := List.eq_nil_of_length_eq_zero (by omega)
    subst this; rw [wrF_nil, wrF_nil]
  | f + 1, 0, s, i, _, h => by
    have : s = [] := List.eq_nil_of_length_eq_zero (by omega)
    subst this; rw [wrF_nil, wrF_nil]
  | f + 1, g + 1, s, i, hf, hg => by
    by_cases hs : s = []
    · subst hs; rw [wrF_nil, wrF_nil]
    · have h1 := dw1 s
      have hl : 0 < s.length := List.length_pos_iff.2 hs
      have e : (s.drop (decodeL s).2).length ≤ f ∧ (s.drop (decodeL s).2).length ≤ g := by rw [List.length_drop]; omega
      simp only [wrF, if_neg hs]
      rw [wrF_fuel f g _ _ e.1 e.2]
/-- Where the bytes cease to be a text, from place i on. -/
def wrR (s : List UInt8) (i : Nat) : Int := wrF s.length s i
theorem wrR_nil (i : Nat) : wrR [] i = -1 := wrF_nil _ _
theorem wrR_step (s : List UInt8) (i : Nat) (h : s ≠ []) : wrR s i = if halts (decodeL s) i then (i : Int) else wrR (s.drop (decodeL s).2) (i + (decodeL s).2) := by
  have h1 := dw1 s
  have hl : 0 < s.length := List.length_pos_iff.2 h
  obtain ⟨f, hf⟩ : ∃ f, s.length = f + 1 := ⟨s.length - 1, by omega⟩
  have e : (s.drop (decodeL s).2).length ≤ f := by rw [List.length_drop]; omega
  unfold wrR
  rw [hf]
  simp only [wrF, if_neg h]
  rw [wrF_fuel f _ _ _ e (Nat.le_refl _)]
def wrongP (s : List UInt8) : Int := wrR s 0
theorem signL_stop (s : List UInt8) (i : Nat) : ((signL s).2 ≤ 0 ∨ ((signL s).2 = 65279 ∧ 0 < i)) ↔ halts (decodeL s) i := by
  unfold signL halts
  split
  · rename_i h; rw [h]; simp
  · rename_i h
    simp only [h, false_or]
    omega

/-! ### the reference -/
def RetInt (z : Int) (w : World) (e : Ending) (w' : World) : Prop := e = .returned (.int .i64 z) ∧ w = w'
set_option maxRecDepth 100000 in
set_option maxHeartbeats 800000 in
theorem ref_wrong (B : Nat) (s : List UInt8) (v : Value) (w : World) (hv : Bytes B w v s) (hs : s.length ≤ 1000000) :
    Calls Tryd.prog 31 #[v] w (RetInt (wrongP s) w) := by
  obtain ⟨p, hp⟩ : ∃ p, p = wrongP s := ⟨_, rfl⟩
  rw [← hp]
  have HP := hid hp
  clear hp
  have HV := hid hv
  obtain ⟨aa, cap, rfl, h1, h2, h3, h4⟩ := hv
  clear h3 h4
  go_enter Tryd.func31, Tryd.ntmps31
  go_wp2_with fail
  go_loop [3] (fun z => ∃ (pos : Nat), z = .int .i64 pos ∧ pos ≤ s.length ∧ Hid (p = wrR (s.drop pos) pos)) (fun z => s.length - (RowKit.intOf z).toNat)
  case atStart => exact ⟨0, rfl, by omega, HP⟩
  case round =>
    obtain ⟨pos, rfl, hle, HF⟩ := hrel
    by_cases hsz : pos < s.length
    · have hw := signL_w (s.drop pos)
      have hst := signL_stop (s.drop pos) pos
      have w1 := dw1 (s.drop pos)
      have w2 := dwle (s.drop pos) (drop_ne hsz)
      rw [List.length_drop] at w2
      have C := hid (sign_bytes B s (.slice aa s.length cap) pos w HV.out hsz hs)
      have hstep := wrR_step (s.drop pos) pos (drop_ne hsz)
      rw [List.drop_drop] at hstep
      obtain ⟨d, hd⟩ : ∃ d, decodeL (s.drop pos) = d := ⟨_, rfl⟩
      rw [hd] at hw hst w1 w2 hstep
      obtain ⟨q1, q2, hq⟩ : ∃ q1 q2, signL (s.drop pos) = (q1, q2) := ⟨_, _, rfl⟩
      rw [hq] at hw hst C
      simp only at hw hst
      subst hw
      have HS := hid hstep
      have HT := hid hst
      clear hd hq hstep hst
      by_cases e : q2 ≤ 0 ∨ (q2 = 65279 ∧ 0 < pos)
      · have HE : Hid (p = pos) := hid (by rw [HF.out, HS.out, if_pos (HT.out.1 e)])
        rcases e with e | ⟨e, e'⟩
        · go_wp2_with (go_at_call 41; refine C.out.mono ?_; rintro e w1 ⟨rfl, rfl⟩)
          go_ret
          exact ⟨by rw [HE.out]; rfl, rfl⟩
        · have a1 : ¬ q2 ≤ 0 := by omega
          have a2 : (0 : Int) < pos := by omega
          subst e
          go_wp2_with (go_at_call 41; refine C.out.mono ?_; rintro e w1 ⟨rfl, rfl⟩)
          go_ret
          exact ⟨by rw [HE.out]; rfl, rfl⟩
      · have HE : Hid (p = wrR (s.drop (pos + d.2)) (pos + d.2)) := hid (by rw [HF.out, HS.out, if_neg (fun h => e (HT.out.2 h))])
        have a1 : ¬ q2 ≤ 0 := by omega
        by_cases e2 : q2 = 65279
        · have a2 : ¬ (0 : Int) < pos := by omega
          subst e2
          go_wp2_with (go_at_call 41; refine C.out.mono ?_; rintro e w1 ⟨rfl, rfl⟩)
          go_round
          case rel => exact ⟨pos + d.2, by go_num, by omega, HE⟩
          case measure => simp [RowKit.intOf]; omega
        · have a2 : (q2 == 65279) = false := by simp [e2]
          have E := hid e
          have E2 := hid e2
          clear e e2
          go_wp2_with (go_at_call 41; refine C.out.mono ?_; rintro e w1 ⟨rfl, rfl⟩)
          go_round
          case rel => exact ⟨pos + d.2, by go_num, by omega, HE⟩
          case measure => simp [RowKit.intOf]; omega
    · have hpl : pos = s.length := by omega
      have e : p = -1 := by rw [HF.out, hpl, List.drop_length, wrR_nil]
      have E := hid e
      clear e
      go_wp2
      go_ret
      exact ⟨by rw [E.out]; rfl, rfl⟩

/-! ### the program -/
def Tabs (w : World) : Prop := Lib.Utf8Tabs 0 1 w
theorem Tabs.ext {w w' : World} (h : Tabs w) (hx : Ext none' w w') : Tabs w' := Utf8Tabs_below h (hx.below (Nat.le_refl _) fun _ _ x => x)
def DecPost (d : Nat × Nat) (w : World) (e : Ending) (w' : World) : Prop := e = .returned (.tuple #[.int .i32 d.1, .int .i64 d.2]) ∧ Ext none' w w'
theorem dec_any (b o n cap : Nat) (s : List UInt8) (w : World) (hT : Tabs w) (hn : n = s.length) (hs : s ≠ []) (hc : ∀ j (h : j < s.length), w.cell? ⟨b, o + j, none⟩ = some (.int .u8 ((s[j].toNat : Nat) : Int))) :
    Calls Tryd.prog 34 #[.slice (some ⟨b, o, none⟩) n cap] w (DecPost (decodeL s) w) := by
  subst hn
  have C := Any7.utf8_DecodeRune (P := Tryd.prog) (ρ := Tryd.laysDec_ren) Tryd.laysDec ⟨s.toArray⟩ b o cap w hT (fun j hj => by
    rw [bsize] at hj
    rw [hc j hj]
    show _ = some (Value.int .u8 ((s.toArray[j]!).toNat : Nat))
    simp [hj])
  rw [bsize] at C
  have e : Lib.decodeGo ⟨s.toArray⟩ = decodeL s := by
    have : s.length ≠ 0 := fun h => hs (List.eq_nil_of_length_eq_zero h)
    unfold Lib.decodeGo decodeL
    rw [if_neg (by rw [bsize]; exact this)]
  rw [e] at C
  exact C.mono fun e w' h => ⟨h.1, Ext.of_below h.2⟩
structure WrRel (B : Nat) (s : List UInt8) (p : Int) (w wr : World) (pos : Nat) : Prop where
  le : pos ≤ s.length
  hit : wr.heap[B]? = some (.stringIter ⟨s.toArray⟩ pos)
  hx : Ext none' w wr
  hf : p = wrR (s.drop pos) pos
theorem WrRel.next {B : Nat} {s : List UInt8} {p : Int} {w wr w1 : World} {pos : Nat} {d : Nat × Nat} (w2 : 1 ≤ d.2 ∧ d.2 ≤ s.length - pos) (HS : Hid (p = if halts d pos then (pos : Int) else wrR (s.drop (pos + d.2)) (pos + d.2)))
    (hh : ¬ halts d pos) (H3 : Hid (w1.heap[B]? = some (.stringIter ⟨s.toArray⟩ (pos + d.2)))) (X2 : Hid (Ext none' w w1)) (hit : Hid (wr.iterPos B = pos)) :
    (∃ pos, WrRel B s p w w1 pos) ∧ s.length - w1.iterPos B < s.length - wr.iterPos B := by
  have e : p = wrR (s.drop (pos + d.2)) (pos + d.2) := by rw [HS.out, if_neg hh]
  refine ⟨⟨pos + d.2, by omega, H3.out, X2.out, e⟩, ?_⟩
  rw [iterPos_of H3.out, hit.out]
  omega
set_option maxRecDepth 100000 in
set_option maxHeartbeats 1600000 in
theorem wrong_any (B : Nat) (s : List UInt8) (v : Value) (w : World) (hv : Bytes B w v s) (hT : Tabs w) (hs : s.length ≤ 1000000) :
    Calls Tryd.prog 25 #[v] w (IntPost (wrongP s) w) := by
  obtain ⟨p, hp⟩ : ∃ p, p = wrongP s := ⟨_, rfl⟩
  rw [← hp]
  have HP := hid hp
  clear hp
  have hcv := conv_bytes hv 23 5 Tryd.underlying23 Tryd.underlying5 9 Tryd.underlying9
  have HV := hid hv
  obtain ⟨aa, cap, rfl, h1, h2, h3, h4⟩ := hv
  have H4 := hid h4
  have HT := hid hT
  clear h3 h4 hT
  go_enter Tryd.func25, Tryd.ntmps25
  go_wp2_with fail
  go_loopw [] (fun wr => ∃ pos, WrRel w.heap.size s p w wr pos) (fun wr => s.length - wr.iterPos w.heap.size)
  case atStart =>
    refine ⟨0, ⟨by omega, ?_, ?_, HP.out⟩⟩
    · exact heap_alloc_at rfl _
    · exact (Ext.refl _ _).alloc _
  case round =>
    obtain ⟨pos, R⟩ := hrel
    have hle := R.le
    by_cases hp : pos < s.length
    · obtain ⟨d, hd⟩ : ∃ d, Utf8.decode ⟨s.toArray⟩ pos = d := ⟨_, rfl⟩
      have hnx : ∀ ty, (Instr.next (.pointer (some ⟨w.heap.size, 0, none⟩)) true ty).run Tryd.prog wr = .ok (.tuple #[.bool true, .int .i64 pos, .int .i32 d.1]) (wr.iterAt w.heap.size ⟨s.toArray⟩ (pos + d.2)) :=
        fun ty => by rw [← hd]; exact run_next_any_at wr w.heap.size ⟨s.toArray⟩ pos ty R.hit (by rw [bsize]; exact hp)
      have Hd := hid ((decode_drop s pos).symm.trans hd)
      clear hd
      have hne : s ≠ [] := by intro e; subst e; simp at hp
      obtain ⟨b, off, rfl, hbB, hbw, hcell⟩ := H4.out hne
      have hit := hid (iterPos_of R.hit)
      have RR := hid R
      clear R
      have hit2 : (wr.iterAt w.heap.size ⟨s.toArray⟩ (pos + d.2)).heap[w.heap.size]? = some (.stringIter ⟨s.toArray⟩ (pos + d.2)) := iterAt_heap _ _ _ _ _ RR.out.hit
      have X1 : Ext none' w (wr.iterAt w.heap.size ⟨s.toArray⟩ (pos + d.2)) := RR.out.hx.iterAt (.inr (Nat.le_refl _)) _ _
      have hds : s.drop pos ≠ [] := drop_ne hp
      have C : Hid (∀ cap', Calls Tryd.prog 34 #[.slice (some ⟨b, off + pos, none⟩) (s.length - pos) cap'] (wr.iterAt w.heap.size ⟨s.toArray⟩ (pos + d.2)) (DecPost d (wr.iterAt w.heap.size ⟨s.toArray⟩ (pos + d.2)))) := hid fun cap' => by
        have hdec := dec_any b (off + pos) (s.length - pos) cap' (s.drop pos) (wr.iterAt w.heap.size ⟨s.toArray⟩ (pos + d.2))
        rw [Hd.out] at hdec
        refine hdec (HT.out.ext X1) (by rw [List.length_drop]) hds fun j hj => ?_
        rw [List.length_drop] at hj
        rw [X1.cell (p := ⟨b, off + pos + j, none⟩) hbw (fun h => h), Nat.add_assoc, hcell (pos + j) (by omega)]
        simp
      have HX1 := hid X1
      have H2 := hid hit2
      have w1' := dw1 (s.drop pos)
      have w2 := dwle (s.drop pos) hds
      rw [List.length_drop] at w2
      have hstep := wrR_step (s.drop pos) pos hds
      rw [List.drop_drop, Hd.out] at hstep
      rw [Hd.out] at w1' w2
      have HS := hid hstep
      clear X1 hit2 hds hstep hcell
      have HS' : Hid (p = if halts d pos then (pos : Int) else wrR (s.drop (pos + d.2)) (pos + d.2)) := hid (RR.out.hf.trans HS.out)
      go_wp2_with (go_at_call 34; refine (C.out _).mono ?_; rintro e w1 ⟨rfl, X2'⟩; have H3 := hid (X2'.heap H2.out (fun h => h)); have X2 := hid (HX1.out.trans X2'); clear X2')
      · have g : ((d.1 : Int) == 0) = true := by assumption
        have g' : (d.1 : Int) = 0 := eq_of_beq g
        have hh : halts d pos := .inl (by omega)
        have e : p = pos := by rw [HS'.out, if_pos hh]
        go_ret
        exact ⟨by rw [e]; rfl, X2.out⟩
      · have g : (d.1 : Int) = 65533 := by assumption
        have k : ((d.2 : Int) == 1) = true := by assumption
        have k' : (d.2 : Int) = 1 := eq_of_beq k
        have hh : halts d pos := .inr (.inl (Prod.ext (show d.1 = 65533 by omega) (show d.2 = 1 by omega)))
        have e : p = pos := by rw [HS'.out, if_pos hh]
        go_ret
        exact ⟨by rw [e]; rfl, X2.out⟩
      · have g : (d.1 : Int) = 65533 := by assumption
        have k : ((d.2 : Int) == 1) = false := by assumption
        have hh : ¬ halts d pos := by
          rintro (x | x | x)
          · omega
          · rw [x] at k; simp at k
          · omega
        exact WrRel.next ⟨w1', w2⟩ HS' hh H3 X2 hit
      · have g : (d.1 : Int) = 65279 := by assumption
        have k : 0 < pos := by assumption
        have hh : halts d pos := .inr (.inr ⟨by omega, k⟩)
        have e : p = pos := by rw [HS'.out, if_pos hh]
        go_ret
        exact ⟨by rw [e]; rfl, X2.out⟩
      · have g : (d.1 : Int) = 65279 := by assumption
        have k : ¬ 0 < pos := by assumption
        have hh : ¬ halts d pos := by
          rintro (x | x | x)
          · omega
          · rw [x] at g; simp at g
          · omega
        exact WrRel.next ⟨w1', w2⟩ HS' hh H3 X2 hit
      · have g0 : ((d.1 : Int) == 0) = false := by assumption
        have g1 : ¬ (d.1 : Int) = 65533 := by assumption
        have g2 : ¬ (d.1 : Int) = 65279 := by assumption
        have hh : ¬ halts d pos := by
          rintro (x | x | x)
          · rw [x] at g0; simp at g0
          · rw [x] at g1; simp at g1
          · omega
        exact WrRel.next ⟨w1', w2⟩ HS' hh H3 X2 hit
    · have hnx : ∀ ty, (Instr.next (.pointer (some ⟨w.heap.size, 0, none⟩)) true ty).run Tryd.prog wr = _ := fun ty => run_next_end_at wr w.heap.size ⟨s.toArray⟩ pos ty R.hit (by rw [bsize]; exact hp)
      have RR := hid R
      clear R
      have hpl : pos = s.length := by omega
      have e : p = -1 := by rw [RR.out.hf, hpl, List.drop_length, wrR_nil]
      have E := hid e
      clear e
      go_wp2
      go_ret
      exact ⟨by rw [E.out]; rfl, RR.out.hx⟩
end Go.Proofs.YtielcpnalepkfaaDoor
