import Derived.Test.YtielcpnalepkfaaDoorTokCatch
import Derived.Test.YtielcpnalepkfaaDoorTokInv
namespace Go.Proofs.YtielcpnalepkfaaDoor
open Go.RowKit Go.Lib Go.BigFrame
def runR (s : List UInt8) : ScR := match runP s s.length 0 [] [] with
  | .error k => .bad k 3
  | .ok (l, n) => .good l n
def scanR (s : List UInt8) : ScR := if 65536 < s.length then .bad 65536 12 else if 0 ≤ wrongP s then .bad (wrongP s).toNat 2 else runR s
/-- What 'scan' leaves. -/
def ScPost (s : List UInt8) (w : World) (r : ScR) (e : Ending) (w' : World) : Prop :=
  match r with
  | .bad p c => e = .returned (.tuple #[.pointer none, .int .i64 p, .int .i64 c]) ∧ Ext none' w w'
  | .good l n => ∃ base sb k, e = .returned (.tuple #[.pointer (some ⟨sb, 0, none⟩), .int .i64 0, .int .i64 0]) ∧ Ext none' w w' ∧ w.heap.size ≤ base ∧ St base sb w' s k l n
def posOf (w : World) (sb : Nat) : Nat := match w.cell? ⟨sb, 1, none⟩ with
  | some (.int _ k) => k.toNat
  | _ => 0
theorem St.pos {base sb : Nat} {w : World} {s : List UInt8} {k : Nat} {l n : List Tok} (st : St base sb w s k l n) : posOf w sb = k := by
  unfold posOf; rw [st.cells.2.1]; simp
/-- The post, and no panic. -/
def noPanic (Q : Exit → Act → World → Prop) : Exit → Act → World → Prop
  | .panic _, _, _ => False
  | e, a, w => Q e a w
theorem region_inD {P : Program} {id : Nat} {Q : Exit → Act → World → Prop} {a : Act} {w : World} {l : List Oper} (F : Nat → Prop) (w0 : World) (lA : List Nat) (lB : List (Nat × Bool)) (hm : P.follows .mixedOrders = true) (hB : mixedB l.toArray lA lB = true)
    (hC : Ext F w0 w) (h : wpQuiet P l.toArray (fun w' => ∃ t : LaterF F w0, w' = t.w) (fun a' => wpChain P l (noPanic Q) (In F w0) lB a' w.drew) (sel l lA) a) : (Code.region id l.toArray true).wp P Q a w :=
  Go.wp_mono (region_in (Q := noPanic Q) F w0 lA lB hm hB (fun _ _ _ _ _ h => h) hC h) fun e a w h => by cases e <;> first | exact h | exact h.elim
structure ScRel (base sb : Nat) (s : List UInt8) (q : Except Nat (List Tok × List Tok)) (w wr : World) (k : Nat) (l n : List Tok) (f : Nat) : Prop where
  st : St base sb wr s k l n
  le : k ≤ s.length
  inv : Inv s k l n
  hx : Ext (up base) w wr
  run : q = runP s f k l n
  fuel : s.length - k ≤ f
theorem wrF_le : ∀ (f : Nat) (s : List UInt8) (i : Nat), wrF f s i ≤ i + s.length
  | 0, _, _ => by unfold wrF; omega
  | f + 1, s, i => by
    unfold wrF
    split
    · omega
    · split
      · omega
      · rename_i h _
        have := wrF_le f (s.drop (decodeL s).2) (i + (decodeL s).2)
        have := dwle s h
        rw [List.length_drop] at *
        omega
theorem wrongP_le (s : List UInt8) : wrongP s ≤ s.length := by have := wrF_le s.length s 0; unfold wrongP wrR; omega
set_option maxHeartbeats 1600000 in
theorem scan_long (aa : Option Addr) (len cap : Nat) (w : World) (h : 65536 < len) (hm : len ≤ 9223372036854775807) :
    Calls Tryd.prog 33 #[.slice aa len cap] w fun e w' => e = .returned (.tuple #[.pointer none, .int .i64 65536, .int .i64 12]) ∧ Ext none' w w' := by
  go_enter_defers Tryd.func33, Tryd.ntmps33
  go_wp2
  simp only [bodyPostD, Leaves]
  exact ⟨.tuple #[.pointer none, .int .i64 65536, .int .i64 12], by simp [results, Tryd.results33, go_sem], rfl, (((Ext.refl _ _).alloc _).alloc _).alloc _⟩
theorem St.low {base sb : Nat} {w : World} {s : List UInt8} {k : Nat} {l n : List Tok} (st : St base sb w s k l n) {p : Addr} (hp : p.block < base) (u : Value) : St base sb (w.setCell p u) s k l n := by
  obtain ⟨vl, vn, hh, rl, rn, hne, hb⟩ := st
  have x : Ext (fun i => i = p.block) w (w.setCell p u) := Ext.setCell (F := fun i => i = p.block) (p := p) (Ext.refl _ _) (.inl rfl) u
  exact ⟨vl, vn, heap_setCell_other hh (by omega) u, ownsRow_ext rl x (fun g hg e => by have := (rl.lt g hg).1; omega), ownsRow_ext rn x (fun g hg e => by have := (rn.lt g hg).1; omega), hne, hb⟩
theorem three_cells {w : World} {B : Nat} {x y z a b c : Value} {t1 t2 t3 : TypeId} (hx : w.heap[B]? = some (.cells #[x] t1 (0, 0))) (hy : w.heap[B + 1]? = some (.cells #[y] t2 (0, 0))) (hz : w.heap[B + 1 + 1]? = some (.cells #[z] t3 (0, 0))) :
    (((w.setCell ⟨B, 0, none⟩ a).setCell ⟨B + 1, 0, none⟩ b).setCell ⟨B + 1 + 1, 0, none⟩ c).cell? ⟨B, 0, none⟩ = some a ∧
    (((w.setCell ⟨B, 0, none⟩ a).setCell ⟨B + 1, 0, none⟩ b).setCell ⟨B + 1 + 1, 0, none⟩ c).cell? ⟨B + 1, 0, none⟩ = some b ∧
    (((w.setCell ⟨B, 0, none⟩ a).setCell ⟨B + 1, 0, none⟩ b).setCell ⟨B + 1 + 1, 0, none⟩ c).cell? ⟨B + 1 + 1, 0, none⟩ = some c := by
  have h1 := heap_setCell_same hx 0 a
  have h2 := heap_setCell_other (p := ⟨B, 0, none⟩) hy (by simp) a
  have h3 := heap_setCell_other (p := ⟨B, 0, none⟩) hz (by simp only; omega) a
  have h4 := heap_setCell_other (p := ⟨B + 1, 0, none⟩) h1 (by simp) b
  have h5 := heap_setCell_same h2 0 b
  have h6 := heap_setCell_other (p := ⟨B + 1, 0, none⟩) h3 (by simp) b
  have h7 := heap_setCell_other (p := ⟨B + 1 + 1, 0, none⟩) h4 (by simp only; omega) c
  have h8 := heap_setCell_other (p := ⟨B + 1 + 1, 0, none⟩) h5 (by simp) c
  have h9 := heap_setCell_same h6 0 c
  exact ⟨by rw [cell_at h7]; rfl, by rw [cell_at h8]; rfl, by rw [cell_at h9]; rfl⟩
set_option maxRecDepth 100000 in
set_option maxHeartbeats 1600000 in
theorem scan_any (B : Nat) (s : List UInt8) (v : Value) (w : World) (hv : Bytes B w v s) (hT : Tabs w) (hm : MaxL w) (hs : s.length ≤ 65536) :
    Calls Tryd.prog 33 #[v] w (ScPost s w (scanR s)) := by
  obtain ⟨p, hp⟩ : ∃ p, p = scanR s := ⟨_, rfl⟩
  rw [← hp]
  have HP := hid hp
  clear hp
  have hcv := fun w' (h : Ext none' w w') => conv_bytes (hv.keep h) 23 5 Tryd.underlying23 Tryd.underlying5 9 Tryd.underlying9
  have HV := hid hv
  obtain ⟨aa, cap, rfl, h1, h2, h3, h4⟩ := hv
  have HM := hid hm
  have HT := hid hT
  have HCV := hid hcv
  clear h3 h4 hT hm hcv
  have hmf : ∀ (fn : Fn) (first cap : Array Value) (w : World), (Instr.makeFunc fn first cap).run Tryd.prog w = .ok (.func fn first cap) w := fun _ _ _ _ => rfl
  go_enter_defers Tryd.func33, Tryd.ntmps33
  go_wp2_with fail
  refine (wrong_any B s _ _ (HV.out.keep (((((Ext.refl none' w).alloc _).alloc _).alloc _))) (HT.out.ext (((((Ext.refl none' w).alloc _).alloc _).alloc _))) (by omega)).mono ?_
  obtain ⟨W0, hW0⟩ : ∃ W0, W0 = ((w.alloc (.cells #[.pointer none] 56)).alloc (.cells #[.int .i64 0] 3)).alloc (.cells #[.int .i64 0] 24) := ⟨_, rfl⟩
  rw [← hW0]
  rintro e W ⟨rfl, hX⟩
  have X0 : Ext none' w W0 := by rw [hW0]; exact ((((Ext.refl none' w).alloc _).alloc _).alloc _)
  have z0 : W0.heap.size = w.heap.size + 3 := by rw [hW0]; simp
  have gx0 : W0.heap[w.heap.size]? = some (.cells #[.pointer none] 56 (0, 0)) := by
    rw [hW0]; exact heap_alloc_keep (heap_alloc_keep (heap_alloc_at rfl _) _) _
  have gy0 : W0.heap[w.heap.size + 1]? = some (.cells #[.int .i64 0] 3 (0, 0)) := by
    rw [hW0]; exact heap_alloc_keep (heap_alloc_at (by simp) _) _
  have gz0 : W0.heap[w.heap.size + 1 + 1]? = some (.cells #[.int .i64 0] 24 (0, 0)) := by
    rw [hW0]; exact heap_alloc_at (by simp) _
  have gx := hX.heap gx0 (fun h => h)
  have gy := hX.heap gy0 (fun h => h)
  have gz := hX.heap gz0 (fun h => h)
  have cx := cell_at gx 0
  have cy := cell_at gy 0
  have cz := cell_at gz 0
  have fx := free_at gx 0
  have fy := free_at gy 0
  have fz := free_at gz 0
  simp only [List.getElem?_toArray, List.getElem?_cons_zero] at cx cy cz
  have G := hid (And.intro gx (And.intro gy gz))
  have HXW := hid (X0.trans hX)
  have HZ := hid (show W.heap.size ≥ w.heap.size + 3 by have := hX.size; omega)
  clear gx0 gy0 gz0 gx gy gz hX X0 z0 hW0
  have hwl : wrongP s < 1000000 := by have := wrongP_le s; omega
  by_cases hw : 0 ≤ wrongP s
  · have HP1 : Hid (p = .bad (wrongP s).toNat 2) := hid (by rw [HP.out]; unfold scanR; rw [if_neg (by omega), if_pos hw])
    obtain ⟨q, hq⟩ : ∃ q : Nat, wrongP s = q := ⟨(wrongP s).toNat, by omega⟩
    rw [hq] at HP1 hw hwl ⊢
    clear hq hw
    go_wp2_with fail
    rw [HP1.out]
    simp only [bodyPostD, Leaves]
    refine ⟨.tuple #[.pointer none, .int .i64 q, .int .i64 2], by simp [results, Tryd.results33, go_sem, cx, cy, cz], ?_, ?_⟩
    · rfl
    · exact ((HXW.out.setNew (Nat.le_refl _) 0 _).setNew (by omega) 0 _).setNew (by omega) 0 _
  · have HP1 : Hid (p = runR s) := hid (by rw [HP.out]; unfold scanR; rw [if_neg (by omega), if_neg hw])
    obtain ⟨q, hq⟩ : ∃ q : Int, wrongP s = q := ⟨_, rfl⟩
    rw [hq] at hw hwl ⊢
    have hw' : q < 0 := by omega
    clear hq hw hwl
    have hcv := HCV.out W HXW.out
    have hz3 : w.heap.size + 3 ≤ W.heap.size := HZ.out
    have fx2 : (W.alloc (.cells #[.string ⟨s.toArray⟩, .int .i64 0, .slice none 0 0, .slice none 0 0] 60)).frozen? ⟨w.heap.size, 0, none⟩ = false := free_at (heap_alloc_keep G.out.1 _) 0
    have cx2 : (W.alloc (.cells #[.string ⟨s.toArray⟩, .int .i64 0, .slice none 0 0, .slice none 0 0] 60)).cell? ⟨w.heap.size, 0, none⟩ = some (.pointer none) := by rw [cell_at (heap_alloc_keep G.out.1 _)]; rfl
    clear HP HCV
    go_wp2_with fail
    clear fx2 cx2 hz3 cx cy cz fx fy fz
    obtain ⟨B0, hB0⟩ : ∃ B0, B0 = w.heap.size := ⟨_, rfl⟩
    obtain ⟨sb, hsb⟩ : ∃ sb, sb = W.heap.size := ⟨_, rfl⟩
    rw [← hsb, ← hB0]
    obtain ⟨W1, hW1⟩ : ∃ W1, W1 = (W.alloc (.cells #[.string ⟨s.toArray⟩, .int .i64 0, .slice none 0 0, .slice none 0 0] 60)).setCell ⟨B0, 0, none⟩ (.pointer (some ⟨sb, 0, none⟩)) := ⟨_, rfl⟩
    rw [← hW1]
    have hz1 : B0 + 3 ≤ sb := by rw [hB0, hsb]; exact HZ.out
    have hsbh : W1.heap[sb]? = some (.cells #[.string ⟨s.toArray⟩, .int .i64 ((0 : Nat) : Int), .slice none 0 0, .slice none 0 0] 60 (0, 0)) := by
      rw [hW1]; exact heap_setCell_other (heap_alloc_at hsb _) (by simp only; omega) _
    have hX1 : Ext none' w W1 := by
      rw [hW1]
      exact (HXW.out.alloc _).setNew (by omega) 0 _
    rw [← hB0] at G
    have gx1 : W1.heap[B0]? = some (.cells #[.pointer (some ⟨sb, 0, none⟩)] 56 (0, 0)) := by
      rw [hW1, heap_setCell_same (heap_alloc_keep G.out.1 _)]; rfl
    have gy1 : W1.heap[B0 + 1]? = some (.cells #[.int .i64 0] 3 (0, 0)) := by
      rw [hW1]; exact heap_setCell_other (heap_alloc_keep G.out.2.1 _) (by simp) _
    have gz1 : W1.heap[B0 + 1 + 1]? = some (.cells #[.int .i64 0] 24 (0, 0)) := by
      rw [hW1]; exact heap_setCell_other (heap_alloc_keep G.out.2.2 _) (by simp only; omega) _
    have st1 : St (B0 + 3) sb W1 s 0 [] [] := ⟨_, _, hsbh, World.ownsRow_nil _ _ _ _, World.ownsRow_nil _ _ _ _, (fun g h => by cases h), hz1⟩
    have HM1 := hid (HM.out.ext hX1 (fun h => h))
    have hB2 : 2 < B0 := by rw [hB0]; exact HM.out.1
    have HX1 := hid hX1
    have GG := hid (And.intro gx1 (And.intro gy1 gz1))
    have ST1 := hid st1
    have HB0 := hid hB0
    clear hsbh hX1 gx1 gy1 gz1 hW1 hsb st1 G HM HZ HXW HV HT hcv hB0
    obtain ⟨q0, hq0⟩ : ∃ q0, q0 = runP s s.length 0 [] [] := ⟨_, rfl⟩
    have HQ0 := hid hq0
    go_loopw [] (fun wr => ∃ k l n f, ScRel (B0 + 3) sb s q0 W1 wr k l n f) (fun wr => s.length - posOf wr sb)
    case atStart => exact ⟨0, [], [], s.length, ST1.out, by omega, Inv.start s, Ext.refl _ _, hq0, by omega⟩
    case round =>
      clear hq0
      obtain ⟨k, l, n, f, R⟩ := hrel
      have GR := hid (And.intro (R.hx.heap GG.out.1 (by unfold up; omega)) (And.intro (R.hx.heap GG.out.2.1 (by unfold up; omega)) (R.hx.heap GG.out.2.2 (by unfold up; omega))))
      have ce : ∀ t : LaterF none' wr, t.w.cell? ⟨B0, 0, none⟩ = some (.pointer (some ⟨sb, 0, none⟩)) := fun t => by
        rw [cell_at (t.x.heap GR.out.1 (fun h => h))]; rfl
      have c0 : ∀ t : LaterF none' wr, t.w.cell? ⟨sb, 0, none⟩ = some (.string ⟨s.toArray⟩) := fun t => (R.st.keepE t.x).cells.1
      have c1 : ∀ t : LaterF none' wr, t.w.cell? ⟨sb, 1, none⟩ = some (.int .i64 k) := fun t => (R.st.keepE t.x).cells.2.1
      have RR := hid R
      have hle := R.le
      clear R
      go_wp2_with fail
      refine region_inD none' wr [0, 1, 2, 3, 4, 5, 6, 7, 8, 9] [] (by kernel_rfl) (by kernel_rfl) (Ext.refl _ _) ?_
      simp only [sel, List.getElem?_cons_succ, List.getElem?_cons_zero]
      repeat (go_big_quiet_step (fail))
      refine wpQuiet_nil ?_
      simp only [wpChain, noPanic]
      have ce2 := ce ⟨wr.drew, (Ext.refl _ _).drew⟩
      simp only at ce2
      clear ce c0 c1
      have ST2 := hid (RR.out.st.keepE ((Ext.refl none' wr).drew))
      by_cases hk : k < s.length
      · have I := RR.out.inv
        have CN := hid (next_any (B0 + 3) sb k s l n wr.drew ST2.out hk (by omega) (by have := I.ll; omega) (by have := I.nl; omega) (HM1.out.ext (RR.out.hx.drew) (by unfold up; omega)) (by omega) I.good (fun t ht => by have := I.short t ht; omega))
        have hst := runP_step (l := l) (n := n) hk RR.out.fuel
        have HST := hid (RR.out.run.trans hst)
        have HI := hid I
        clear I hst
        go_wp2_with fail
        refine CN.out.mono ?_
        intro e W2 hN
        have HN := hid hN
        clear hN CN
        cases hsp : stepP s k l n with
        | none =>
          rw [hsp] at HN HST
          have hq : runR s = .bad k 3 := by unfold runR; rw [← HQ0.out, HST.out]
          have HPP := hid (HP1.out.trans hq)
          obtain ⟨rfl, hX⟩ := HN.out
          have X2 := hid (RR.out.hx.drew.trans hX)
          have GX := X2.out.heap GG.out.1 (by unfold up; omega)
          have GY := X2.out.heap GG.out.2.1 (by unfold up; omega)
          have GZ := X2.out.heap GG.out.2.2 (by unfold up; omega)
          have HG := hid (And.intro GX (And.intro GY GZ))
          clear hX HN hsp hq GX GY GZ
          go_wp2_with fail
          refine leaves_cons (f := 44) (args := #[.pointer (some ⟨B0, 0, none⟩), .pointer (some ⟨B0 + 1, 0, none⟩), .pointer (some ⟨B0 + 1 + 1, 0, none⟩)]) (by simp) (by simp [go_sem]) ?_
          refine (catch_panic B0 (B0 + 1) (B0 + 1 + 1) k _ _ _ W2 HG.out.1 HG.out.2.1 HG.out.2.2 (by omega) (by omega) (by omega)).mono ?_
          rintro e u' w'' ⟨rfl, rfl, _, _, w1, x1, rfl⟩
          have hx1 := x1.heap HG.out.1 (fun h => h)
          have hy1 := x1.heap HG.out.2.1 (fun h => h)
          have hz1 := x1.heap HG.out.2.2 (fun h => h)
          obtain ⟨cx, cy, cz⟩ := three_cells (a := .pointer none) (b := .int .i64 k) (c := .int .i64 3) hx1 hy1 hz1
          have hE : Ext none' w (((w1.setCell ⟨B0, 0, none⟩ (.pointer none)).setCell ⟨B0 + 1, 0, none⟩ (.int .i64 k)).setCell ⟨B0 + 1 + 1, 0, none⟩ (.int .i64 3)) := by
            have h0 : Ext none' w w1 := (HX1.out.trans' X2.out (fun i hi h => by have := HB0.out; unfold up at h; omega)).trans x1
            have hb := HB0.out
            exact ((h0.setNew (by omega) 0 _).setNew (by omega) 0 _).setNew (by omega) 0 _
          simp only [Leaves, settle, List.dropWhile]
          rw [HPP.out]
          refine ⟨.tuple #[.pointer none, .int .i64 k, .int .i64 3], by simp [results, Tryd.results33, go_sem, cx, cy, cz], rfl, hE⟩
        | some x =>
          obtain ⟨k', l', n'⟩ := x
          rw [hsp] at HN HST
          obtain ⟨rfl, hS, hX⟩ := HN.out
          have hI := HI.out.step hsp
          have hle2 := stepP_le hsp
          have R2 := hid (ScRel.mk (base := B0 + 3) (sb := sb) (s := s) (q := q0) (w := W1) (wr := W2) (k := k') (l := l') (n := n') (f := f - 1) hS hle2.2 hI (RR.out.hx.drew.trans hX) HST.out (by have := RR.out.fuel; omega))
          have hpos := hid (And.intro (R2.out.st.pos) (RR.out.st.pos))
          clear hX HN hsp hS hI
          go_wp2_with fail
          refine ⟨⟨_, _, _, _, R2.out⟩, ?_⟩
          rw [hpos.out.1, hpos.out.2]
          omega
      · obtain rfl : k = s.length := by omega
        have hst := HQ0.out.symm.trans (RR.out.run.trans (runP_end (Nat.le_refl _)))
        have hq : runR s = .good (lineP l s.length) n := by unfold runR; rw [hst]
        have HPP := hid (HP1.out.trans hq)
        have I := RR.out.inv
        have hll : l.length ≤ 800000 := by have := I.ll; omega
        have HGd := hid I.good
        have HSh := hid I.short
        clear hst hq I
        go_wp2_with fail
        obtain ⟨W3, hW3⟩ : ∃ W3, W3 = wr.drew := ⟨_, rfl⟩
        rw [← hW3] at ST2 ⊢
        have X3 : Ext (up (B0 + 3)) W1 W3 := by rw [hW3]; exact RR.out.hx.drew
        have g3 := X3.heap GG.out.1 (by unfold up; omega)
        have ce : ∀ t : LaterF none' W3, t.w.cell? ⟨B0, 0, none⟩ = some (.pointer (some ⟨sb, 0, none⟩)) := fun t => by
          rw [cell_at (t.x.heap g3 (fun h => h))]; rfl
        have c0 : ∀ t : LaterF none' W3, t.w.cell? ⟨sb, 0, none⟩ = some (.string ⟨s.toArray⟩) := fun t => (ST2.out.keepE t.x).cells.1
        have HX3 := hid X3
        clear g3 X3 hW3 ce2
        refine region_inD none' W3 [0, 1, 2, 3, 4, 5] [(6, false)] (by kernel_rfl) (by kernel_rfl) (Ext.refl _ _) ?_
        simp only [sel, List.getElem?_cons_succ, List.getElem?_cons_zero]
        repeat (go_big_quiet_step (fail))
        refine wpQuiet_nil ?_
        simp only [wpChain, sel, List.getElem?_cons_succ, List.getElem?_cons_zero]
        have CL := hid (line_any (B0 + 3) sb s.length s.length s l n W3.drew (ST2.out.keepE (Ext.refl none' W3).drew) (by omega) (HM1.out.ext HX3.out.drew (by unfold up; omega)) HGd.out (fun t ht => by have := HSh.out t ht; omega))
        clear ce c0
        go_wp2_with fail
        refine CL.out.mono ?_
        rintro e W4 ⟨rfl, st4, x4⟩
        have X4 := HX3.out.drew.trans x4
        have gx := X4.heap GG.out.1 (by unfold up; omega)
        have gy := X4.heap GG.out.2.1 (by unfold up; omega)
        have gz := X4.heap GG.out.2.2 (by unfold up; omega)
        have cx := cell_at gx 0
        have cy := cell_at gy 0
        have cz := cell_at gz 0
        have fx := free_at gx 0
        have fy := free_at gy 0
        have fz := free_at gz 0
        simp only [List.getElem?_toArray, List.getElem?_cons_zero] at cx cy cz
        have HX4 := hid X4
        have HG := hid (And.intro gx (And.intro gy gz))
        have ST4 := hid st4
        clear gx gy gz X4 st4 x4 CL
        go_wp2_with fail
        simp only [noPanic]
        go_wp2_with fail
        refine leaves_cons (f := 44) (args := #[.pointer (some ⟨B0, 0, none⟩), .pointer (some ⟨B0 + 1, 0, none⟩), .pointer (some ⟨B0 + 1 + 1, 0, none⟩)]) (by simp) (by simp [go_sem]) ?_
        refine (catch_idle _ _ _ _).mono ?_
        rintro e u' w'' ⟨rfl, rfl, rfl⟩
        obtain ⟨dx, dy, dz⟩ := three_cells (a := .pointer (some ⟨sb, 0, none⟩)) (b := .int .i64 0) (c := .int .i64 0) HG.out.1 HG.out.2.1 HG.out.2.2
        have h0 : Ext none' w W4 := HX1.out.trans' HX4.out (fun i hi h => by have := HB0.out; unfold up at h; omega)
        have hE : Ext none' w (((W4.setCell ⟨B0, 0, none⟩ (.pointer (some ⟨sb, 0, none⟩))).setCell ⟨B0 + 1, 0, none⟩ (.int .i64 0)).setCell ⟨B0 + 1 + 1, 0, none⟩ (.int .i64 0)) := by
          have hb := HB0.out
          exact ((h0.setNew (by omega) 0 _).setNew (by omega) 0 _).setNew (by omega) 0 _
        have hS : St (B0 + 3) sb (((W4.setCell ⟨B0, 0, none⟩ (.pointer (some ⟨sb, 0, none⟩))).setCell ⟨B0 + 1, 0, none⟩ (.int .i64 0)).setCell ⟨B0 + 1 + 1, 0, none⟩ (.int .i64 0)) s s.length (lineP l s.length) n :=
          ((ST4.out.low (by simp only; omega) _).low (by simp only; omega) _).low (by simp only; omega) _
        simp only [Leaves, settle]
        rw [HPP.out]
        exact ⟨.tuple #[.pointer (some ⟨sb, 0, none⟩), .int .i64 0, .int .i64 0], by simp [results, Tryd.results33, go_sem, dx, dy, dz], B0 + 3, sb, s.length, rfl, hE, by have := HB0.out; omega, hS⟩
end Go.Proofs.YtielcpnalepkfaaDoor
