import Derived.Test.YthoeengfgkfchaaSeAwake
import Derived.Test.YthoeengfgkfchaaSeOfP
import Derived.Test.YthoeengfgkfchaaRegionQ
import Derived.Test.YthoeengfgkfchaaNdSize
import Derived.Deep.Cut
import Derived.Deep.CutRange
/-
  sets.union: the constraint of terms.
-/
namespace Go.Proofs.Ythoeengfgkfchaa
open Go.RowKit Go.Lib Go.BigFrame
def PairPost (A : Nat → Prop) (w : World) (p : Cn × Bool) (e : Ending) (w' : World) : Prop := ∃ u, e = .returned (.tuple #[u, .bool p.2]) ∧ CnV A w' p.1 u ∧ Ext none' w w'
structure URel (nc : Array Value) (l : List Nd) (B : Nat) (w wr : World) (v : Value) (i : Nat) : Prop where
  g0 : wr.heap[B]? = some (.cells nc 59 (0, 0))
  g1 : wr.heap[B + 1]? = some (.cells #[.bool false, .bool false, .slice none 0 0] 45 (0, 0))
  g2 : wr.heap[B + 1 + 1]? = some (.cells #[.bool false, .bool false, v] 45 (0, 0))
  row : wr.ownsRow (B + 3) 50 2 v i (tmVals ((l.take i).map termN))
  hx : Ext none' w wr
  ok : ∀ x ∈ l.take i, termB x = true
set_option maxRecDepth 100000 in
set_option maxHeartbeats 6400000 in
theorem union_any (n : Nd) (hl : n.kids.length ≤ 1000000) (A : Nat → Prop) (v : Value) (w : World) (hv : NdV none' w n v) (hA : ∀ b, A b → b < w.heap.size) : Calls Try.prog 32 #[v] w (PairPost A w (pairU n.kids)) := by
  obtain ⟨x, rfl, hx⟩ := hv
  have HX := hid hx
  obtain ⟨a, cap, rfl, _⟩ := hx
  obtain ⟨P, hP⟩ : ∃ P, P = pairU n.kids := ⟨_, rfl⟩
  rw [← hP]
  have HP := hid hP
  clear hP
  obtain ⟨nk, nt, l, np⟩ := n
  simp only [Nd.kids, Nd.kind, Nd.text, Nd.pos] at HX hl HP ⊢
  obtain ⟨i0, hi0, hz0, hz1, hz2⟩ := info_parts infoTm
  have I0 := hid hi0
  have I1 := hid hz0
  have I2 := hid hz1
  have I3 := hid hz2
  have BA := hid fun W => basics_any W
  have HA := hid hA
  obtain ⟨B, hB⟩ : ∃ B, B = w.heap.size := ⟨_, rfl⟩
  have HB := hid hB
  clear hi0 hz0 hz1 hz2 hB hA
  go_enter Try.func32, Try.ntmps32
  go_wp2_with fail
  rw [← HB.out]
  go_loopw [10] (fun z wr => ∃ (i : Nat) (v : Value), z = .int .i64 (i : Nat) ∧ i ≤ l.length ∧ Hid (URel #[.int .i64 nk, .string ⟨nt.toArray⟩, .slice a l.length cap, .int .i64 np] l B w wr v i)) (fun z _ => l.length - (RowKit.intOf z).toNat)
  case atStart =>
    have hB := HB.out
    exact ⟨0, .slice none 0 0, rfl, by omega, hid ⟨heap_alloc_keep (heap_alloc_keep (heap_alloc_at hB _) _) _, heap_alloc_keep (heap_alloc_at (by rw [hB]; simp) _) _, heap_alloc_at (by rw [hB]; simp) _, World.ownsRow_nil _ _ _ _, (((Ext.refl _ _).alloc _).alloc _).alloc _, fun x hx => by simp at hx⟩⟩
  case round =>
    obtain ⟨i, v, rfl, hle, R⟩ := hrel
    have hsh := own_slice R.out.row
    obtain ⟨a1, cap1, rfl⟩ := hsh
    by_cases hi : i < l.length
    · obtain ⟨b, off, cs, rfl, _, hbw, hcc, hnd⟩ := (HX.out.ext isNd_good R.out.hx fun _ _ h => h.elim).at i hi
      obtain ⟨xv, rfl, hxk⟩ := hnd.parts
      have c0 := hcc 0 _ rfl
      have c1 := hcc 1 _ rfl
      have c2 := hcc 2 _ rfl
      have c3 := hcc 3 _ rfl
      simp only [Nat.add_zero] at c0
      have HXK := hid hxk
      obtain ⟨a2, cap2, rfl, _⟩ := hxk
      have htk : l.take (i + 1) = l.take i ++ [l[i]] := by rw [List.take_add_one, List.getElem?_eq_getElem hi]; rfl
      have HTK := hid htk
      have HBADP := hid fun h => pairU_bad (l := l) (i := i) hi h
      obtain ⟨x, hx⟩ : ∃ x, l[i] = x := ⟨_, rfl⟩
      rw [hx] at c0 c1 c2 c3 HXK HTK HBADP
      clear hcc hnd htk hx
      go_upto_region 5 with (fail)
      obtain ⟨W1, hW1⟩ : ∃ W1, W1 = wr.alloc (.cells #[.int .i64 x.kind, .string ⟨x.text.toArray⟩, .slice a2 x.kids.length cap2, .int .i64 x.pos] 59) := ⟨_, rfl⟩
      have X1 : Hid (Ext none' wr W1) := hid (by rw [hW1]; exact (Ext.refl _ _).alloc _)
      have G1 : Hid (W1.heap[wr.heap.size]? = some (.cells #[.int .i64 x.kind, .string ⟨x.text.toArray⟩, .slice a2 x.kids.length cap2, .int .i64 x.pos] 59)) := hid (by rw [hW1]; exact heap_alloc_at rfl _)
      rw [← hW1]
      clear hW1 c0 c1 c2 c3
      obtain ⟨T, hT⟩ : ∃ T, wr.heap.size = T := ⟨_, rfl⟩
      rw [hT] at G1 ⊢
      clear hT
      have HKX : Hid (IsSl 4 IsNd none' W1 (.slice a2 x.kids.length cap2) x.kids) := hid (HXK.out.ext isNd_good X1.out fun _ _ h => h.elim)
      go_cut [49] from 11 to 49 (fun q wx => q = .bool (!termB x) ∧ Hid (Ext none' W1 wx))
      case first =>
        by_cases h1 : x.kind = 15
        · have q1 : (x.kind != 15) = false := by simpa using h1
          by_cases h2 : x.kids.length = 1
          · have q2 : ((x.kids.length : Int) != 1) = false := by simp only [bne_eq_false_iff_eq]; omega
            have q2' : (x.kids.length != 1) = false := by simpa using h2
            obtain ⟨kb, koff, kcs, rfl, _, hkw, hkc, hkn⟩ := HKX.out.at 0 (by omega)
            obtain ⟨kv, rfl, hkk⟩ := hkn.parts
            obtain ⟨a5, cap5, rfl, _⟩ := hkk
            have hkc := hid hkc
            have y0 := fun t' : LaterF none' W1 => (t'.x.cell (p := ⟨kb, koff, none⟩) hkw (fun h => h)).trans (by simpa using hkc.out 0 _ rfl)
            have y1 := fun t' : LaterF none' W1 => (t'.x.cell (p := ⟨kb, koff + 1, none⟩) hkw (fun h => h)).trans (by simpa using hkc.out 1 _ rfl)
            have y2 := fun t' : LaterF none' W1 => (t'.x.cell (p := ⟨kb, koff + 2, none⟩) hkw (fun h => h)).trans (by simpa using hkc.out 2 _ rfl)
            have hkid : x.kids[0] = kidN x := by unfold kidN; rw [List.headD_eq_head?_getD, List.head?_eq_getElem?, List.getElem?_eq_getElem (by omega)]; rfl
            rw [hkid] at y0 y1 y2
            obtain ⟨kd, hkd⟩ : ∃ kd, kidN x = kd := ⟨_, rfl⟩
            rw [hkd] at y0 y1 y2
            rw [hkid, hkd] at hkc
            have HKD := hid hkd
            clear hkid hkd hkn
            have k0 := fun t' : LaterF none' W1 => cell_at (t'.x.heap G1.out (fun h => h)) 0
            have k2 := fun t' : LaterF none' W1 => cell_at (t'.x.heap G1.out (fun h => h)) 2
            simp only [List.getElem?_toArray, List.getElem?_cons_zero, List.getElem?_cons_succ] at k0 k2
            rw [h2] at k2
            by_cases h3 : kd.kind = 10
            · have q3 : (kd.kind != 10) = false := by simpa using h3
              by_cases h4 : kd.kids.length = 0
              · have q4 : decide (0 < (kd.kids.length : Int)) = false := decide_eq_false (by omega)
                have z1 : ¬ 0 < kd.kids.length := by omega
                have HTB : Hid (termB x = basicB kd.text) := hid (by unfold termB; rw [HKD.out]; simp [h1, h2, h3, h4])
                refine region_tree none' W1 [0, 1, 2, 3, 4, 5, 6, 7, 8, 9, 10, 11, 12, 13, 14, 15, 16, 17, 18, 19, 20, 21, 22, 23, 24, 25, 26, 28, 29, 30, 31, 32] (.one 27 true (.one 33 false (.one 34 false (.one 35 false .fin)))) (by kernel_rfl) (by kernel_rfl) (fun dst v c a w h => by cases dst <;> exact h) (Ext.refl _ _) ?_
                simp only [sel, List.getElem?_cons_succ, List.getElem?_cons_zero]
                repeat (go_big_quiet_step (fail))
                refine wpQuiet_nil ?_
                simp only [wpTree, stepT, sel, List.getElem?_cons_succ, List.getElem?_cons_zero]
                clear k0 k2 y0 y1 y2
                go_wp2_with fail
                refine (BA.out _).mono ?_
                rintro e w1 ⟨r, rfl, hr, X2⟩
                have hlk := look_basics kd.text hr
                have X2 := hid ((Ext.refl none' W1).drew.trans X2)
                clear hr
                go_wp2_with fail
                refine ⟨In.of X2.out, ?_⟩
                go_wp2_with fail
                go_meet
                case rel => exact ⟨by rw [HTB.out], X2⟩
              · have q4 : decide (0 < (kd.kids.length : Int)) = true := decide_eq_true (by omega)
                have z1 : 0 < kd.kids.length := by omega
                have HTB : Hid (termB x = false) := hid (by unfold termB; rw [HKD.out]; simp [h4])
                refine region_tree none' W1 [0, 1, 2, 3, 4, 5, 6, 7, 8, 9, 10, 11, 12, 13, 14, 15, 16, 17, 18, 19, 20, 21, 22, 23, 24, 25, 26, 28, 29, 30, 31, 32] (.one 27 true (.one 33 false (.one 34 false (.one 35 false .fin)))) (by kernel_rfl) (by kernel_rfl) (fun dst v c a w h => by cases dst <;> exact h) (Ext.refl _ _) ?_
                simp only [sel, List.getElem?_cons_succ, List.getElem?_cons_zero]
                repeat (go_big_quiet_step (fail))
                refine wpQuiet_nil ?_
                simp only [wpTree, stepT, sel, List.getElem?_cons_succ, List.getElem?_cons_zero]
                clear k0 k2 y0 y1 y2
                go_wp2_with fail
                refine ⟨In.of (Ext.refl none' W1).drew, ?_⟩
                go_wp2_with fail
                go_meet
                case rel => exact ⟨by rw [HTB.out]; rfl, hid (Ext.refl none' W1).drew⟩
            · have q3 : (kd.kind != 10) = true := by simpa using h3
              have HTB : Hid (termB x = false) := hid (by unfold termB; rw [HKD.out]; simp [h3])
              refine region_tree none' W1 [0, 1, 2, 3, 4, 5, 6, 7, 8, 9, 10, 11, 12, 13, 14, 15, 16, 17, 18, 19, 20, 21, 22, 23, 24, 25, 26, 28, 29, 30, 31, 32] (.one 27 true (.one 33 false (.one 34 false (.one 35 false .fin)))) (by kernel_rfl) (by kernel_rfl) (fun dst v c a w h => by cases dst <;> exact h) (Ext.refl _ _) ?_
              simp only [sel, List.getElem?_cons_succ, List.getElem?_cons_zero]
              repeat (go_big_quiet_step (fail))
              refine wpQuiet_nil ?_
              simp only [wpTree, stepT, sel, List.getElem?_cons_succ, List.getElem?_cons_zero]
              clear k0 k2 y0 y1 y2
              go_wp2_with fail
              refine ⟨In.of (Ext.refl none' W1).drew, ?_⟩
              go_wp2_with fail
              go_meet
              case rel => exact ⟨by rw [HTB.out]; rfl, hid (Ext.refl none' W1).drew⟩
          · have q2 : ((x.kids.length : Int) != 1) = true := by simp only [bne_iff_ne]; omega
            have q2' : (x.kids.length != 1) = true := by simpa using h2
            have HTB : Hid (termB x = false) := hid (by unfold termB; simp [h2])
            have k0 := fun t' : LaterF none' W1 => cell_at (t'.x.heap G1.out (fun h => h)) 0
            have k2 := fun t' : LaterF none' W1 => cell_at (t'.x.heap G1.out (fun h => h)) 2
            simp only [List.getElem?_toArray, List.getElem?_cons_zero, List.getElem?_cons_succ] at k0 k2
            refine region_tree none' W1 [0, 1, 2, 3, 4, 5, 6, 7, 8, 9, 10, 11, 12, 13, 14, 15, 16, 17, 18, 19, 20, 21, 22, 23, 24, 25, 26, 28, 29, 30, 31, 32] (.one 27 true (.one 33 false (.one 34 false (.one 35 false .fin)))) (by kernel_rfl) (by kernel_rfl) (fun dst v c a w h => by cases dst <;> exact h) (Ext.refl _ _) ?_
            simp only [sel, List.getElem?_cons_succ, List.getElem?_cons_zero]
            repeat (go_big_quiet_step (fail))
            refine wpQuiet_nil ?_
            simp only [wpTree, stepT, sel, List.getElem?_cons_succ, List.getElem?_cons_zero]
            clear k0 k2
            go_wp2_with fail
            refine ⟨In.of (Ext.refl none' W1).drew, ?_⟩
            go_wp2_with fail
            go_meet
            case rel => exact ⟨by rw [HTB.out]; rfl, hid (Ext.refl none' W1).drew⟩
        · have q1 : (x.kind != 15) = true := by simpa using h1
          have HTB : Hid (termB x = false) := hid (by unfold termB; simp [h1])
          have k0 := fun t' : LaterF none' W1 => cell_at (t'.x.heap G1.out (fun h => h)) 0
          have k2 := fun t' : LaterF none' W1 => cell_at (t'.x.heap G1.out (fun h => h)) 2
          simp only [List.getElem?_toArray, List.getElem?_cons_zero, List.getElem?_cons_succ] at k0 k2
          refine region_tree none' W1 [0, 1, 2, 3, 4, 5, 6, 7, 8, 9, 10, 11, 12, 13, 14, 15, 16, 17, 18, 19, 20, 21, 22, 23, 24, 25, 26, 28, 29, 30, 31, 32] (.one 27 true (.one 33 false (.one 34 false (.one 35 false .fin)))) (by kernel_rfl) (by kernel_rfl) (fun dst v c a w h => by cases dst <;> exact h) (Ext.refl _ _) ?_
          simp only [sel, List.getElem?_cons_succ, List.getElem?_cons_zero]
          repeat (go_big_quiet_step (fail))
          refine wpQuiet_nil ?_
          simp only [wpTree, stepT, sel, List.getElem?_cons_succ, List.getElem?_cons_zero]
          clear k0 k2
          go_wp2_with fail
          refine ⟨In.of (Ext.refl none' W1).drew, ?_⟩
          go_wp2_with fail
          go_meet
          case rel => exact ⟨by rw [HTB.out]; rfl, hid (Ext.refl none' W1).drew⟩
      obtain ⟨rfl, XC⟩ := hcut
      have X13 := hid (X1.out.trans XC.out)
      have XW := hid (R.out.hx.trans X13.out)
      cases htb : termB x with
      | false =>
        have HPE : Hid (P = (cn0, false)) := hid (by rw [HP.out]; exact HBADP.out htb)
        have g1 := X13.out.heap R.out.g1 (fun h => h)
        have f0 := free_at g1 0
        have f1 := free_at g1 1
        have f2 := free_at g1 2
        have e0 := cell_at g1 0
        have e1 := cell_at g1 1
        have e2 := cell_at g1 2
        simp only [List.getElem?_toArray, List.getElem?_cons_zero, List.getElem?_cons_succ] at e0 e1 e2
        have G1' := hid g1
        clear g1 htb
        go_wp2_with fail
        refine ret_cn2 rfl rfl (set3 G1'.out _ _ _) rfl rfl ?_
        rw [HPE.out]
        exact ⟨_, rfl, ⟨.slice none 0 0, rfl, IsSl.nil _ _ _ _⟩, XW.out.set3 (b := B + 1) (.inr (by have := HB.out; omega)) _ _ _⟩
      | true =>
        have hone : x.kids.length = 1 := by unfold termB at htb; simp only [Bool.and_eq_true, decide_eq_true_eq] at htb; exact htb.1.1.1.2
        have HONE := hid hone
        have HTB := hid htb
        obtain ⟨kb, koff, kcs, rfl, _, hkw, hkc, hkn⟩ := (HKX.out.ext isNd_good XC.out fun _ _ h => h.elim).at 0 (by omega)
        obtain ⟨kv, rfl, hkk⟩ := hkn.parts
        have hkid : x.kids[0] = kidN x := by unfold kidN; rw [List.headD_eq_head?_getD, List.head?_eq_getElem?, List.getElem?_eq_getElem (by omega)]; rfl
        rw [hkid] at hkc
        have hkc := hid hkc
        have GX := hid (XC.out.heap G1.out (fun h => h))
        have y1 := fun t' : LaterF none' wc => (t'.x.cell (p := ⟨kb, koff + 1, none⟩) hkw (fun h => h)).trans (by simpa using hkc.out 1 _ rfl)
        have k1 := fun t' : LaterF none' wc => cell_at (t'.x.heap GX.out (fun h => h)) 1
        have k2 := fun t' : LaterF none' wc => cell_at (t'.x.heap GX.out (fun h => h)) 2
        have r5 := fun t' : LaterF none' wc => cell_at ((X13.out.trans t'.x).heap R.out.g2 (fun h => h)) 2
        simp only [List.getElem?_toArray, List.getElem?_cons_zero, List.getElem?_cons_succ] at k1 k2 r5
        rw [hone] at k2
        have R0 := hid (X13.out.heap R.out.g0 (fun h => h))
        have R1 := hid (X13.out.heap R.out.g1 (fun h => h))
        have R2 := hid (X13.out.heap R.out.g2 (fun h => h))
        obtain ⟨tt, htt⟩ : ∃ tt, (x.text == nTil) = tt := ⟨_, rfl⟩
        obtain ⟨tn, htn⟩ : ∃ tn, (kidN x).text = tn := ⟨_, rfl⟩
        rw [htn] at y1
        have HTE : Hid (termN x = ⟨tt, tn⟩) := hid (by unfold termN; rw [htt, htn])
        have htt' : (x.text == [126]) = tt := htt
        clear hkk hkn hkid hone htb htn htt
        have O2 := hid (ownsRow_ext R.out.row (X13.out.trans ((Ext.refl none' wc).alloc (.cells #[.bool tt, .string ⟨tn.toArray⟩] 50)).drew) (fun _ _ h => h))
        have S2 : Hid (Src Try.prog 2 43 (.slice (some ⟨wc.heap.size, 0, none⟩) 1 1) 1 [.bool tt, .string ⟨tn.toArray⟩] (wc.alloc (.cells #[.bool tt, .string ⟨tn.toArray⟩] 50)).drew) := hid (two_src (P := Try.prog) Try.underlying43 wc.drew (.bool tt) (.string ⟨tn.toArray⟩) 50 rfl rfl)
        go_upto_region 7 with (fail)
        refine region_tree none' wc [0, 1, 2, 3, 4, 5, 6, 7, 8, 9, 10] (.one 11 true (.one 12 false (.one 13 false (.one 14 false .fin)))) (by kernel_rfl) (by kernel_rfl) (fun dst v c a w h => by cases dst <;> exact h) (Ext.refl _ _) ?_
        simp only [sel, List.getElem?_cons_succ, List.getElem?_cons_zero]
        repeat (go_big_quiet_step (fail))
        refine wpQuiet_nil ?_
        simp only [wpTree, stepT, sel, List.getElem?_cons_succ, List.getElem?_cons_zero]
        clear y1 k1 k2 r5
        go_wp2_with fail
        have XD : Hid (Ext none' wc (wc.alloc (.cells #[.bool tt, .string ⟨tn.toArray⟩] 50)).drew) := hid ((Ext.refl none' wc).alloc _).drew
        refine ⟨In.of XD.out, ?_⟩
        go_wp2_with (at_builtin; refine wpList_app _ rfl (.tmp 52) (.tmp 62) 43 43 rfl (B + 3) 50 i0 _ 2 24 Try.underlying43 I0.out I1.out I2.out I3.out rfl _ i (tmVals ((l.take i).map termN)) rfl O2.out _ 1 _ rfl S2.out ?_ ?_ ?_ ?_)
        · unfold maxLen; omega
        · omega
        · have h1 := heap_lt R2.out
          have h2 := XD.out.size
          omega
        intro v3 w3 own3 grow3 blk3 _
        obtain ⟨a3, cap3, rfl⟩ := own_slice own3
        have hlt := fun g hg => (O2.out.lt g hg).1
        have X3 : Ext (fun k => Value.ownBlock (.slice a1 i cap1) = some k) wc w3 := (XD.out.mono fun _ _ h => h.elim).grown grow3 (fun g hg => .inl hg)
        have nB : ∀ k, k < B + 3 → ¬ (Value.ownBlock (.slice a1 i cap1) = some k) := fun k hk h => by have := hlt k h; omega
        have g0 := X3.heap R0.out (nB _ (by omega))
        have g1 := X3.heap R1.out (nB _ (by omega))
        have g2 := X3.heap R2.out (nB _ (by omega))
        have e2 := cell_at g2 2
        have f2 := free_at g2 2
        simp only [List.getElem?_toArray, List.getElem?_cons_zero, List.getElem?_cons_succ] at e2
        have hB3 : Hid (∀ g, Value.ownBlock (.slice a3 (i + 1) cap3) = some g → B + 3 ≤ g) := hid fun g hg => (own3.lt g hg).1
        have XS : Ext (one (B + 1 + 1)) w3 (w3.setCell ⟨B + 1 + 1, 2, none⟩ (.slice a3 (i + 1) cap3)) := (Ext.refl _ _).set 2 _
        have N : Hid (URel #[.int .i64 nk, .string ⟨nt.toArray⟩, .slice (some ⟨b, off, none⟩) l.length cap, .int .i64 np] l B w (w3.setCell ⟨B + 1 + 1, 2, none⟩ (.slice a3 (i + 1) cap3)) (.slice a3 (i + 1) cap3) (i + 1)) := hid
          ⟨XS.heap g0 (by unfold one; omega), XS.heap g1 (by unfold one; omega), heap_setCell_same g2 2 _, by
            have := ownsRow_ext own3 XS (fun g hg h => by have h1 := hB3.out g hg; have h2 : g = B + 1 + 1 := h; omega)
            rw [HTK.out, List.map_append, List.map_cons, List.map_nil, HTE.out, tmVals_snoc, List.map_take]
            exact this, ((XW.out.trans XD.out).grown grow3 (fun g hg => .inr (by have := hlt g hg; have := HB.out; omega))).setNew (by have := HB.out; omega) 2 _, fun y hy => by
            rw [HTK.out] at hy
            rcases List.mem_append.1 hy with hy | hy
            · exact R.out.ok y hy
            · rw [List.mem_singleton] at hy; subst hy; exact HTB.out⟩
        clear own3 grow3 blk3 X3 XS g0 g1 g2 nB hlt
        go_wp2_with fail
        go_roundw
        case rel => exact ⟨i + 1, _, by go_num, by omega, N⟩
        case measure => simp [RowKit.intOf]; omega
    · obtain rfl : i = l.length := by omega
      have hok := R.out.ok
      rw [List.take_length] at hok
      have HPE : Hid (P = (⟨false, false, l.map termN⟩, decide (0 < l.length))) := hid (by rw [HP.out]; exact pairU_good hok)
      have c0 := fun t' : LaterF (one (B + 1)) wr => cell_at (t'.x.heap R.out.g2 (by unfold one; omega)) 0
      have c1 := fun t' : LaterF (one (B + 1)) wr => cell_at (t'.x.heap R.out.g2 (by unfold one; omega)) 1
      have c2 := fun t' : LaterF (one (B + 1)) wr => cell_at (t'.x.heap R.out.g2 (by unfold one; omega)) 2
      simp only [List.getElem?_toArray, List.getElem?_cons_zero, List.getElem?_cons_succ] at c0 c1 c2
      have hrow := R.out.row
      rw [List.take_length] at hrow
      have HS := hid ((tm_row (A := and1 A (B + 1)) (l := l.map termN) (by simpa using hrow)).sl isTm_good (fun b hb h => h.elim (fun h => by have := HA.out b h; have := HB.out; omega) fun h => by omega))
      clear hok hrow
      go_upto_region 9 with (fail)
      refine region_q (one (B + 1)) wr (.qs [0, 1, 2, 3] (.two 4 true (.one 5 true (.one 6 false .fin)) 5 true (.one 4 true (.one 6 false .fin)))) (by kernel_rfl) (by kernel_rfl) (fun dst v c a w h => by cases dst <;> exact h) ?_
      refine ⟨In.of (Ext.refl _ _).drew, ?_⟩
      change wpQuiet _ _ (fun w' => ∃ t : LaterF (one (B + 1)) wr, w' = t.w) _ _ _
      simp only [sel, List.getElem?_cons_succ, List.getElem?_cons_zero]
      repeat (go_big_quiet_step (fail))
      refine wpQuiet_nil ?_
      simp only [wpTreeQ, stepT, sel, List.getElem?_cons_succ, List.getElem?_cons_zero]
      clear c0 c1 c2
      have g1 := R.out.g1
      have f0 := free_at g1 0
      have f1 := free_at g1 1
      have f2 := free_at g1 2
      have e0 := cell_at g1 0
      have e1 := cell_at g1 1
      have e2 := cell_at g1 2
      simp only [List.getElem?_toArray, List.getElem?_cons_zero, List.getElem?_cons_succ] at e0 e1 e2
      have G1' := hid g1
      clear g1
      have XS : Hid (Ext (one (B + 1)) wr (((wr.drew.setCell ⟨B + 1, 0, none⟩ (.bool false)).setCell ⟨B + 1, 1, none⟩ (.bool false)).setCell ⟨B + 1, 2, none⟩ (.slice a1 l.length cap1))) := hid ((Ext.refl (one (B + 1)) wr).drew.set3 (.inl (show one (B + 1) (B + 1) from rfl)) _ _ _)
      refine ⟨?_, ?_⟩
      · go_wp2_with fail
        refine ⟨In.of (Ext.refl _ _).drew, ?_⟩
        go_wp2_with fail
        refine ⟨In.of XS.out, ?_⟩
        go_wp2_with fail
        refine ret_cn2 rfl rfl (set3 G1'.out _ _ _) rfl rfl ?_
        rw [HPE.out]
        refine ⟨_, ?_, ⟨_, rfl, (HS.out.ext isTm_good XS.out fun _ _ h => .inr h).mono isTm_good fun _ _ h => .inl h⟩, (R.out.hx.trans (Ext.refl none' wr).drew).set3 (b := B + 1) (.inr (by have := HB.out; omega)) _ _ _⟩
        simp
      · go_wp2_with fail
        refine ⟨In.of XS.out, ?_⟩
        go_wp2_with fail
        refine ⟨In.of XS.out, ?_⟩
        go_wp2_with fail
        refine ret_cn2 rfl rfl (set3 G1'.out _ _ _) rfl rfl ?_
        rw [HPE.out]
        refine ⟨_, ?_, ⟨_, rfl, (HS.out.ext isTm_good XS.out fun _ _ h => .inr h).mono isTm_good fun _ _ h => .inl h⟩, (R.out.hx.trans (Ext.refl none' wr).drew).set3 (b := B + 1) (.inr (by have := HB.out; omega)) _ _ _⟩
        simp
end Go.Proofs.Ythoeengfgkfchaa
