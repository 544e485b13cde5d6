import Derived.Test.YthoeengfgkfchaaSeLets
namespace Go.Proofs.Ythoeengfgkfchaa
open Go.RowKit Go.Lib Go.BigFrame
theorem ret_cn {fn : Func} {p : Tmp} (h : fn.results = #[.cell p 45]) {R : Ending → World → Prop} {a : Act} {w : World} {g : Nat} {y0 y1 y2 : Value} {t : TypeId} {fr : Nat × Nat} (hp : a.tmps.getD p undef = .pointer (some ⟨g, 0, none⟩)) (hg : w.heap[g]? = some (.cells #[y0, y1, y2] t fr))
    (hd : a.defers = []) (hR : R (.returned (.agg #[y0, y1, y2])) w) : bodyPost Try.prog fn R .ret a w :=
  bodyPost_ret (results_cell_row h _ w g t _ fr _ hp hg Try.underlying45 rfl (by kernel_rfl)) hd hR
theorem two_src {P : Program} {tx e' : TypeId} (hk : P.underlying tx = some (.slice e')) (w : World) (u0 u1 : Value) (t : TypeId) (h0 : u0.oneCell' = true) (h1 : u1.oneCell' = true) :
    Src P 2 tx (.slice (some ⟨w.heap.size, 0, none⟩) 1 1) 1 [u0, u1] (w.alloc (.cells #[u0, u1] t)) :=
  Src.ofSlice _ hk _ 1 1 [u0, u1] rfl (fun j u hj => by
    have e : (⟨w.heap.size, 0, none⟩ : Addr).add j = ⟨w.heap.size, j, none⟩ := by unfold Addr.add; split <;> simp_all
    rw [e, cell_at (heap_alloc_at rfl _)]
    exact (List.getElem?_toArray ..).trans hj) (fun u hu => by
      simp at hu
      rcases hu with rfl | rfl
      · exact h0
      · exact h1)
theorem tmVals_snoc (l : List Tm) (t : Tm) : tmVals (l ++ [t]) = tmVals l ++ [.bool t.tilde, .string ⟨t.name.toArray⟩] := by simp [tmVals]
structure OfRel (s : Cn) (sv : Value) (B : Nat) (w wr : World) (v : Value) (i : Nat) : Prop where
  g0 : wr.heap[B]? = some (.cells #[.bool s.all, .bool s.cmp, sv] 26 (0, 0))
  g1 : wr.heap[B + 1]? = some (.cells #[.bool false, .bool false, .slice none 0 0] 45 (0, 0))
  g2 : wr.heap[B + 1 + 1]? = some (.cells #[.bool s.all, .bool s.cmp, v] 45 (0, 0))
  row : wr.ownsRow (B + 3) 50 2 v i (tmVals (s.terms.take i))
  hx : Ext none' w wr
def CnPost (A : Nat → Prop) (w : World) (s : Cn) (e : Ending) (w' : World) : Prop := ∃ u, e = .returned u ∧ CnV A w' s u ∧ Ext none' w w'
set_option maxRecDepth 100000 in
set_option maxHeartbeats 3200000 in
theorem lof_any (s : Cn) (hs : s.terms.length ≤ 1000000) (A : Nat → Prop) (v : Value) (w : World) (hv : CnV none' w s v) (hA : ∀ b, A b → b < w.heap.size) : Calls Try.prog 12 #[v] w (CnPost A w s) := by
  obtain ⟨x, rfl, hx⟩ := hv
  have HX := hid hx
  obtain ⟨a, cap, rfl, _⟩ := hx
  obtain ⟨sa, sc, st⟩ := s
  simp only at HX hs ⊢
  obtain ⟨i0, hi0, hz0, hz1, hz2⟩ := info_parts infoTm
  have I0 := hid hi0
  have I1 := hid hz0
  have I2 := hid hz1
  have I3 := hid hz2
  obtain ⟨B, hB⟩ : ∃ B, B = w.heap.size := ⟨_, rfl⟩
  have HB := hid hB
  clear hi0 hz0 hz1 hz2 hB
  go_enter Try.func12, Try.ntmps12
  go_wp2_with fail
  rw [← HB.out]
  go_loopw [4] (fun z wr => ∃ (i : Nat) (v : Value), z = .int .i64 (i : Nat) ∧ i ≤ st.length ∧ Hid (OfRel ⟨sa, sc, st⟩ (.slice a st.length cap) B w wr v i)) (fun z _ => st.length - (RowKit.intOf z).toNat)
  case atStart =>
    have hB := HB.out
    exact ⟨0, .slice none 0 0, rfl, by omega, hid ⟨heap_alloc_keep (heap_alloc_keep (heap_alloc_at hB _) _) _, heap_alloc_keep (heap_alloc_at (by rw [hB]; simp) _) _, heap_alloc_at (by rw [hB]; simp) _, World.ownsRow_nil _ _ _ _, (((Ext.refl _ _).alloc _).alloc _).alloc _⟩⟩
  case round =>
    obtain ⟨i, v, rfl, hle, R⟩ := hrel
    have hsh := own_slice R.out.row
    obtain ⟨a1, cap1, rfl⟩ := hsh
    have p2 := cell_at R.out.g0 2
    simp only [List.getElem?_toArray, List.getElem?_cons_zero, List.getElem?_cons_succ] at p2
    by_cases hi : i < st.length
    · obtain ⟨b, off, cs, rfl, hAb, hbw, hcc, rfl⟩ := (HX.out.ext isTm_good R.out.hx fun _ _ h => h.elim).at i hi
      have hcc := hid hcc
      obtain ⟨t, ht⟩ : ∃ t, st[i] = t := ⟨_, rfl⟩
      rw [ht] at hcc
      have y0 := fun t' : LaterF none' wr => (t'.x.cell (p := ⟨b, off + i * 2, none⟩) hbw (fun h => h)).trans (by simpa using hcc.out 0 _ rfl)
      have y1 := fun t' : LaterF none' wr => (t'.x.cell (p := ⟨b, off + i * 2 + 1, none⟩) hbw (fun h => h)).trans (hcc.out 1 _ rfl)
      have r2 := fun t' : LaterF none' wr => cell_at (t'.x.heap R.out.g0 (fun h => h)) 2
      have r5 := fun t' : LaterF none' wr => cell_at (t'.x.heap R.out.g2 (fun h => h)) 2
      simp only [List.getElem?_toArray, List.getElem?_cons_zero, List.getElem?_cons_succ] at r2 r5
      have htk : st.take (i + 1) = st.take i ++ [t] := by rw [List.take_add_one, List.getElem?_eq_getElem hi, ht]; rfl
      have HTK := hid htk
      clear ht htk
      obtain ⟨tt, tn⟩ := t
      simp only at y0 y1
      have O2 := hid (ownsRow_ext R.out.row ((Ext.refl none' wr).alloc (.cells #[.bool tt, .string ⟨tn.toArray⟩] 50)).drew (fun _ _ h => h))
      have S2 : Hid (Src Try.prog 2 43 (.slice (some ⟨wr.heap.size, 0, none⟩) 1 1) 1 [.bool tt, .string ⟨tn.toArray⟩] (wr.alloc (.cells #[.bool tt, .string ⟨tn.toArray⟩] 50)).drew) := hid (two_src (P := Try.prog) Try.underlying43 wr.drew (.bool tt) (.string ⟨tn.toArray⟩) 50 rfl rfl)
      go_upto_region 5 with (fail)
      refine region_tree none' wr [0, 1, 2, 3, 4, 5, 6, 7, 8, 9, 10, 11, 12, 13, 14] (.one 15 true (.one 16 false (.one 17 false (.one 18 false .fin)))) (by kernel_rfl) (by kernel_rfl) (fun dst v c a w h => by cases dst <;> exact h) (Ext.refl _ _) ?_
      simp only [sel, List.getElem?_cons_succ, List.getElem?_cons_zero]
      repeat (go_big_quiet_step (fail))
      refine wpQuiet_nil ?_
      simp only [wpTree, stepT, sel, List.getElem?_cons_succ, List.getElem?_cons_zero]
      clear y0 y1 r2 r5 p2
      go_wp2_with fail
      have XD : Hid (Ext none' wr (wr.alloc (.cells #[.bool tt, .string ⟨tn.toArray⟩] 50)).drew) := hid ((Ext.refl none' wr).alloc _).drew
      refine ⟨In.of XD.out, ?_⟩
      go_wp2_with (at_builtin; refine wpList_app _ rfl (.tmp 18) (.tmp 32) 43 43 rfl (B + 3) 50 i0 _ 2 24 Try.underlying43 I0.out I1.out I2.out I3.out rfl _ i (tmVals (st.take i)) rfl O2.out _ 1 _ rfl S2.out ?_ ?_ ?_ ?_)
      · unfold maxLen; omega
      · omega
      · have h1 := heap_lt R.out.g2
        have h2 := XD.out.size
        omega
      intro v3 w3 own3 grow3 blk3 _
      obtain ⟨a3, cap3, rfl⟩ := own_slice own3
      have hlt := fun g hg => (O2.out.lt g hg).1
      have X3 : Ext (fun k => Value.ownBlock (.slice a1 i cap1) = some k) wr w3 := (XD.out.mono fun _ _ h => h.elim).grown grow3 (fun g hg => .inl hg)
      have nB : ∀ k, k < B + 3 → ¬ (Value.ownBlock (.slice a1 i cap1) = some k) := fun k hk h => by have := hlt k h; omega
      have g0 := X3.heap R.out.g0 (nB _ (by omega))
      have g1 := X3.heap R.out.g1 (nB _ (by omega))
      have g2 := X3.heap R.out.g2 (nB _ (by omega))
      have e2 := cell_at g2 2
      have f2 := free_at g2 2
      simp only [List.getElem?_toArray, List.getElem?_cons_zero, List.getElem?_cons_succ] at e2
      have hB3 : Hid (∀ g, Value.ownBlock (.slice a3 (i + 1) cap3) = some g → B + 3 ≤ g) := hid fun g hg => (own3.lt g hg).1
      have XS : Ext (one (B + 1 + 1)) w3 (w3.setCell ⟨B + 1 + 1, 2, none⟩ (.slice a3 (i + 1) cap3)) := (Ext.refl _ _).set 2 _
      have N : Hid (OfRel ⟨sa, sc, st⟩ (.slice (some ⟨b, off, none⟩) st.length cap) B w (w3.setCell ⟨B + 1 + 1, 2, none⟩ (.slice a3 (i + 1) cap3)) (.slice a3 (i + 1) cap3) (i + 1)) := hid
        ⟨XS.heap g0 (by unfold one; omega), XS.heap g1 (by unfold one; omega), heap_setCell_same g2 2 _, by
          have := ownsRow_ext own3 XS (fun g hg h => by have h1 := hB3.out g hg; have h2 : g = B + 1 + 1 := h; omega)
          rw [HTK.out, tmVals_snoc]
          exact this, (R.out.hx.trans (XD.out) |>.grown grow3 (fun g hg => .inr (by have := hlt g hg; have := HB.out; omega))).setNew (by have := HB.out; omega) 2 _⟩
      clear own3 grow3 blk3 X3 XS g0 g1 g2 nB hlt
      go_wp2_with fail
      go_roundw
      case rel => exact ⟨i + 1, _, by go_num, by omega, N⟩
      case measure => simp [RowKit.intOf]; omega
    · obtain rfl : i = st.length := by omega
      have c0 := cell_at R.out.g2 0
      have c1 := cell_at R.out.g2 1
      have c2 := cell_at R.out.g2 2
      have e0 := cell_at R.out.g1 0
      have e1 := cell_at R.out.g1 1
      have e2 := cell_at R.out.g1 2
      have f0 := free_at R.out.g1 0
      have f1 := free_at R.out.g1 1
      have f2 := free_at R.out.g1 2
      simp only [List.getElem?_toArray, List.getElem?_cons_zero, List.getElem?_cons_succ] at c0 c1 c2 e0 e1 e2
      have hrow := R.out.row
      rw [List.take_length] at hrow
      have HS := hid ((tm_row (A := and1 A (B + 1)) hrow).sl isTm_good (fun b hb h => h.elim (fun h => by have := hA b h; have := HB.out; omega) fun h => by omega))
      go_wp2_with fail
      refine ret_cn rfl rfl (set3 R.out.g1 _ _ _) rfl ?_
      exact ⟨_, rfl, ⟨_, rfl, (HS.out.ext isTm_good (Ext.self3 _ _ _ _ _) fun _ _ h => .inr h).mono isTm_good fun _ _ h => .inl h⟩, R.out.hx.set3 (b := B + 1) (.inr (by have := HB.out; omega)) _ _ _⟩
end Go.Proofs.Ythoeengfgkfchaa
