import Derived.Test.YtbhpmmofgdppdaaGreatDoorZAv
/-
  demoticlaw10.plain: a document's type as the program's: the same tree.
-/
namespace Go.Proofs.YtbhpmmofgdppdaaGreatDoor
open Go.RowKit Go.Lib Go.BigFrame
theorem infoRTy : (Tryz.prog.info? 25).map (fun i => (i.zero, i.size, i.bytes)) = some (some (.agg #[.int .i64 0, .string ⟨#[]⟩, .slice none 0 0]), 3, 48) := by kernel_rfl
theorem ret_rty {fn : Func} {p : Tmp} (h : fn.results = #[.cell p 25]) {R : Ending → World → Prop} {a : Act} {w : World} {g : Nat} {y0 y1 y2 : Value} {t : TypeId} {fr : Nat × Nat} (hp : a.tmps.getD p undef = .pointer (some ⟨g, 0, none⟩)) (hg : w.heap[g]? = some (.cells #[y0, y1, y2] t fr))
    (hd : a.defers = []) (hR : R (.returned (.agg #[y0, y1, y2])) w) : bodyPost Tryz.prog fn R .ret a w :=
  bodyPost_ret (results_cell_row h _ w g t _ fr _ hp hg Tryz.underlying25 rfl (by kernel_rfl)) hd hR
structure TypRel2 (A : Nat → Prop) (k : Int) (n : List UInt8) (l : List Ty) (sv : Value) (B : Nat) (w wr : World) (v : Value) (i : Nat) : Prop where
  g0 : wr.heap[B]? = some (.cells #[.int .i64 k, .string ⟨n.toArray⟩, sv] 32 (0, 0))
  g1 : wr.heap[B + 1]? = some (.cells #[.int .i64 0, .string ⟨#[]⟩, .slice none 0 0] 25 (0, 0))
  g2 : wr.heap[B + 1 + 1]? = some (.cells #[.int .i64 k, .string ⟨n.toArray⟩, v] 25 (0, 0))
  row : RowOf 3 25 IsTy (and1 (and1 A (B + 1)) (B + 1 + 1)) wr (B + 3) v (l.take i)
  hx : Ext none' w wr
set_option maxRecDepth 100000 in
set_option maxHeartbeats 3200000 in
theorem plain_tyany (t : Ty) : t.size ≤ bigD → ∀ (A : Nat → Prop) (v : Value) (w : World), TyV none' w t v → (∀ b, A b → b < w.heap.size) → Calls Tryz.prog 17 #[v] w (TyPost none' A w t) := by
  induction t using Ty.induct with
  | h k n l ih =>
    intro hsz A v w hv hA
    obtain ⟨x, rfl, hx⟩ := hv
    have hx : IsSl 3 IsTy none' w x l := hx
    have HX := hid hx
    obtain ⟨a, cap, rfl, _⟩ := hx
    have HIH := hid ih
    have hll : l.length ≤ bigD := by have := Ty.args_len (.mk k n l); simp only [Ty.args] at this; omega
    unfold bigD at hll
    have HSZ := hid hsz
    clear ih hsz
    obtain ⟨i0, hi0, hz0, hz1, hz2⟩ := info_parts infoRTy
    have I0 := hid hi0
    have I1 := hid hz0
    have I2 := hid hz1
    have I3 := hid hz2
    obtain ⟨B, hB⟩ : ∃ B, B = w.heap.size := ⟨_, rfl⟩
    have HB := hid hB
    clear hi0 hz0 hz1 hz2 hB
    show Calls Tryz.prog 17 #[.agg #[.int .i64 k, .string ⟨n.toArray⟩, .slice a l.length cap]] w (TyPost none' A w (.mk k n l))
    go_enter Tryz.func17, Tryz.ntmps17
    go_wp2_with fail
    rw [← HB.out]
    go_loopw [4] (fun z wr => ∃ (i : Nat) (v : Value), z = .int .i64 (i : Nat) ∧ i ≤ l.length ∧ Hid (TypRel2 A k n l (.slice a l.length cap) B w wr v i)) (fun z _ => l.length - (RowKit.intOf z).toNat)
    case atStart =>
      have hB := HB.out
      exact ⟨0, .slice none 0 0, rfl, by omega, hid ⟨heap_alloc_keep (heap_alloc_keep (heap_alloc_at hB _) _) _, heap_alloc_keep (heap_alloc_at (by rw [hB]; simp) _) _, heap_alloc_at (by rw [hB]; simp) _, RowOf.nil _ _ _ _ _ _, (((Ext.refl _ _).alloc _).alloc _).alloc _⟩⟩
    case round =>
      obtain ⟨i, v, rfl, hle, R⟩ := hrel
      obtain ⟨cells, own0, hr0⟩ := R.out.row
      have hln : (l.take i).length = i := by rw [List.length_take, Nat.min_eq_left hle]
      have OW := hid own0
      have HR0 := hid hr0
      rw [hln] at own0
      have hsh := own_slice own0
      obtain ⟨a1, cap1, rfl⟩ := hsh
      have OWI := hid own0
      have HLN := hid hln
      clear own0 hr0 hln
      have p2 := cell_at R.out.g0 2
      simp only [List.getElem?_toArray, List.getElem?_cons_zero, List.getElem?_cons_succ] at p2
      by_cases hi : i < l.length
      · obtain ⟨b, off, cs, rfl, hAb, hbw, hcc, hty⟩ := (HX.out.ext isTy_good R.out.hx fun _ _ h => h.elim).at i hi
        obtain ⟨x', rfl, hx'⟩ := hty.parts
        have HX2 := hid hx'
        obtain ⟨a', cap', rfl, _⟩ := hx'
        have hcc := hid hcc
        have hmem := List.getElem_mem hi
        have hts : l[i].size ≤ bigD := by have := Ty.size_arg (t := .mk k n l) hmem; have := HSZ.out; omega
        have CS := hid (HIH.out _ hmem hts (plus (and1 (and1 A (B + 1)) (B + 1 + 1)) (.slice a1 i cap1)) (.agg #[.int .i64 l[i].kind, .string ⟨l[i].name.toArray⟩, .slice a' l[i].args.length cap']) wr.drew ⟨_, rfl, HX2.out.ext isTy_good (Ext.refl none' wr).drew fun _ _ h => h.elim⟩ (fun b hb => by
          have h1 := heap_lt R.out.g1
          have h2 := heap_lt R.out.g2
          have h3 := R.out.hx.size
          show b < wr.heap.size
          rcases hb with ((hb | hb) | hb) | hb
          · have := hA b hb; omega
          · omega
          · omega
          · exact (OWI.out.lt b hb).2))
        obtain ⟨t, ht⟩ : ∃ t, l[i] = t := ⟨_, rfl⟩
        have htk : l.take (i + 1) = l.take i ++ [t] := by rw [List.take_add_one, List.getElem?_eq_getElem hi, ht]; rfl
        have HTK := hid htk
        rw [ht] at hcc CS
        clear htk hty hts hmem HX2
        clear ht
        have y0 := fun t' : LaterF none' wr => (t'.x.cell (p := ⟨b, off + i * 3, none⟩) hbw (fun h => h)).trans (by simpa using hcc.out 0 _ rfl)
        have y1 := fun t' : LaterF none' wr => (t'.x.cell (p := ⟨b, off + i * 3 + 1, none⟩) hbw (fun h => h)).trans (hcc.out 1 _ rfl)
        have y2 := fun t' : LaterF none' wr => (t'.x.cell (p := ⟨b, off + i * 3 + 2, none⟩) hbw (fun h => h)).trans (hcc.out 2 _ rfl)
        have r2 := fun t' : LaterF none' wr => cell_at (t'.x.heap R.out.g0 (fun h => h)) 2
        have r5 := fun t' : LaterF none' wr => cell_at (t'.x.heap R.out.g2 (fun h => h)) 2
        simp only [List.getElem?_toArray, List.getElem?_cons_zero, List.getElem?_cons_succ] at r2 r5
        go_upto_region 5 with (fail)
        refine region_tree none' wr [0, 1, 2, 3, 4, 5, 6] (.one 7 true (.one 8 true (.one 9 false (.one 10 false (.one 11 false .fin))))) (by kernel_rfl) (by kernel_rfl) (fun dst v c a w h => by cases dst <;> exact h) (Ext.refl _ _) ?_
        simp only [sel, List.getElem?_cons_succ, List.getElem?_cons_zero]
        repeat (go_big_quiet_step (fail))
        refine wpQuiet_nil ?_
        simp only [wpTree, stepT, sel, List.getElem?_cons_succ, List.getElem?_cons_zero]
        clear y0 y1 y2 r2 r5 p2
        go_wp2_with fail
        refine CS.out.mono ?_
        rintro e W2 ⟨u, rfl, ⟨xx, rfl, hxx⟩, X2⟩
        have X2 := hid ((Ext.refl none' wr).drew.trans X2)
        have HY := hid hxx
        obtain ⟨a2, cap2, rfl, _⟩ := hxx
        go_wp2_with fail
        refine ⟨In.of X2.out, ?_⟩
        go_wp2_with fail
        obtain ⟨W3, hW3⟩ : ∃ W3, W3 = W2.alloc (.cells #[.int .i64 t.kind, .string ⟨t.name.toArray⟩, .slice a2 t.args.length cap2] 25) := ⟨_, rfl⟩
        have XD : Hid (Ext none' wr W3) := hid (by rw [hW3]; exact X2.out.alloc _)
        have XE : Hid (Ext none' W2 W3) := hid (by rw [hW3]; exact (Ext.refl _ _).alloc _)
        have S2 : Hid (Src Tryz.prog 3 23 (.slice (some ⟨W2.heap.size, 0, none⟩) 1 1) 1 [.int .i64 t.kind, .string ⟨t.name.toArray⟩, .slice a2 t.args.length cap2] W3) := hid (by rw [hW3]; exact three_src (P := Tryz.prog) Tryz.underlying23 W2 _ _ _ 25 rfl rfl rfl)
        rw [← hW3]
        clear hW3
        refine ⟨In.of XD.out, ?_⟩
        have O2 := hid (ownsRow_ext OWI.out XD.out (fun _ _ h => h))
        have O2' := hid (ownsRow_ext OW.out XD.out (fun _ _ h => h))
        have HSZ3 := hid (show B + 3 ≤ W3.heap.size by have := XD.out.size; have := heap_lt R.out.g2; omega)
        refine wpList_app _ rfl (.tmp 18) (.tmp 25) 23 23 rfl (B + 3) 25 i0 _ 3 48 Tryz.underlying23 I0.out I1.out I2.out I3.out rfl _ i cells rfl O2.out _ 1 _ rfl S2.out ?_ ?_ ?_ ?_
        · unfold maxLen; omega
        · omega
        · exact HSZ3.out
        intro v3 w3 own3 grow3 blk3 _
        have N0 : Hid (RowOf 3 25 IsTy (and1 (and1 A (B + 1)) (B + 1 + 1)) w3 (B + 3) v3 (l.take i ++ [t])) := hid (RowOf.snoc isTy_good O2'.out (fun j hj => isTy_good.ext (HR0.out j hj) XD.out fun _ _ h => h.elim) (isTy_good.ext (TyV.ty HY.out) XE.out fun _ _ h => h.elim) (by rw [HLN.out]; exact own3) grow3 blk3)
        obtain ⟨a3, cap3, rfl⟩ := own_slice own3
        have hlt := fun g hg => (O2.out.lt g hg).1
        have X3 : Ext (fun k => Value.ownBlock (.slice a1 i cap1) = some k) wr w3 := (XD.out.mono fun _ _ h => h.elim).grown grow3 (fun g hg => .inl hg)
        have nB : ∀ k, k < B + 3 → ¬ (Value.ownBlock (.slice a1 i cap1) = some k) := fun k hk h => by have := hlt k h; omega
        have g0 := X3.heap R.out.g0 (nB _ (by omega))
        have g1 := X3.heap R.out.g1 (nB _ (by omega))
        have g2 := X3.heap R.out.g2 (nB _ (by omega))
        have e2 := cell_at g2 2
        have f2 := free_at g2 2
        simp only [List.getElem?_toArray, List.getElem?_cons_zero, List.getElem?_cons_succ] at e2
        have XS : Ext (one (B + 1 + 1)) w3 (w3.setCell ⟨B + 1 + 1, 2, none⟩ (.slice a3 (i + 1) cap3)) := (Ext.refl _ _).set 2 _
        have N : Hid (TypRel2 A k n l (.slice (some ⟨b, off, none⟩) l.length cap) B w (w3.setCell ⟨B + 1 + 1, 2, none⟩ (.slice a3 (i + 1) cap3)) (.slice a3 (i + 1) cap3) (i + 1)) := hid
          ⟨XS.heap g0 (by unfold one; omega), XS.heap g1 (by unfold one; omega), heap_setCell_same g2 2 _, by
            rw [HTK.out]
            exact N0.out.ext isTy_good XS (fun _ _ h => .inr h) (fun g hg h => by have h1 := (N0.out.lt g hg).1; have h2 : g = B + 1 + 1 := h; omega), (R.out.hx.trans (XD.out) |>.grown grow3 (fun g hg => .inr (by have := hlt g hg; have := HB.out; omega))).setNew (by have := HB.out; omega) 2 _⟩
        clear own3 grow3 blk3 X3 XS g0 g1 g2 nB hlt
        go_wp2_with fail
        go_roundw
        case rel => exact ⟨i + 1, _, by go_num, by omega, N⟩
        case measure => simp [RowKit.intOf]; omega
      · obtain rfl : i = l.length := by omega
        have c0 := cell_at R.out.g2 0
        have c1 := cell_at R.out.g2 1
        have c2 := cell_at R.out.g2 2
        have e0 := cell_at R.out.g1 0
        have e1 := cell_at R.out.g1 1
        have e2 := cell_at R.out.g1 2
        have f0 := free_at R.out.g1 0
        have f1 := free_at R.out.g1 1
        have f2 := free_at R.out.g1 2
        simp only [List.getElem?_toArray, List.getElem?_cons_zero, List.getElem?_cons_succ] at c0 c1 c2 e0 e1 e2
        have hrow := R.out.row
        rw [List.take_length] at hrow
        have HS := hid ((hrow.mono (B := and1 A (B + 1)) isTy_good fun _ _ h => .inl h).sl isTy_good (fun b hb h => h.elim (fun h => by have := hA b h; have := HB.out; omega) fun h => by omega))
        go_wp2_with fail
        refine ret_rty rfl rfl (set3 R.out.g1 _ _ _) rfl ?_
        exact ⟨_, rfl, TyV.stored (t := .mk k n l) HS.out _ _ _, R.out.hx.set3 (b := B + 1) (.inr (by have := HB.out; omega)) _ _ _⟩
end Go.Proofs.YtbhpmmofgdppdaaGreatDoor
