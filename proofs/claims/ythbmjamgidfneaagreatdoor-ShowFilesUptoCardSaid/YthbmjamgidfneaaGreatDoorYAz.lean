import Derived.Test.YthbmjamgidfneaaGreatDoorYAa
import Derived.Test.YthbmjamgidfneaaGreatDoorYAd
import Derived.Test.YthbmjamgidfneaaGreatDoorYAy
import Derived.Laws.IdiomStrings
import Derived.Test.YthbmjamgidfneaaGreatDoorYAb
import Derived.Test.YthbmjamgidfneaaGreatDoorProg
import Derived.Deep.Slices
import Derived.ChangeMaps5
import Derived.Test.YthbmjamgidfneaaGreatDoorRows
import Derived.Deep.Strs
import Derived.Lib.SmallJoins
set_option maxRecDepth 100000
set_option maxHeartbeats 6400000
namespace Go.Proofs.YthbmjamgidfneaaGreatDoor
open Go.RowKit Go.Lib Go.BigFrame
set_option linter.unusedVariables false
set_option linter.unusedSimpArgs false
theorem bytes_str {B : Nat} {w : World} {v : Value} {s : List UInt8} (h : Bytes B w v s) (hs : s ≠ []) : (convert 37 9 v).run Tryz.prog w = .ok (.string ⟨s.toArray⟩) w := by
 obtain ⟨a, cap, rfl, h1, h2, h3, h4⟩ := h
 obtain ⟨b, off, rfl, hB, hb, hc⟩ := h4 hs
 exact run_convert_bytes_back w _ _ _ _ cap s Tryz.underlying37 Tryz.underlying5 Tryz.underlying9 fun j hj => by rw [← hc j hj]; congr 1; unfold Addr.add; split <;> simp_all
theorem law_files (t : Nd) (hn : t.size ≤ 1048576) (v : Value) (w : World) (hm : MaxL w) (hv : NdV none' w t v) :
 Calls Tryz.prog 6 #[v] w (TruePost w) := by
 obtain ⟨f, hf⟩ : ∃ f, t.size = f + 1 := ⟨t.size - 1, by have := t.size_pos; omega⟩
 have CZ := hid fun W (X : Ext none' w W) => small_any t 1000 (by omega) (by unfold bigD; omega) v W (hv.ext X fun _ _ h => h)
 have CF := hid fun W (X : Ext none' w W) => shfile_any f (by omega) t (by omega) v W (maxL_later hm X) (hv.ext X fun _ _ h => h)
 have CR := hid fun W (X : Ext none' w W) => rright_file f (by unfold bigD; omega) t (by omega) v W (hv.ext X fun _ _ h => h)
 have CT := hid fun (hp : rightB (fileB (tyF nmB f) (exF f) (stF f) t) t = true) W (X : Ext none' w W) => rfilet_any f (by omega) t (by omega) (rightB_p hp) v W (hv.ext X fun _ _ h => h)
 have CA := hid fun W (X : Ext none' w W) => awake_any W (maxL_later hm X)
 have NE := hid (show fileT (typF f) (exT f) (stT f) t ≠ [] by unfold fileT; simp)
 obtain ⟨z, hz⟩ : ∃ z, decide (sizeD 1000 t ≤ 1000) = z := ⟨_, rfl⟩
 obtain ⟨p, hp⟩ : ∃ p, rightB (fileB (tyF nmB f) (exF f) (stF f) t) t = p := ⟨_, rfl⟩
 obtain ⟨q, hq⟩ : ∃ q, fileT (typF f) (exT f) (stT f) t = q := ⟨_, rfl⟩
 rw [hz] at CZ
 rw [hp] at CF CR CT
 rw [hq] at CF CT NE
 clear hz hp hq hf
 obtain ⟨x, rfl, hx⟩ := hv
 obtain ⟨a1, cap1, rfl, _⟩ := hx
 obtain ⟨B, W0, hB, hW0, X0, G0⟩ := boxed w (.cells #[.int .i64 t.kind, .string ⟨t.text.toArray⟩, .slice a1 t.kids.length cap1, .int .i64 t.pos] 24)
 clear hn hm
 go_enter Tryz.func6, Tryz.ntmps6
 go_upto_region 1 with (fail)
 rw [← hW0, ← hB]
 clear hW0 hB
 obtain ⟨c0, c1, c2, c3⟩ := cell4 G0.out
 go_wp2_with fail
 refine (CZ.out _ X0.out).mono ?_
 rintro e W1 ⟨rfl, X1⟩
 have G0 := hid (X1.heap G0.out fun h => h)
 have X1 := hid (X0.out.trans X1)
 clear c0 c1 c2 c3
 obtain ⟨c0, c1, c2, c3⟩ := cell4 G0.out
 cases z
 case false =>
  go_wp2_with fail
  go_ret
  exact ⟨rfl, X1.out⟩
 go_wp2_with fail
 refine (CF.out _ X1.out).mono ?_
 rintro e W2 ⟨bv, rfl, hb, X2⟩
 have G0 := hid (X2.heap G0.out fun h => h)
 have X2 := hid (X1.out.trans X2)
 clear c0 c1 c2 c3
 obtain ⟨N2, hN2⟩ : ∃ N, N = W2.heap.size := ⟨_, rfl⟩
 rw [← hN2] at hb
 clear hN2
 obtain ⟨c0, c1, c2, c3⟩ := cell4 G0.out
 cases p
 case false =>
  obtain ⟨ab, capb, rfl, _⟩ := hb
  clear CT
  go_wp2_with fail
  refine (CR.out _ X2.out).mono ?_
  rintro e W3 ⟨rfl, X3⟩
  have X3 := hid (X2.out.trans X3)
  clear c0 c1 c2 c3
  go_wp2_with fail
  refine (CA.out _ X3.out).mono ?_
  rintro e W4 ⟨rfl, X4⟩
  have X4 := hid (X3.out.trans X4)
  go_wp2_with fail
  go_ret
  exact ⟨rfl, X4.out⟩
 have HB := hid hb
 clear hb
 have CT2 := hid (CT.out rfl)
 clear CT
 go_wp2_with fail
 refine (CR.out _ X2.out).mono ?_
 rintro e W3 ⟨rfl, X3⟩
 have G0 := hid (X3.heap G0.out fun h => h)
 have HB := hid (show ∀ W, Ext none' W3 W → Bytes N2 W bv q from fun W X => HB.out.ext (X3.trans X) fun _ h => h.elim)
 have X3 := hid (X2.out.trans X3)
 clear c0 c1 c2 c3
 have eqq : (q == q) = true := by simp
 go_upto_region 6 with (fail)
 obtain ⟨c0, c1, c2, c3⟩ := cell4L fun t' : LaterF none' W3 => t'.x.heap G0.out fun h => h
 have hcv : ∀ t' : LaterF none' W3, (convert 37 9 bv).run Tryz.prog t'.w = .ok (.string ⟨q.toArray⟩) t'.w := fun t' => bytes_str (HB.out _ t'.x) NE.out
 refine region_q none' W3 (.qs [0, 1, 2] (.one 3 true (.qs [4, 5, 6, 7, 8, 9] (.one 10 true (.qs [11, 12] .fin))))) (by kernel_rfl) (by kernel_rfl) (fun dst v c a w h => by cases dst <;> exact h) ?_
 refine ⟨In.of (Ext.refl _ _).drew, ?_⟩
 change wpQuiet _ _ (fun w' => ∃ t : LaterF none' W3, w' = t.w) _ _ _
 simp only [sel, List.getElem?_cons_succ, List.getElem?_cons_zero]
 repeat (go_big_quiet_step (fail))
 refine wpQuiet_nil ?_
 simp only [wpTreeQ, stepT, sel, List.getElem?_cons_succ, List.getElem?_cons_zero]
 have D1 := hid (Ext.refl none' W3).drew
 clear c0 c1 c2 c3 hcv
 go_wp2_with fail
 refine (CT2.out _ (X3.out.trans D1.out)).mono ?_
 rintro e W4 ⟨rfl, X4⟩
 have XX := hid (D1.out.trans X4)
 clear X4
 go_wp2_with fail
 refine ⟨In.of XX.out, In.of XX.out, ?_⟩
 change wpQuiet _ _ (fun w' => ∃ t : LaterF none' W3, w' = t.w) _ _ _
 repeat (go_big_quiet_step (fail))
 refine wpQuiet_nil ?_
 go_wp2_with fail
 refine (CA.out _ (X3.out.trans XX.out)).mono ?_
 rintro e W5 ⟨rfl, X5⟩
 have XX := hid (XX.out.trans X5)
 clear X5
 go_wp2_with fail
 refine ⟨In.of XX.out, In.of XX.out, ?_⟩
 change wpQuiet _ _ (fun w' => ∃ t : LaterF none' W3, w' = t.w) _ _ _
 repeat (go_big_quiet_step (fail))
 refine wpQuiet_nil ?_
 go_wp2_with fail
 go_ret
 exact ⟨rfl, X3.out.trans XX.out⟩
end Go.Proofs.YthbmjamgidfneaaGreatDoor
namespace Go.Proofs.YthbmjamgidfneaaGreatDoor
open Go.RowKit Go.Lib Go.ChangeShapes Go.WideShapes
section
variable {H : Type} {enc : TypeId × Value → H} {P : Program} {w : World} {spare : Nat → Bool} {held : Bool}
theorem cells_at {b off : Nat} {n : Nat} {cs : List Value} (h : w.cells? 0 ⟨b, off, none⟩ n = some cs) : cs.length = n ∧ Cells w b off cs := by
 obtain ⟨_, h1, h2⟩ := World.cells?_some h
 refine ⟨h1, fun j v hj => ?_⟩
 have hjn : j < n := by have := (List.getElem?_eq_some_iff.1 hj).1; omega
 have := h2 j hjn
 rw [hj] at this
 have e : (⟨b, off, none⟩ : Addr).add j = ⟨b, off + j, none⟩ := by unfold Addr.add; split <;> simp_all
 rw [e] at this
 exact this
end
theorem bulk_mem {H : Type} : ∀ {l : List (DataW H)} {d : DataW H}, d ∈ l → Rows.uptoBulk d ≤ Rows.uptoBulkAll l
 | a :: r, d, h => by
  rw [Rows.uptoBulkAll]
  rcases List.mem_cons.1 h with rfl | h
  · omega
  · have := bulk_mem h; omega
theorem bulk_sum {H : Type} {α : Type} {f : α → Nat} {F : List α → Nat} (h0 : F [] = 0) (hc : ∀ a r, F (a :: r) = f a + F r) : ∀ (xs : List α) (ds : List (DataW H)), ds.length = xs.length → (∀ i (h1 : i < xs.length) (h2 : i < ds.length), f xs[i] ≤ Rows.uptoBulk ds[i]) → F xs ≤ Rows.uptoBulkAll ds
 | [], _, _, _ => by rw [h0]; exact Nat.zero_le _
 | a :: r, [], h, _ => by cases h
 | a :: r, d :: s, h, hi => by
  rw [hc, Rows.uptoBulkAll]
  have h1 := hi 0 (by simp) (by simp)
  have h2 := bulk_sum h0 hc r s (by simpa using h) (fun i h1 h2 => hi (i + 1) (Nat.succ_lt_succ h1) (Nat.succ_lt_succ h2))
  simp only [List.getElem_cons_zero] at h1
  omega
section
variable {H : Type} {enc : TypeId × Value → H} {P : Program} {w : World} {spare : Nat → Bool} {held : Bool}
theorem open_slK {α : Type} {sz : Nat} {R : Lay α} (Q : α → DataW H → Prop) (hsz : 0 < sz) {t e : TypeId} (ht : P.underlying t = some (.slice e)) (hc : P.cellsOf e = sz) (K : Nat)
 (he : ∀ (n : Nat) (cs : List Value) (x : DataW H × List MemPlace), Rows.uptoBulk x.1 < K → DataW.trod enc P w 0 spare held n e cs = some x → ∃ a, R none' w a cs ∧ Q a x.1)
 {fuel : Nat} {cs : List Value} {x : DataW H × List MemPlace} (h : DataW.trod enc P w 0 spare held fuel t cs = some x) (hK : Rows.uptoBulk x.1 ≤ K) :
 ∃ v xs, cs = [v] ∧ IsSl sz R none' w v xs ∧ ((x.1 = .nil ∧ xs = []) ∨ ∃ ds sp, x.1 = .slice ds sp ∧ ds.length = xs.length ∧ ∀ i (h1 : i < xs.length) (h2 : i < ds.length), Q xs[i] ds[i]) := by
 rcases Go.Deep.open_slice ht h with ⟨rfl, rfl⟩ | ⟨a, len, cap, m, n, D, Pl, rfl, hb, hl, hm, hmm, rfl, hx⟩
 · exact ⟨_, [], rfl, IsSl.nil _ _ _ _, .inl ⟨rfl, rfl⟩⟩
 · have hlm : len ≤ m := by rw [hmm]; split <;> omega
   have key : ∀ i : Fin len, ∃ q : α × List Value, w.cells? 0 (a.add (i.1 * sz)) sz = some q.2 ∧ R none' w q.1 q.2 ∧ Q q.1 (D i.1) := fun i => by
    obtain ⟨cs', h1, h2⟩ := hx i.1 (by have := i.2; omega)
    obtain ⟨y, hy1, hy2⟩ := he n cs' _ (by
     have hmem : D i.1 ∈ (List.range len).map D := List.mem_map.2 ⟨i.1, List.mem_range.2 i.2, rfl⟩
     have h3 := bulk_mem hmem
     simp only [Rows.uptoBulk] at hK
     simp only
     omega) h2
    rw [hc] at h1
    exact ⟨(y, cs'), h1, hy1, hy2⟩
   obtain ⟨f, hf⟩ := Classical.axiomOfChoice key
   refine ⟨_, List.ofFn fun i => (f i).1, rfl, ⟨some a, cap, by rw [List.length_ofFn], by rw [List.length_ofFn]; exact hl, (fun h => by cases h), fun hne => ?_⟩, .inr ⟨_, _, rfl, by simp, fun i h1 h2 => ?_⟩⟩
   · have hpos : 0 < len := by
      rcases Nat.eq_zero_or_pos len with h | h
      · subst h; simp at hne
      · exact h
     obtain ⟨b, off, spot⟩ := a
     have hs : spot = none ∧ b < w.heap.size := by
      obtain ⟨_, h1, h2⟩ := World.cells?_some (hf ⟨0, hpos⟩).1
      have h3 := h2 0 hsz
      have hlen : 0 < (f ⟨0, hpos⟩).2.length := by omega
      rw [List.getElem?_eq_getElem hlen] at h3
      have e0 : ((⟨b, off, spot⟩ : Addr).add (0 * sz)).add 0 = ⟨b, off, spot⟩ := by simp [Addr.add]
      simp only [e0] at h3
      exact ⟨World.cell?_spot h3, World.block_lt_of_cell? w _ h3⟩
     obtain ⟨rfl, hbw⟩ := hs
     refine ⟨b, off, rfl, fun h => h, hbw, fun i hi => ?_⟩
     rw [List.length_ofFn] at hi
     have hfi := hf ⟨i, hi⟩
     have e : (⟨b, off, none⟩ : Addr).add (i * sz) = ⟨b, off + i * sz, none⟩ := by unfold Addr.add; split <;> simp_all
     have h1 := hfi.1
     simp only [e] at h1
     exact ⟨_, (cells_at h1).2, by rw [List.getElem_ofFn]; exact hfi.2.1⟩
   · rw [List.length_ofFn] at h1
     have h3 := (hf ⟨i, h1⟩).2.2
     rw [List.getElem_ofFn]
     simpa using h3
end
theorem four_len' : ∀ {cs : List Value}, cs.length = 4 → ∃ c0 c1 c2 c3, cs = [c0, c1, c2, c3]
 | [c0, c1, c2, c3], _ => ⟨c0, c1, c2, c3, rfl⟩
section
variable {H : Type} {enc : TypeId × Value → H} {w : World} {spare : Nat → Bool} {held : Bool}
theorem open_nd (K : Nat) : ∀ (fuel : Nat) (cs : List Value) (x : DataW H × List MemPlace), Rows.uptoBulk x.1 ≤ K → DataW.trod enc Tryz.prog w 0 spare held fuel 24 cs = some x → ∃ t : Nd, IsNd none' w t cs ∧ t.size ≤ Rows.uptoBulk x.1 := by
 induction K with
 | zero =>
  intro fuel cs x hK h
  obtain ⟨y0, y1, y2, y3, m, rfl, _⟩ := Go.Joins.trod_struct4 Tryz.underlying24 h
  simp only [Rows.uptoBulk] at hK
  omega
 | succ K ih =>
  intro fuel cs x hK h
  obtain ⟨y0, y1, y2, y3, m, rfl, hl, t0, t1, t2, t3⟩ := Go.Joins.trod_struct4 Tryz.underlying24 h
  have e4 : Tryz.prog.cellsOf 24 = 4 := by kernel_rfl
  rw [e4] at hl
  obtain ⟨c0, c1, c2, c3, rfl⟩ := four_len' hl
  have ks : Tryz.prog.cellsOf 9 = 1 := by kernel_rfl
  have ki : Tryz.prog.cellsOf 3 = 1 := by kernel_rfl
  have ka : Tryz.prog.cellsOf 22 = 1 := by kernel_rfl
  simp only [ki, ks, ka, List.drop_zero, List.take_succ_cons, List.take_zero, List.drop_succ_cons] at t0 t1 t2 t3
  obtain ⟨k, e0, _⟩ := DataW.trod_int Tryz.underlying3 t0
  obtain ⟨n, e1, f1, _⟩ := DataW.trod_string Tryz.underlying9 t1
  subst f1
  obtain ⟨p, e3, _⟩ := DataW.trod_int Tryz.underlying3 t3
  simp only [Rows.uptoBulk, Rows.uptoBulkAll] at hK ⊢
  obtain ⟨v, l, e2, hsl, hq⟩ := open_slK (α := Nd) (sz := 4) (R := IsNd) (fun t d => t.size ≤ Rows.uptoBulk d) (by omega) Tryz.underlying22 e4 K (fun n cs x hx h => ih n cs x (by omega) h) t2 (by omega)
  injection e0 with e0 _
  injection e1 with e1 _
  injection e2 with e2 _
  injection e3 with e3 _
  subst e0 e1 e2 e3
  have hsum : Nd.sizeL l + 1 ≤ Rows.uptoBulk y2.1 := by
   rcases hq with ⟨e, rfl⟩ | ⟨ds, sp, e, hlen, hq⟩
   · rw [e]; simp [Rows.uptoBulk, Nd.sizeL]
   · rw [e, Rows.uptoBulk]
     have := bulk_sum (F := Nd.sizeL) (f := Nd.size) rfl (fun _ _ => rfl) l ds hlen hq
     omega
  refine ⟨.mk k n.data.toList l p, ?_, ?_⟩
  · have := IsNd.of (k := k) (n := n.data.toList) (p := p) hsl
    simpa using this
  · rw [Nd.size]; omega
end
end Go.Proofs.YthbmjamgidfneaaGreatDoor
