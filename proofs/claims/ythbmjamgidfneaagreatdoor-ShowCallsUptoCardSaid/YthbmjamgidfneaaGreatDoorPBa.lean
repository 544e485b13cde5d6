import Derived.Test.YthbmjamgidfneaaGreatDoorPAb
import Derived.Test.YthbmjamgidfneaaGreatDoorPAe
import Derived.Test.YthbmjamgidfneaaGreatDoorProg
import Derived.Deep.Slices
import Derived.ChangeMaps5
import Derived.Test.YthbmjamgidfneaaGreatDoorRows
import Derived.Deep.Strs
import Derived.Lib.SmallJoins
set_option maxRecDepth 100000
set_option maxHeartbeats 6400000
namespace Go.Proofs.YthbmjamgidfneaaGreatDoor
open Go.RowKit Go.Lib Go.ChangeShapes Go.WideShapes
section
variable {H : Type} {enc : TypeId × Value → H} {P : Program} {w : World} {spare : Nat → Bool} {held : Bool}
theorem cells_at {b off : Nat} {n : Nat} {cs : List Value} (h : w.cells? 0 ⟨b, off, none⟩ n = some cs) : cs.length = n ∧ Cells w b off cs := by
 obtain ⟨_, h1, h2⟩ := World.cells?_some h
 refine ⟨h1, fun j v hj => ?_⟩
 have hjn : j < n := by have := (List.getElem?_eq_some_iff.1 hj).1; omega
 have := h2 j hjn
 rw [hj] at this
 have e : (⟨b, off, none⟩ : Addr).add j = ⟨b, off + j, none⟩ := by unfold Addr.add; split <;> simp_all
 rw [e] at this
 exact this
end
theorem bulk_mem {H : Type} : ∀ {l : List (DataW H)} {d : DataW H}, d ∈ l → Rows.uptoBulk d ≤ Rows.uptoBulkAll l
 | a :: r, d, h => by
  rw [Rows.uptoBulkAll]
  rcases List.mem_cons.1 h with rfl | h
  · omega
  · have := bulk_mem h; omega
theorem bulk_sum {H : Type} {α : Type} {f : α → Nat} {F : List α → Nat} (h0 : F [] = 0) (hc : ∀ a r, F (a :: r) = f a + F r) : ∀ (xs : List α) (ds : List (DataW H)), ds.length = xs.length → (∀ i (h1 : i < xs.length) (h2 : i < ds.length), f xs[i] ≤ Rows.uptoBulk ds[i]) → F xs ≤ Rows.uptoBulkAll ds
 | [], _, _, _ => by rw [h0]; exact Nat.zero_le _
 | a :: r, [], h, _ => by cases h
 | a :: r, d :: s, h, hi => by
  rw [hc, Rows.uptoBulkAll]
  have h1 := hi 0 (by simp) (by simp)
  have h2 := bulk_sum h0 hc r s (by simpa using h) (fun i h1 h2 => hi (i + 1) (Nat.succ_lt_succ h1) (Nat.succ_lt_succ h2))
  simp only [List.getElem_cons_zero] at h1
  omega
section
variable {H : Type} {enc : TypeId × Value → H} {P : Program} {w : World} {spare : Nat → Bool} {held : Bool}
theorem open_slK {α : Type} {sz : Nat} {R : Lay α} (Q : α → DataW H → Prop) (hsz : 0 < sz) {t e : TypeId} (ht : P.underlying t = some (.slice e)) (hc : P.cellsOf e = sz) (K : Nat)
  (he : ∀ (n : Nat) (cs : List Value) (x : DataW H × List MemPlace), Rows.uptoBulk x.1 < K → DataW.trod enc P w 0 spare held n e cs = some x → ∃ a, R none' w a cs ∧ Q a x.1)
  {fuel : Nat} {cs : List Value} {x : DataW H × List MemPlace} (h : DataW.trod enc P w 0 spare held fuel t cs = some x) (hK : Rows.uptoBulk x.1 ≤ K) :
  ∃ v xs, cs = [v] ∧ IsSl sz R none' w v xs ∧ ((x.1 = .nil ∧ xs = []) ∨ ∃ ds sp, x.1 = .slice ds sp ∧ ds.length = xs.length ∧ ∀ i (h1 : i < xs.length) (h2 : i < ds.length), Q xs[i] ds[i]) := by
 rcases Go.Deep.open_slice ht h with ⟨rfl, rfl⟩ | ⟨a, len, cap, m, n, D, Pl, rfl, hb, hl, hm, hmm, rfl, hx⟩
 · exact ⟨_, [], rfl, IsSl.nil _ _ _ _, .inl ⟨rfl, rfl⟩⟩
 · have hlm : len ≤ m := by rw [hmm]; split <;> omega
   have key : ∀ i : Fin len, ∃ q : α × List Value, w.cells? 0 (a.add (i.1 * sz)) sz = some q.2 ∧ R none' w q.1 q.2 ∧ Q q.1 (D i.1) := fun i => by
    obtain ⟨cs', h1, h2⟩ := hx i.1 (by have := i.2; omega)
    obtain ⟨y, hy1, hy2⟩ := he n cs' _ (by
     have hmem : D i.1 ∈ (List.range len).map D := List.mem_map.2 ⟨i.1, List.mem_range.2 i.2, rfl⟩
     have h3 := bulk_mem hmem
     simp only [Rows.uptoBulk] at hK
     simp only
     omega) h2
    rw [hc] at h1
    exact ⟨(y, cs'), h1, hy1, hy2⟩
   obtain ⟨f, hf⟩ := Classical.axiomOfChoice key
   refine ⟨_, List.ofFn fun i => (f i).1, rfl, ⟨some a, cap, by rw [List.length_ofFn], by rw [List.length_ofFn]; exact hl, (fun h => by cases h), fun hne => ?_⟩, .inr ⟨_, _, rfl, by simp, fun i h1 h2 => ?_⟩⟩
   · have hpos : 0 < len := by
      rcases Nat.eq_zero_or_pos len with h | h
      · subst h; simp at hne
      · exact h
     obtain ⟨b, off, spot⟩ := a
     have hs : spot = none ∧ b < w.heap.size := by
      obtain ⟨_, h1, h2⟩ := World.cells?_some (hf ⟨0, hpos⟩).1
      have h3 := h2 0 hsz
      have hlen : 0 < (f ⟨0, hpos⟩).2.length := by omega
      rw [List.getElem?_eq_getElem hlen] at h3
      have e0 : ((⟨b, off, spot⟩ : Addr).add (0 * sz)).add 0 = ⟨b, off, spot⟩ := by simp [Addr.add]
      simp only [e0] at h3
      exact ⟨World.cell?_spot h3, World.block_lt_of_cell? w _ h3⟩
     obtain ⟨rfl, hbw⟩ := hs
     refine ⟨b, off, rfl, fun h => h, hbw, fun i hi => ?_⟩
     rw [List.length_ofFn] at hi
     have hfi := hf ⟨i, hi⟩
     have e : (⟨b, off, none⟩ : Addr).add (i * sz) = ⟨b, off + i * sz, none⟩ := by unfold Addr.add; split <;> simp_all
     have h1 := hfi.1
     simp only [e] at h1
     exact ⟨_, (cells_at h1).2, by rw [List.getElem_ofFn]; exact hfi.2.1⟩
   · rw [List.length_ofFn] at h1
     have h3 := (hf ⟨i, h1⟩).2.2
     rw [List.getElem_ofFn]
     simpa using h3
end
theorem four_len' : ∀ {cs : List Value}, cs.length = 4 → ∃ c0 c1 c2 c3, cs = [c0, c1, c2, c3]
 | [c0, c1, c2, c3], _ => ⟨c0, c1, c2, c3, rfl⟩
section
variable {H : Type} {enc : TypeId × Value → H} {w : World} {spare : Nat → Bool} {held : Bool}
theorem open_nd (K : Nat) : ∀ (fuel : Nat) (cs : List Value) (x : DataW H × List MemPlace), Rows.uptoBulk x.1 ≤ K → DataW.trod enc Tryz.prog w 0 spare held fuel 24 cs = some x → ∃ t : Nd, IsNd none' w t cs ∧ t.size ≤ Rows.uptoBulk x.1 := by
 induction K with
 | zero =>
  intro fuel cs x hK h
  obtain ⟨y0, y1, y2, y3, m, rfl, _⟩ := Go.Joins.trod_struct4 Tryz.underlying24 h
  simp only [Rows.uptoBulk] at hK
  omega
 | succ K ih =>
  intro fuel cs x hK h
  obtain ⟨y0, y1, y2, y3, m, rfl, hl, t0, t1, t2, t3⟩ := Go.Joins.trod_struct4 Tryz.underlying24 h
  have e4 : Tryz.prog.cellsOf 24 = 4 := by kernel_rfl
  rw [e4] at hl
  obtain ⟨c0, c1, c2, c3, rfl⟩ := four_len' hl
  have ks : Tryz.prog.cellsOf 9 = 1 := by kernel_rfl
  have ki : Tryz.prog.cellsOf 3 = 1 := by kernel_rfl
  have ka : Tryz.prog.cellsOf 22 = 1 := by kernel_rfl
  simp only [ki, ks, ka, List.drop_zero, List.take_succ_cons, List.take_zero, List.drop_succ_cons] at t0 t1 t2 t3
  obtain ⟨k, e0, _⟩ := DataW.trod_int Tryz.underlying3 t0
  obtain ⟨n, e1, f1, _⟩ := DataW.trod_string Tryz.underlying9 t1
  subst f1
  obtain ⟨p, e3, _⟩ := DataW.trod_int Tryz.underlying3 t3
  simp only [Rows.uptoBulk, Rows.uptoBulkAll] at hK ⊢
  obtain ⟨v, l, e2, hsl, hq⟩ := open_slK (α := Nd) (sz := 4) (R := IsNd) (fun t d => t.size ≤ Rows.uptoBulk d) (by omega) Tryz.underlying22 e4 K (fun n cs x hx h => ih n cs x (by omega) h) t2 (by omega)
  injection e0 with e0 _
  injection e1 with e1 _
  injection e2 with e2 _
  injection e3 with e3 _
  subst e0 e1 e2 e3
  have hsum : Nd.sizeL l + 1 ≤ Rows.uptoBulk y2.1 := by
   rcases hq with ⟨e, rfl⟩ | ⟨ds, sp, e, hlen, hq⟩
   · rw [e]; simp [Rows.uptoBulk, Nd.sizeL]
   · rw [e, Rows.uptoBulk]
     have := bulk_sum (F := Nd.sizeL) (f := Nd.size) rfl (fun _ _ => rfl) l ds hlen hq
     omega
  refine ⟨.mk k n.data.toList l p, ?_, ?_⟩
  · have := IsNd.of (k := k) (n := n.data.toList) (p := p) hsl
    simpa using this
  · rw [Nd.size]; omega
end
end Go.Proofs.YthbmjamgidfneaaGreatDoor
