/-
  What came in, opened, with its bulk: slices and trees (by induction on the bulk).
-/
import Derived.Test.YtmlhkgocilpobaaOpen
import Derived.Test.YtmlhkgocilpobaaRows
import Derived.Test.YtmlhkgocilpobaaKiFind
import Derived.Deep.Strs
import Derived.Lib.SmallJoins
namespace Go.Proofs.Ytmlhkgocilpobaa
open Go.RowKit Go.Lib Go.ChangeShapes Go.WideShapes
theorem bulk_mem {H : Type} : ∀ {l : List (DataW H)} {d : DataW H}, d ∈ l → Rows.uptoBulk d ≤ Rows.uptoBulkAll l
  | a :: r, d, h => by
    rw [Rows.uptoBulkAll]
    rcases List.mem_cons.1 h with rfl | h
    · omega
    · have := bulk_mem h; omega
theorem bulk_sum {H : Type} {α : Type} {f : α → Nat} {F : List α → Nat} (h0 : F [] = 0) (hc : ∀ a r, F (a :: r) = f a + F r) : ∀ (xs : List α) (ds : List (DataW H)), ds.length = xs.length → (∀ i (h1 : i < xs.length) (h2 : i < ds.length), f xs[i] ≤ Rows.uptoBulk ds[i]) → F xs ≤ Rows.uptoBulkAll ds
  | [], _, _, _ => by rw [h0]; exact Nat.zero_le _
  | a :: r, [], h, _ => by cases h
  | a :: r, d :: s, h, hi => by
    rw [hc, Rows.uptoBulkAll]
    have h1 := hi 0 (by simp) (by simp)
    have h2 := bulk_sum h0 hc r s (by simpa using h) (fun i h1 h2 => hi (i + 1) (Nat.succ_lt_succ h1) (Nat.succ_lt_succ h2))
    simp only [List.getElem_cons_zero] at h1
    omega
theorem bulk_len {H : Type} : ∀ ds : List (DataW H), (∀ d ∈ ds, 1 ≤ Rows.uptoBulk d) → ds.length ≤ Rows.uptoBulkAll ds
  | [], _ => Nat.zero_le _
  | d :: s, h => by
    rw [Rows.uptoBulkAll, List.length_cons]
    have h1 := h d (by simp)
    have h2 := bulk_len s (fun x hx => h x (by simp [hx]))
    omega
theorem three_len : ∀ {cs : List Value}, cs.length = 3 → ∃ c0 c1 c2, cs = [c0, c1, c2]
  | [c0, c1, c2], _ => ⟨c0, c1, c2, rfl⟩
theorem six_len : ∀ {cs : List Value}, cs.length = 6 → ∃ b0 b1 b2 b3 b4 b5, cs = [b0, b1, b2, b3, b4, b5]
  | [b0, b1, b2, b3, b4, b5], _ => ⟨b0, b1, b2, b3, b4, b5, rfl⟩
section
variable {H : Type} {enc : TypeId × Value → H} {P : Program} {w : World} {spare : Nat → Bool} {held : Bool}
theorem open_slK {α : Type} {sz : Nat} {R : Lay α} (Q : α → DataW H → Prop) (hsz : 0 < sz) {t e : TypeId} (ht : P.underlying t = some (.slice e)) (hc : P.cellsOf e = sz) (K : Nat)
    (he : ∀ (n : Nat) (cs : List Value) (x : DataW H × List MemPlace), Rows.uptoBulk x.1 < K → DataW.trod enc P w 0 spare held n e cs = some x → ∃ a, R none' w a cs ∧ Q a x.1)
    {fuel : Nat} {cs : List Value} {x : DataW H × List MemPlace} (h : DataW.trod enc P w 0 spare held fuel t cs = some x) (hK : Rows.uptoBulk x.1 ≤ K) :
    ∃ v xs, cs = [v] ∧ IsSl sz R none' w v xs ∧ ((x.1 = .nil ∧ xs = []) ∨ ∃ ds sp, x.1 = .slice ds sp ∧ ds.length = xs.length ∧ ∀ i (h1 : i < xs.length) (h2 : i < ds.length), Q xs[i] ds[i]) := by
  rcases Go.Deep.open_slice ht h with ⟨rfl, rfl⟩ | ⟨a, len, cap, m, n, D, Pl, rfl, hb, hl, hm, hmm, rfl, hx⟩
  · exact ⟨_, [], rfl, IsSl.nil _ _ _ _, .inl ⟨rfl, rfl⟩⟩
  · have hlm : len ≤ m := by rw [hmm]; split <;> omega
    have key : ∀ i : Fin len, ∃ q : α × List Value, w.cells? 0 (a.add (i.1 * sz)) sz = some q.2 ∧ R none' w q.1 q.2 ∧ Q q.1 (D i.1) := fun i => by
      obtain ⟨cs', h1, h2⟩ := hx i.1 (by have := i.2; omega)
      obtain ⟨y, hy1, hy2⟩ := he n cs' _ (by
        have hmem : D i.1 ∈ (List.range len).map D := List.mem_map.2 ⟨i.1, List.mem_range.2 i.2, rfl⟩
        have h3 := bulk_mem hmem
        simp only [Rows.uptoBulk] at hK
        simp only
        omega) h2
      rw [hc] at h1
      exact ⟨(y, cs'), h1, hy1, hy2⟩
    obtain ⟨f, hf⟩ := Classical.axiomOfChoice key
    refine ⟨_, List.ofFn fun i => (f i).1, rfl, ⟨some a, cap, by rw [List.length_ofFn], by rw [List.length_ofFn]; exact hl, (fun h => by cases h), fun hne => ?_⟩, .inr ⟨_, _, rfl, by simp, fun i h1 h2 => ?_⟩⟩
    · have hpos : 0 < len := by
        rcases Nat.eq_zero_or_pos len with h | h
        · subst h; simp at hne
        · exact h
      obtain ⟨b, off, spot⟩ := a
      have hs : spot = none ∧ b < w.heap.size := by
        obtain ⟨_, h1, h2⟩ := World.cells?_some (hf ⟨0, hpos⟩).1
        have h3 := h2 0 hsz
        have hlen : 0 < (f ⟨0, hpos⟩).2.length := by omega
        rw [List.getElem?_eq_getElem hlen] at h3
        have e0 : ((⟨b, off, spot⟩ : Addr).add (0 * sz)).add 0 = ⟨b, off, spot⟩ := by simp [Addr.add]
        simp only [e0] at h3
        exact ⟨World.cell?_spot h3, World.block_lt_of_cell? w _ h3⟩
      obtain ⟨rfl, hbw⟩ := hs
      refine ⟨b, off, rfl, fun h => h, hbw, fun i hi => ?_⟩
      rw [List.length_ofFn] at hi
      have hfi := hf ⟨i, hi⟩
      have e : (⟨b, off, none⟩ : Addr).add (i * sz) = ⟨b, off + i * sz, none⟩ := by unfold Addr.add; split <;> simp_all
      have h1 := hfi.1
      simp only [e] at h1
      exact ⟨_, (cells_at h1).2, by rw [List.getElem_ofFn]; exact hfi.2.1⟩
    · rw [List.length_ofFn] at h1
      have h3 := (hf ⟨i, h1⟩).2.2
      rw [List.getElem_ofFn]
      simpa using h3
end
section
variable {H : Type} {enc : TypeId × Value → H} {w : World} {spare : Nat → Bool} {held : Bool}
/-- A tree, and that it is no larger than its reading's bulk. -/
theorem open_ty (K : Nat) : ∀ (fuel : Nat) (cs : List Value) (x : DataW H × List MemPlace), Rows.uptoBulk x.1 ≤ K → DataW.trod enc Try.prog w 0 spare held fuel 43 cs = some x → ∃ t : Ty, IsTy none' w t cs ∧ t.size ≤ Rows.uptoBulk x.1 := by
  induction K with
  | zero =>
    intro fuel cs x hK h
    obtain ⟨y0, y1, y2, m, rfl, _⟩ := Go.Deep.trod_struct3 Try.underlying43 h
    simp only [Rows.uptoBulk] at hK
    omega
  | succ K ih =>
    intro fuel cs x hK h
    obtain ⟨y0, y1, y2, m, rfl, hl, t0, t1, t2⟩ := Go.Deep.trod_struct3 Try.underlying43 h
    have e3 : Try.prog.cellsOf 43 = 3 := by kernel_rfl
    rw [e3] at hl
    obtain ⟨c0, c1, c2, rfl⟩ := three_len hl
    have ks : Try.prog.cellsOf 9 = 1 := by kernel_rfl
    have ki : Try.prog.cellsOf 3 = 1 := by kernel_rfl
    have ka : Try.prog.cellsOf 24 = 1 := by kernel_rfl
    simp only [ki, ks, ka, List.drop_zero, List.take_succ_cons, List.take_zero, List.drop_succ_cons] at t0 t1 t2
    obtain ⟨k, e0, _⟩ := DataW.trod_int Try.underlying3 t0
    obtain ⟨n, e1, _⟩ := DataW.trod_string Try.underlying9 t1
    simp only [Rows.uptoBulk, Rows.uptoBulkAll] at hK ⊢
    obtain ⟨v, l, e2, hsl, hq⟩ := open_slK (α := Ty) (sz := 3) (R := IsTy) (fun t d => t.size ≤ Rows.uptoBulk d) (by omega) Try.underlying24 e3 K (fun n cs x hx h => ih n cs x (by omega) h) t2 (by omega)
    injection e0 with e0 _
    injection e1 with e1 _
    injection e2 with e2 _
    subst e0 e1 e2
    have hsum : Ty.sizeL l + 1 ≤ Rows.uptoBulk y2.1 := by
      rcases hq with ⟨e, rfl⟩ | ⟨ds, sp, e, hlen, hq⟩
      · rw [e]; simp [Rows.uptoBulk, Ty.sizeL]
      · rw [e, Rows.uptoBulk]
        have := bulk_sum (F := Ty.sizeL) (f := Ty.size) rfl (fun _ _ => rfl) l ds hlen hq
        omega
    refine ⟨.mk k n.data.toList l, ?_, ?_⟩
    · have := IsTy.of (k := k) (n := n.data.toList) hsl
      simpa using this
    · rw [Ty.size]; omega
/-- Definitions: none is larger than the reading's bulk. -/
theorem open_defs (K : Nat) {fuel : Nat} {cs : List Value} {x : DataW H × List MemPlace} (hK : Rows.uptoBulk x.1 ≤ K) (h : DataW.trod enc Try.prog w 0 spare held fuel 22 cs = some x) : ∃ v ds, cs = [v] ∧ IsSl 6 IsDf none' w v ds ∧ ∀ d ∈ ds, d.ty.size ≤ K := by
  obtain ⟨v, ds, e, hsl, hq⟩ := open_slK (α := Df) (sz := 6) (R := IsDf) (fun d r => d.ty.size ≤ Rows.uptoBulk r) (by omega) Try.underlying22 (by kernel_rfl) K (fun n cs x hx h => by
    obtain ⟨y0, y1, y2, y3, m, rfl, hl, t0, t1, t2, t3⟩ := Go.Joins.trod_struct4 Try.underlying45 h
    have e6 : Try.prog.cellsOf 45 = 6 := by kernel_rfl
    rw [e6] at hl
    obtain ⟨b0, b1, b2, b3, b4, b5, rfl⟩ := six_len hl
    have ks : Try.prog.cellsOf 9 = 1 := by kernel_rfl
    have kn : Try.prog.cellsOf 23 = 1 := by kernel_rfl
    have kt : Try.prog.cellsOf 43 = 3 := by kernel_rfl
    have kb : Try.prog.cellsOf 4 = 1 := by kernel_rfl
    simp only [ks, kn, kt, kb, List.drop_zero, List.take_succ_cons, List.take_zero, List.drop_succ_cons] at t0 t1 t2 t3
    obtain ⟨n, e0, _⟩ := DataW.trod_string Try.underlying9 t0
    obtain ⟨pv, ps, e1, hp⟩ := open_strsL Try.underlying23 Try.underlying9 ks t1
    obtain ⟨t, ht, hts⟩ := open_ty _ _ _ _ (Nat.le_refl _) t2
    obtain ⟨al, e3, _⟩ := DataW.trod_bool Try.underlying4 t3
    obtain ⟨tv, e2, htv⟩ := ht.parts
    injection e0 with e0 _
    injection e1 with e1 _
    injection e2 with e2 e4
    injection e4 with e4 e5
    injection e5 with e5 _
    injection e3 with e3 _
    subst e0 e1 e2 e3 e4 e5
    refine ⟨⟨n.data.toList, ps, t, al⟩, ⟨_, _, by simp, hp, htv⟩, ?_⟩
    simp only [Rows.uptoBulk, Rows.uptoBulkAll]
    omega) h hK
  refine ⟨v, ds, e, hsl, fun d hd => ?_⟩
  rcases hq with ⟨_, rfl⟩ | ⟨rs, sp, e, hlen, hq⟩
  · cases hd
  · obtain ⟨i, hi, rfl⟩ := List.getElem_of_mem hd
    have h1 := hq i hi (by omega)
    have h2 := bulk_mem (List.getElem_mem (show i < rs.length by omega))
    rw [e, Rows.uptoBulk] at hK
    omega
end
end Go.Proofs.Ytmlhkgocilpobaa
