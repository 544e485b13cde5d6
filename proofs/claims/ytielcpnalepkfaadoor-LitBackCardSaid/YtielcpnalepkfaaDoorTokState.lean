import Derived.Test.YtielcpnalepkfaaDoorTokIn
import Derived.Test.YtielcpnalepkfaaDoorLater
namespace Go.Proofs.YtielcpnalepkfaaDoor
open Go.RowKit Go.Lib Go.BigFrame
def tokCells (t : Tok) : List Value := [.int .i64 t.kind, .string ⟨t.text.toArray⟩, .int .i64 t.pos]
def tokVals (l : List Tok) : List Value := l.flatMap tokCells
/-- The scanner's block and its two rows. -/
def St (base sb : Nat) (w : World) (s : List UInt8) (k : Nat) (l n : List Tok) : Prop :=
  ∃ vl vn, w.heap[sb]? = some (.cells #[.string ⟨s.toArray⟩, .int .i64 k, vl, vn] 60 (0, 0)) ∧ w.ownsRow base 38 3 vl l.length (tokVals l) ∧ w.ownsRow base 38 3 vn n.length (tokVals n) ∧
    (∀ g, vl.ownBlock = some g → vn.ownBlock = some g → False) ∧ base ≤ sb
def StPost (base sb : Nat) (s : List UInt8) (k : Nat) (l n : List Tok) (w : World) (e : Ending) (w' : World) : Prop :=
  e = .returned (.tuple #[]) ∧ St base sb w' s k l n ∧ Ext (up base) w w'
theorem info29 : (Tryd.prog.info? 38).map (fun i => (i.zero, i.size, i.bytes)) = some (some (.agg #[.int .i64 0, .string ⟨#[]⟩, .int .i64 0]), 3, 32) := by kernel_rfl
theorem own_ne {w : World} {base : Nat} {size : Nat} {v : Value} {n : Nat} {xs : List Value} (h : w.ownsRow base 38 size v n xs) {sb : Nat} {cs : Array Value} (hs : w.heap[sb]? = some (.cells cs 60 (0, 0))) (g : Nat) (hg : v.ownBlock = some g) : g ≠ sb := by
  rcases h.2 with ⟨rfl, _⟩ | ⟨g', cap, cur, rfl, hb, hgg, rest⟩
  · cases hg
  · injection hg with hg
    subst hg
    rintro rfl
    rw [hgg] at hs
    cases hs
theorem tokVals_snoc (l : List Tok) (t : Tok) : tokVals (l ++ [t]) = tokVals l ++ tokCells t := by simp [tokVals]
theorem tok_src {w : World} {b : Nat} {cs : List Value} {t : TypeId} {fz : Nat × Nat} (h : w.heap[b]? = some (.cells cs.toArray t fz)) (hl : cs.length = 3) (h1 : ∀ u ∈ cs, u.oneCell' = true) : Src Tryd.prog 3 34 (.slice (some ⟨b, 0, none⟩) 1 1) 1 cs w :=
  Src.ofSlice _ Tryd.underlying34 _ 1 1 _ (by rw [hl]) (fun j u hj => by
    have e : (⟨b, 0, none⟩ : Addr).add j = ⟨b, j, none⟩ := by simp [Addr.add]; omega
    rw [e, cell_at h, List.getElem?_toArray, hj]) h1
/-- What an append of one token onto the first row leaves. -/
theorem St.snoc {base sb : Nat} {w w2 : World} {s : List UInt8} {k : Nat} {l n : List Tok} {vl vn v2 : Value} {t : Tok} (hh : w.heap[sb]? = some (.cells #[.string ⟨s.toArray⟩, .int .i64 k, vl, vn] 60 (0, 0))) (hb : base ≤ sb)
    (rn : w.ownsRow base 38 3 vn n.length (tokVals n)) (hne : ∀ g, vl.ownBlock = some g → vn.ownBlock = some g → False) (x2 : Ext (fun i => vl.ownBlock = some i) w w2)
    (own2 : w2.ownsRow base 38 3 v2 (l.length + 1) (tokVals l ++ tokCells t)) (blk2 : v2.ownBlock = vl.ownBlock ∨ ∃ g, v2.ownBlock = some g ∧ w.heap.size ≤ g) (hvl : ∀ g, vl.ownBlock = some g → g ≠ sb) :
    St base sb (w2.setCell ⟨sb, 2, none⟩ v2) s k (l ++ [t]) n := by
  have h2 : w2.heap[sb]? = some (.cells #[.string ⟨s.toArray⟩, .int .i64 k, vl, vn] 60 (0, 0)) := x2.heap hh (fun h => hvl _ h rfl)
  have xs : Ext (one sb) w2 (w2.setCell ⟨sb, 2, none⟩ v2) := (Ext.refl _ _).set 2 v2
  have rn2 := ownsRow_ext rn x2 (fun g h1 h2 => hne g h2 h1)
  refine ⟨v2, vn, ?_, ?_, ?_, ?_, hb⟩
  · rw [heap_setCell_same h2]; rfl
  · have := ownsRow_ext own2 xs (fun g hg he => own_ne own2 h2 g hg he)
    rw [tokVals_snoc, List.length_append]
    exact this
  · exact ownsRow_ext rn2 xs (fun g hg he => own_ne rn2 h2 g hg he)
  · intro g h3 h4
    rcases blk2 with h5 | ⟨g', h5, h6⟩
    · exact hne g (h5 ▸ h3) h4
    · rw [h5] at h3
      injection h3 with h3
      have := (rn.lt g h4).2
      omega
set_option maxHeartbeats 1600000 in
theorem add_any (base sb : Nat) (kind fr k : Nat) (s : List UInt8) (l n : List Tok) (w : World) (st : St base sb w s k l n) (hf : fr ≤ k) (hk : k ≤ s.length) (hl : l.length ≤ 1000000) :
    Calls Tryd.prog 63 #[.pointer (some ⟨sb, 0, none⟩), .int .i64 kind, .int .i64 fr] w (StPost base sb s k (l ++ [⟨kind, (s.drop fr).take (k - fr), fr⟩]) n w) := by
  obtain ⟨vl, vn, hh, rl, rn, hne, hb⟩ := st
  have c0 : ∀ t : LaterF (fun i => base ≤ i ∧ i ≠ sb) w, t.w.cell? ⟨sb, 0, none⟩ = some (.string ⟨s.toArray⟩) := fun t => by
    rw [cell_at (t.x.heap hh (by simp))]; rfl
  have c1 : ∀ t : LaterF (fun i => base ≤ i ∧ i ≠ sb) w, t.w.cell? ⟨sb, 1, none⟩ = some (.int .i64 k) := fun t => by
    rw [cell_at (t.x.heap hh (by simp))]; rfl
  have c2 : ∀ t : LaterF (fun i => base ≤ i ∧ i ≠ sb) w, t.w.cell? ⟨sb, 2, none⟩ = some vl := fun t => by
    rw [cell_at (t.x.heap hh (by simp))]; rfl
  have HH := hid hh
  have RL := hid rl
  have RN := hid rn
  clear hh rl rn
  go_enter Tryd.func63, Tryd.ntmps63
  refine region_in (fun i => base ≤ i ∧ i ≠ sb) w [0, 1, 2, 3, 4, 5, 6, 7, 8, 9, 10, 11, 12, 13, 14, 15, 16, 17] [(18, true), (19, true), (20, false), (21, false), (22, false)] (by kernel_rfl) (by kernel_rfl) (fun dst v c a w h => by cases dst <;> exact h) (Ext.refl _ _) ?_
  simp only [sel, List.getElem?_cons_succ, List.getElem?_cons_zero]
  repeat (go_big_quiet_step (fail))
  refine wpQuiet_nil ?_
  rw [extract_eq s fr k]
  obtain ⟨t, ht⟩ : ∃ t, t = (s.drop fr).take (k - fr) := ⟨_, rfl⟩
  rw [← ht]
  have HT := hid ht
  clear ht
  simp only [wpChain, sel, List.getElem?_cons_succ, List.getElem?_cons_zero]
  go_wp2_with fail
  obtain ⟨w1, hw1⟩ : ∃ w1, w1 = (w.alloc (.cells #[.int .i64 kind, .string ⟨t.toArray⟩, .int .i64 fr] 38)).drew := ⟨_, rfl⟩
  rw [← hw1]
  have X1 : Ext none' w w1 := by rw [hw1]; exact ((Ext.refl _ _).alloc _).drew
  refine ⟨In.of (X1.mono fun i _ h => h.elim), ?_⟩
  have own1 : w1.ownsRow base 38 3 vl l.length (tokVals l) := ownsRow_ext RL.out X1 (fun _ _ h => h)
  have src : Src Tryd.prog 3 34 (.slice (some ⟨w.heap.size, 0, none⟩) 1 1) 1 (tokCells ⟨kind, t, fr⟩) w1 := tok_src (t := 38) (fz := (0, 0)) (by rw [hw1]; exact heap_alloc_at rfl _) rfl (by simp [tokCells, Value.oneCell'])
  obtain ⟨i0, hi, hz0, hz1, hz2⟩ := info_parts info29
  refine wpList_app _ rfl (.tmp 10) (.tmp 24) 34 34 rfl base 38 i0 _ 3 32 Tryd.underlying34 hi hz0 hz1 hz2 rfl vl l.length (tokVals l) rfl own1 _ 1 _ rfl src ?_ ?_ ?_ ?_
  · unfold maxLen; omega
  · omega
  · have := heap_lt HH.out; have := X1.size; omega
  intro v2 w2 own2 grow2 blk2 _
  obtain ⟨a2, c2, rfl⟩ := own_slice own2
  have hvl := own_ne RL.out HH.out
  have X2 : Ext (fun i => vl.ownBlock = some i) w w2 := (X1.mono fun i _ h => h.elim).grown grow2 (fun k hk => .inl hk)
  have X2' : Ext (fun i => base ≤ i ∧ i ≠ sb) w w2 := X2.mono fun i _ h => ⟨(RL.out.lt i h).1, hvl i h⟩
  have h2 := X2.heap HH.out (fun h => hvl _ h rfl)
  have p2 := cell_at h2 2
  have pf := free_at h2 2
  simp only [List.getElem?_toArray, List.getElem?_cons_zero, List.getElem?_cons_succ] at p2
  have fin := hid (St.snoc (t := ⟨kind, t, fr⟩) HH.out hb RN.out hne X2 own2 (blk2.imp id fun h => ⟨_, h, X1.size⟩) hvl)
  have XX := hid X2'
  clear own1 src hi hz0 hz1 hz2 own2 grow2 blk2 hvl X2 X2' h2 X1 hw1
  refine wpList_nil ?_
  refine ⟨In.of XX.out, ?_⟩
  go_wp2_with fail
  go_end0
  refine ⟨rfl, ?_, ?_⟩
  · exact fin.out
  · exact (XX.out.mono fun i _ h => h.1).setCell (p := ⟨sb, 2, none⟩) (.inl hb) _
end Go.Proofs.YtielcpnalepkfaaDoor
