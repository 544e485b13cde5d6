import Derived.Test.YtielcpnalepkfaaDoorTokEnds
namespace Go.Proofs.YtielcpnalepkfaaDoor
open Go.RowKit Go.Lib Go.BigFrame
set_option maxHeartbeats 1600000 in
theorem line_any (base sb k p : Nat) (s : List UInt8) (l n : List Tok) (w : World) (st : St base sb w s k l n) (hl : l.length ≤ 900000) (hm : MaxL w) (hg : ∀ t ∈ l, Good t) (hx : ∀ t ∈ l, t.text.length ≤ 1000000) :
    Calls Tryd.prog 46 #[.pointer (some ⟨sb, 0, none⟩), .int .i64 p] w (StPost base sb s k (lineP l p) n w) := by
  have CE := hid (ends_any base sb k s l n w st (by omega) hm hg hx)
  have ST := hid st
  obtain ⟨vl, vn, hh, rl, rn, hne, hb⟩ := st
  have HH := hid hh
  have RL := hid rl
  have RN := hid rn
  clear hh rl rn hm hg hx
  go_enter Tryd.func46, Tryd.ntmps46
  go_wp2_with fail
  refine CE.out.mono ?_
  rintro e w1 ⟨rfl, X1⟩
  by_cases hE : endsP l = true
  · have hv : lineP l p = l ++ [⟨6, [10], p⟩] := by unfold lineP; rw [if_pos hE]
    have HV := hid hv
    clear hv
    rw [hE]
    have h1 := X1.heap HH.out (fun h => h)
    have p2 := cell_at h1 2
    simp only [List.getElem?_toArray, List.getElem?_cons_zero, List.getElem?_cons_succ] at p2
    have H1 := hid h1
    have HX1 := hid X1
    clear h1 hE X1
    obtain ⟨i0, hi, hz0, hz1, hz2⟩ := info_parts info29
    have I0 := hid hi
    have I1 := hid hz0
    have I2 := hid hz1
    have I3 := hid hz2
    clear hi hz0 hz1 hz2
    have own1 := ownsRow_ext RL.out HX1.out (fun _ _ h => h)
    have src : Src Tryd.prog 3 34 (.slice (some ⟨w1.heap.size, 0, none⟩) 1 1) 1 (tokCells ⟨6, [10], p⟩) (w1.alloc (.cells #[.int .i64 6, .string ⟨#[10]⟩, .int .i64 p] 38)) := tok_src (t := 38) (fz := (0, 0)) (heap_alloc_at rfl _) rfl (by simp [tokCells, Value.oneCell'])
    have O1 := hid (own1.alloc (.cells #[.int .i64 6, .string ⟨#[10]⟩, .int .i64 p] 38))
    have S1 := hid src
    clear own1 src
    go_wp2_with (at_builtin; refine wpList_app _ rfl (.tmp 10) (.tmp 13) 34 34 rfl base 38 i0 _ 3 32 Tryd.underlying34 I0.out I1.out I2.out I3.out rfl vl l.length (tokVals l) rfl O1.out _ 1 _ rfl S1.out ?_ ?_ ?_ ?_)
    · unfold maxLen; omega
    · omega
    · have := heap_lt HH.out; have := HX1.out.size; simp; omega
    intro v2 w2 own2 grow2 blk2 _
    obtain ⟨a2, c2, rfl⟩ := own_slice own2
    have hvl := own_ne RL.out HH.out
    have X1 : Ext none' w (w1.alloc (.cells #[.int .i64 6, .string ⟨#[10]⟩, .int .i64 p] 38)) := HX1.out.alloc _
    have X2 : Ext (fun i => vl.ownBlock = some i) w w2 := (X1.mono fun i _ h => h.elim).grown grow2 (fun k hk => .inl hk)
    have h2 := X2.heap HH.out (fun h => hvl _ h rfl)
    have p2 := cell_at h2 2
    have pf := free_at h2 2
    simp only [List.getElem?_toArray, List.getElem?_cons_zero, List.getElem?_cons_succ] at p2
    have fin := hid (St.snoc (t := ⟨6, [10], p⟩) HH.out hb RN.out hne X2 own2 (blk2.imp id fun h => ⟨_, h, by have := HX1.out.size; omega⟩) hvl)
    have XX := hid (X2.mono (G := up base) fun i _ h => (RL.out.lt i h).1)
    clear own2 grow2 blk2 hvl X2 h2 X1
    go_wp2_with fail
    go_end0
    refine ⟨rfl, ?_, ?_⟩
    · rw [HV.out]; exact fin.out
    · exact XX.out.setCell (p := ⟨sb, 2, none⟩) (.inl hb) _
  · have hv : lineP l p = l := by unfold lineP; rw [if_neg hE]
    have HV := hid hv
    have hE' : endsP l = false := by simpa using hE
    rw [hE']
    clear hv hE hE'
    have HX1 := hid X1
    clear X1
    go_wp2_with fail
    go_end0
    refine ⟨rfl, ?_, HX1.out.mono fun i _ h => h.elim⟩
    rw [HV.out]
    exact ⟨vl, vn, HX1.out.heap HH.out (fun h => h), ownsRow_ext RL.out HX1.out (fun _ _ h => h), ownsRow_ext RN.out HX1.out (fun _ _ h => h), hne, hb⟩
/-- It gives up at a place. -/
def gave (p : Nat) : Value := .iface 78 (.agg #[.int .i64 p])
theorem need_yes (v : Value) (p : Nat) (w : World) : Calls Tryd.prog 76 #[v, .bool true, .int .i64 p] w fun e w' => e = .returned (.tuple #[]) ∧ w = w' := by
  go_enter Tryd.func76, Tryd.ntmps76
  go_wp2
  go_end0
  exact ⟨rfl, rfl⟩
theorem need_no (v : Value) (p : Nat) (w : World) : Calls Tryd.prog 76 #[v, .bool false, .int .i64 p] w fun e w' => e = .panicked [{ v := gave p, recovered := false }] ∧ w = w' := by
  go_enter Tryd.func76, Tryd.ntmps76
  go_wp2
  exact ⟨rfl, rfl, rfl⟩
end Go.Proofs.YtielcpnalepkfaaDoor
