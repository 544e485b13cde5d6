import Derived.Test.YtokjnalmjdighaaDoorTokTop
import Derived.Test.YtokjnalmjdighaaDoorTokStp
import Derived.Test.YtokjnalmjdighaaDoorTokREnds
import Derived.Test.YtokjnalmjdighaaDoorTokRSign
import Derived.Test.YtokjnalmjdighaaDoorTokRNote
namespace Go.Proofs.YtokjnalmjdighaaDoor
open Go.RowKit Go.Lib Go.BigFrame
theorem infoR : (Tryd.prog.info? 48).map (fun i => (i.zero, i.size, i.bytes)) = some (some (.agg #[.int .i64 0, .string ⟨#[]⟩, .int .i64 0]), 3, 32) := by kernel_rfl
theorem tok_srcR {w : World} {b : Nat} {cs : List Value} {t : TypeId} {fz : Nat × Nat} (h : w.heap[b]? = some (.cells cs.toArray t fz)) (hl : cs.length = 3) (h1 : ∀ u ∈ cs, u.oneCell' = true) : Src Tryd.prog 3 31 (.slice (some ⟨b, 0, none⟩) 1 1) 1 cs w :=
  Src.ofSlice _ Tryd.underlying31 _ 1 1 _ (by rw [hl]) (fun j u hj => by
    have e : (⟨b, 0, none⟩ : Addr).add j = ⟨b, j, none⟩ := by simp [Addr.add]; omega
    rw [e, cell_at h, List.getElem?_toArray, hj]) h1
/-- What the reference's loop keeps. -/
structure RsRel (s : List UInt8) (q : Except Nat (List Tok × List Tok)) (w wr : World) (vl vn : Value) (k : Nat) (l n : List Tok) (f : Nat) : Prop where
  le : k ≤ s.length
  rl : wr.ownsRow w.heap.size 48 3 vl l.length (tokVals l)
  rn : wr.ownsRow w.heap.size 48 3 vn n.length (tokVals n)
  hne : ∀ g, vl.ownBlock = some g → vn.ownBlock = some g → False
  inv : Inv s k l n
  hx : Ext none' w wr
  run : q = runP s f k l n
  fuel : s.length - k ≤ f
theorem RsRel.later {s : List UInt8} {q : Except Nat (List Tok × List Tok)} {w wr w2 : World} {vl vn : Value} {k : Nat} {l n : List Tok} {f : Nat} (R : RsRel s q w wr vl vn k l n f) (x : Ext none' wr w2) : RsRel s q w w2 vl vn k l n f :=
  { R with rl := ownsRow_ext R.rl x (fun _ _ h => h), rn := ownsRow_ext R.rn x (fun _ _ h => h), hx := R.hx.trans x }
/-- A step that leaves the rows. -/
theorem RsRel.step {s : List UInt8} {q : Except Nat (List Tok × List Tok)} {w wr : World} {vl vn : Value} {k : Nat} {l n l' n' : List Tok} {f k' : Nat} (R : RsRel s q w wr vl vn k l n f) (hk : k < s.length) (hs : stepP s k l n = some (k', l', n')) {wr' : World} {vl' vn' : Value}
    (rl : wr'.ownsRow w.heap.size 48 3 vl' l'.length (tokVals l')) (rn : wr'.ownsRow w.heap.size 48 3 vn' n'.length (tokVals n')) (hne : ∀ g, vl'.ownBlock = some g → vn'.ownBlock = some g → False) (x : Ext none' w wr') :
    RsRel s q w wr' vl' vn' k' l' n' (f - 1) := by
  have hle := stepP_le hs
  refine ⟨hle.2, rl, rn, hne, R.inv.step hs, x, ?_, by have := R.fuel; omega⟩
  rw [R.run, runP_step hk R.fuel, hs]
/-- The two rows. -/
structure RsRows (w wr : World) (vl vn : Value) (l n : List Tok) : Prop where
  rl : wr.ownsRow w.heap.size 48 3 vl l.length (tokVals l)
  rn : wr.ownsRow w.heap.size 48 3 vn n.length (tokVals n)
  hne : ∀ g, vl.ownBlock = some g → vn.ownBlock = some g → False
  hx : Ext none' w wr
theorem RsRel.rows {s : List UInt8} {q : Except Nat (List Tok × List Tok)} {w wr : World} {vl vn : Value} {k : Nat} {l n : List Tok} {f : Nat} (R : RsRel s q w wr vl vn k l n f) : RsRows w wr vl vn l n := ⟨R.rl, R.rn, R.hne, R.hx⟩
theorem RsRows.later {w wr w2 : World} {vl vn : Value} {l n : List Tok} (R : RsRows w wr vl vn l n) (x : Ext none' wr w2) : RsRows w w2 vl vn l n :=
  ⟨ownsRow_ext R.rl x (fun _ _ h => h), ownsRow_ext R.rn x (fun _ _ h => h), R.hne, R.hx.trans x⟩
theorem RsRows.snocL {w W w2 : World} {vl vn v2 : Value} {l n : List Tok} {t : Tok} (R : RsRows w W vl vn l n) (own2 : w2.ownsRow w.heap.size 48 3 v2 (l.length + 1) (tokVals l ++ tokCells t)) (grow : W.grownBy w2 vl.ownBlock)
    (blk : v2.ownBlock = vl.ownBlock ∨ v2.ownBlock = some W.heap.size) : RsRows w w2 v2 vn (l ++ [t]) n := by
  have x2 : Ext (fun i => vl.ownBlock = some i) W w2 := (Ext.refl _ _).grown grow (fun k hk => .inl hk)
  refine ⟨by rw [tokVals_snoc, List.length_append]; exact own2, ownsRow_ext R.rn x2 (fun g h1 h2 => R.hne g h2 h1), ?_, R.hx.grown grow (fun k hk => .inr (R.rl.lt k hk).1)⟩
  intro g h3 h4
  rcases blk with h5 | h5
  · exact R.hne g (h5 ▸ h3) h4
  · rw [h5] at h3
    injection h3 with h3
    have := (R.rn.lt g h4).2
    omega
theorem RsRows.snocN {w W w2 : World} {vl vn v2 : Value} {l n : List Tok} {t : Tok} (R : RsRows w W vl vn l n) (own2 : w2.ownsRow w.heap.size 48 3 v2 (n.length + 1) (tokVals n ++ tokCells t)) (grow : W.grownBy w2 vn.ownBlock)
    (blk : v2.ownBlock = vn.ownBlock ∨ v2.ownBlock = some W.heap.size) : RsRows w w2 vl v2 l (n ++ [t]) := by
  have x2 : Ext (fun i => vn.ownBlock = some i) W w2 := (Ext.refl _ _).grown grow (fun k hk => .inl hk)
  refine ⟨ownsRow_ext R.rl x2 (fun g h1 h2 => R.hne g h1 h2), by rw [tokVals_snoc, List.length_append]; exact own2, ?_, R.hx.grown grow (fun k hk => .inr (R.rn.lt k hk).1)⟩
  intro g h3 h4
  rcases blk with h5 | h5
  · exact R.hne g h3 (h5 ▸ h4)
  · rw [h5] at h4
    injection h4 with h4
    have := (R.rl.lt g h3).2
    omega
theorem RsRel.next {s : List UInt8} {q : Except Nat (List Tok × List Tok)} {w wr : World} {vl vn : Value} {k : Nat} {l n l' n' : List Tok} {f k' : Nat} (R : RsRel s q w wr vl vn k l n f) (hk : k < s.length) (hs : stepP s k l n = some (k', l', n')) {wr' : World} {vl' vn' : Value}
    (T : RsRows w wr' vl' vn' l' n') : RsRel s q w wr' vl' vn' k' l' n' (f - 1) := R.step hk hs T.rl T.rn T.hne T.hx
/-- One step, written out. -/
theorem stepP_eq {s : List UInt8} {k : Nat} {l n : List Tok} (hk : k < s.length) {c : UInt8} (hc : s[k] = c) : stepP s k l n =
    if k = 0 ∧ s.take 3 = [239, 187, 191] then some (3, l, n) else if c = 10 then some (k + 1, lineP l k, n) else if c = 32 ∨ c = 9 ∨ c = 13 then some (k + 1, l, n)
    else match noteP (s.drop k) with
      | .bad => none
      | .len m => some (k + m, (if 10 ∈ (s.drop k).take m then lineP l k else l), n ++ [⟨0, (s.drop k).take m, k⟩])
      | .none =>
        if letterB c.toNat then some (k + idLen (s.drop k), l ++ [⟨1 + wordK ((s.drop k).take (idLen (s.drop k))), (s.drop k).take (idLen (s.drop k)), k⟩], n)
        else if figB c.toNat then some (k + idLen (s.drop k), l ++ [⟨4, (s.drop k).take (idLen (s.drop k)), k⟩], n)
        else if c = 34 ∨ c = 96 then (match quo c false (s.drop (k + 1)) with
          | none => none
          | some m => some (k + 1 + m, l ++ [⟨5, (s.drop k).take (m + 1), k⟩], n))
        else if signP (s.drop k) = 0 then none else some (k + signP (s.drop k), l ++ [⟨6, (s.drop k).take (signP (s.drop k)), k⟩], n) := by
  have hh : (s.drop k).head? = some c := by rw [← hc]; simp [List.head?_drop, hk]
  have ht : (s.drop k).tail = s.drop (k + 1) := by rw [List.tail_drop]
  have hb : (k = 0 ∧ (s.drop k).take 3 = [239, 187, 191]) = (k = 0 ∧ s.take 3 = [239, 187, 191]) := by
    apply propext
    constructor
    · rintro ⟨h, h'⟩; subst h; exact ⟨rfl, h'⟩
    · rintro ⟨h, h'⟩; subst h; exact ⟨rfl, h'⟩
  unfold stepP
  simp only [hh, ht, hb]
  cases noteP (s.drop k) <;> cases quo c false (s.drop (k + 1)) <;> rfl
/-- What the reference's scan leaves. -/
def RScanPost (w : World) (r : ScR) (e : Ending) (w' : World) : Prop :=
  ∃ v u, e = .returned (.tuple #[v, u, .int .i64 r.pos, .int .i64 r.err]) ∧ Toks w.heap.size w' v r.toks ∧ Toks w.heap.size w' u r.notes ∧ Ext none' w w'
set_option maxRecDepth 100000 in
set_option maxHeartbeats 800000 in
theorem rscan_early (B : Nat) (s : List UInt8) (v : Value) (w : World) (hv : Bytes B w v s) (hs : s.length ≤ 1000000) (h : 65536 < s.length ∨ 0 ≤ wrongP s) :
    Calls Tryd.prog 12 #[v] w (RScanPost w (scanR s)) := by
  have CW := hid (ref_wrong B s v w hv hs)
  obtain ⟨aa, cap, rfl, h1, h2, h3, h4⟩ := hv
  clear h3 h4
  by_cases h65 : 65536 < s.length
  · have e : scanR s = .bad 65536 12 := by unfold scanR; rw [if_pos h65]
    rw [e]
    go_enter Tryd.func12, Tryd.ntmps12
    go_wp2_with fail
    exact bodyPost_ret (v := .tuple #[.slice none 0 0, .slice none 0 0, .int .i64 65536, .int .i64 12]) (by simp [results, Tryd.results12, go_sem]) rfl ⟨_, _, rfl, Toks.nil _ _, Toks.nil _ _, Ext.refl _ _⟩
  · have hw : 0 ≤ wrongP s := h.resolve_left h65
    have e : scanR s = .bad (wrongP s).toNat 2 := by unfold scanR; rw [if_neg h65, if_pos hw]
    rw [e]
    obtain ⟨q, hq⟩ : ∃ q : Nat, wrongP s = q := ⟨(wrongP s).toNat, by omega⟩
    rw [hq] at CW ⊢
    have hql : q ≤ 1000000 := by have := wrongP_le s; omega
    clear hq hw h e
    have h65' : s.length ≤ 65536 := by omega
    clear h65
    go_enter Tryd.func12, Tryd.ntmps12
    go_wp2_with fail
    refine CW.out.mono ?_
    rintro e w1 ⟨rfl, rfl⟩
    go_wp2_with fail
    exact bodyPost_ret (v := .tuple #[.slice none 0 0, .slice none 0 0, .int .i64 q, .int .i64 2]) (by simp [results, Tryd.results12, go_sem]) rfl ⟨_, _, rfl, Toks.nil _ _, Toks.nil _ _, Ext.refl _ _⟩
end Go.Proofs.YtokjnalmjdighaaDoor
