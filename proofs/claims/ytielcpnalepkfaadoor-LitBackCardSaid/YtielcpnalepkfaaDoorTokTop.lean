import Derived.Test.YtielcpnalepkfaaDoorTokScan
namespace Go.Proofs.YtielcpnalepkfaaDoor
open Go.RowKit Go.Lib Go.BigFrame
theorem scan_all (B : Nat) (s : List UInt8) (v : Value) (w : World) (hv : Bytes B w v s) (hT : Tabs w) (hm : MaxL w) (hs : s.length ≤ 1000000) :
    Calls Tryd.prog 33 #[v] w (ScPost s w (scanR s)) := by
  by_cases h : 65536 < s.length
  · have e : scanR s = .bad 65536 12 := by unfold scanR; rw [if_pos h]
    rw [e]
    obtain ⟨aa, cap, rfl, h1, h2, h3, h4⟩ := hv
    exact scan_long aa s.length cap w h (by omega)
  · exact scan_any B s v w hv hT hm (by omega)
/-- A slice that reads some tokens, in blocks from lo on. -/
def Toks (lo : Nat) (w : World) (v : Value) (l : List Tok) : Prop :=
  ∃ a c, v = .slice a l.length c ∧ (l ≠ [] → ∃ g, a = some ⟨g, 0, none⟩ ∧ lo ≤ g ∧ g < w.heap.size ∧ ∀ j (h : j < l.length),
    w.cell? ⟨g, j * 3, none⟩ = some (.int .i64 l[j].kind) ∧ w.cell? ⟨g, j * 3 + 1, none⟩ = some (.string ⟨l[j].text.toArray⟩) ∧ w.cell? ⟨g, j * 3 + 2, none⟩ = some (.int .i64 l[j].pos))
theorem Toks.ext {lo : Nat} {F : Nat → Prop} {w w' : World} {v : Value} {l : List Tok} (h : Toks lo w v l) (x : Ext F w w') (hF : ∀ i, F i → i < lo) : Toks lo w' v l := by
  obtain ⟨a, c, rfl, h⟩ := h
  refine ⟨a, c, rfl, fun hl => ?_⟩
  obtain ⟨g, rfl, h1, h2, h3⟩ := h hl
  have e : ∀ o, w'.cell? ⟨g, o, none⟩ = w.cell? ⟨g, o, none⟩ := fun o => x.cell (p := ⟨g, o, none⟩) h2 (fun hf => by have := hF _ hf; simp only at this; omega)
  refine ⟨g, rfl, h1, Nat.lt_of_lt_of_le h2 x.size, fun j hj => ?_⟩
  rw [e, e, e]
  exact h3 j hj
theorem Toks.keep {lo : Nat} {w w' : World} {v : Value} {l : List Tok} (h : Toks lo w v l) (x : Ext none' w w') : Toks lo w' v l := h.ext x fun _ h => h.elim
theorem Toks.low {lo lo' : Nat} {w : World} {v : Value} {l : List Tok} (h : Toks lo w v l) (hl : lo' ≤ lo) : Toks lo' w v l := by
  obtain ⟨a, c, rfl, h⟩ := h
  refine ⟨a, c, rfl, fun hl' => ?_⟩
  obtain ⟨g, rfl, h1, h2, h3⟩ := h hl'
  exact ⟨g, rfl, by omega, h2, h3⟩
theorem Toks.nil (lo : Nat) (w : World) : Toks lo w (.slice none 0 0) [] := ⟨none, 0, rfl, fun h => absurd rfl h⟩
theorem tokVals_at : ∀ (l : List Tok) (j : Nat) (h : j < l.length), (tokVals l)[j * 3]? = some (.int .i64 l[j].kind) ∧ (tokVals l)[j * 3 + 1]? = some (.string ⟨l[j].text.toArray⟩) ∧ (tokVals l)[j * 3 + 2]? = some (.int .i64 l[j].pos)
  | [], j, h => by simp at h
  | t :: l, 0, _ => ⟨rfl, rfl, rfl⟩
  | t :: l, j + 1, h => by
    have ih := tokVals_at l j (by simpa using h)
    have e : tokVals (t :: l) = tokCells t ++ tokVals l := by simp [tokVals]
    have e3 : (tokCells t).length = 3 := rfl
    rw [e]
    refine ⟨?_, ?_, ?_⟩
    · rw [List.getElem?_append_right (by rw [e3]; omega), e3, show (j + 1) * 3 - 3 = j * 3 by omega]; exact ih.1
    · rw [List.getElem?_append_right (by rw [e3]; omega), e3, show (j + 1) * 3 + 1 - 3 = j * 3 + 1 by omega]; exact ih.2.1
    · rw [List.getElem?_append_right (by rw [e3]; omega), e3, show (j + 1) * 3 + 2 - 3 = j * 3 + 2 by omega]; exact ih.2.2
theorem Toks.of_owns {base : Nat} {e : TypeId} {w : World} {v : Value} {l : List Tok} (h : w.ownsRow base e 3 v l.length (tokVals l)) : Toks base w v l := by
  rcases h.2 with ⟨rfl, h0⟩ | ⟨g, cap, cur, rfl, hbg, hg, hnc, hcm, hcs, htake⟩
  · have : l = [] := List.eq_nil_of_length_eq_zero h0
    subst this
    exact Toks.nil _ _
  · refine ⟨_, cap, rfl, fun _ => ⟨g, rfl, hbg, heap_lt hg, fun j hj => ?_⟩⟩
    have hc := h.cells (g := g) rfl
    have ea : ∀ o, (⟨g, 0, none⟩ : Addr).add o = ⟨g, o, none⟩ := fun o => by simp [Addr.add]; omega
    obtain ⟨t1, t2, t3⟩ := tokVals_at l j hj
    exact ⟨by rw [← ea]; exact hc _ _ t1, by rw [← ea]; exact hc _ _ t2, by rw [← ea]; exact hc _ _ t3⟩
def ScR.toks : ScR → List Tok
  | .good l _ => l
  | .bad _ _ => []
def ScR.notes : ScR → List Tok
  | .good _ n => n
  | .bad _ _ => []
def ScR.pos : ScR → Nat
  | .good _ _ => 0
  | .bad p _ => p
def ScR.err : ScR → Nat
  | .good _ _ => 0
  | .bad _ c => c
theorem runP_err : ∀ (f : Nat) (s : List UInt8) (k : Nat) (l n : List Tok) (p : Nat), runP s f k l n = .error p → p < s.length
  | 0, _, _, _, _, _, h => by simp [runP] at h
  | f + 1, s, k, l, n, p, h => by
    unfold runP at h
    split at h
    · cases h
    · split at h
      · cases h; omega
      · exact runP_err f s _ _ _ p h
theorem scanR_bad {s : List UInt8} {p c : Nat} (h : scanR s = .bad p c) : (c = 12 ∨ c = 2 ∨ c = 3) ∧ p ≤ s.length := by
  unfold scanR at h
  split at h
  · injection h with h1 h2; subst h1 h2; exact ⟨.inl rfl, by omega⟩
  · split at h
    · injection h with h1 h2; subst h1 h2
      have := wrongP_le s
      exact ⟨.inr (.inl rfl), by omega⟩
    · unfold runR at h
      split at h
      · rename_i k hk
        injection h with h1 h2; subst h1 h2
        have := runP_err _ _ _ _ _ _ hk
        exact ⟨.inr (.inr rfl), by omega⟩
      · cases h
/-- What 'Scan' leaves. -/
def ScanPost (w : World) (r : ScR) (e : Ending) (w' : World) : Prop :=
  ∃ v, e = .returned (.tuple #[v, .int .i64 r.pos, .int .i64 r.err]) ∧ Toks w.heap.size w' v r.toks ∧ Ext none' w w'
theorem Scan_any (B : Nat) (s : List UInt8) (v : Value) (w : World) (hv : Bytes B w v s) (hT : Tabs w) (hm : MaxL w) (hs : s.length ≤ 1000000) :
    Calls Tryd.prog 19 #[v] w (ScanPost w (scanR s)) := by
  have C := hid (scan_all B s v w hv hT hm hs)
  clear hv hT hm hs
  cases hr : scanR s with
  | bad p c =>
    obtain ⟨hc, hp⟩ := scanR_bad hr
    rw [hr] at C
    clear hr
    have hc0 : ((c : Int) != 0) = true := by simp; omega
    clear hc hp
    go_enter Tryd.func19, Tryd.ntmps19
    go_wp2_with fail
    refine C.out.mono ?_
    rintro e w1 ⟨rfl, X1⟩
    have X1 := hid X1
    go_wp2_with fail
    go_ret3
    exact ⟨_, rfl, Toks.nil _ _, X1.out⟩
  | good l n =>
    rw [hr] at C
    clear hr
    go_enter Tryd.func19, Tryd.ntmps19
    go_wp2_with fail
    refine C.out.mono ?_
    rintro e w1 ⟨base, sb, k, rfl, X1, hb, vl, vn, hh, rl, rn, hne, hbs⟩
    have c2 := cell_at hh 2
    simp only [List.getElem?_toArray, List.getElem?_cons_zero, List.getElem?_cons_succ] at c2
    have T := hid ((Toks.of_owns rl).low hb)
    have X1 := hid X1
    clear hh rl rn hne hb hbs
    go_wp2_with fail
    go_ret3
    exact ⟨_, rfl, T.out, X1.out⟩
end Go.Proofs.YtielcpnalepkfaaDoor
