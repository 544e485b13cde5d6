import Derived.Test.YthbmjamgidfneaaGreatDoorPAb
import Derived.Test.YthbmjamgidfneaaGreatDoorPAe
import Derived.Test.YthbmjamgidfneaaGreatDoorPAo
import Derived.Test.YthbmjamgidfneaaGreatDoorPAl
import Derived.Test.YthbmjamgidfneaaGreatDoorPAh
set_option maxRecDepth 100000
set_option maxHeartbeats 6400000
namespace Go.Proofs.YthbmjamgidfneaaGreatDoor
open Go.RowKit Go.Lib Go.BigFrame
theorem scan_all (B : Nat) (s : List UInt8) (v : Value) (w : World) (hv : Bytes B w v s) (hT : Tabs w) (hm : MaxL w) (hs : s.length ≤ 1000000) :
  Calls Tryz.prog 37 #[v] w (ScPost s w (scanR s)) := by
 by_cases h : 65536 < s.length
 · have e : scanR s = .bad 65536 12 := by unfold scanR; rw [if_pos h]
   rw [e]
   obtain ⟨aa, cap, rfl, h1, h2, h3, h4⟩ := hv
   exact scan_long aa s.length cap w h (by omega)
 · exact scan_any B s v w hv hT hm (by omega)
def Toks (lo : Nat) (w : World) (v : Value) (l : List Tok) : Prop :=
 ∃ a c, v = .slice a l.length c ∧ (l ≠ [] → ∃ g, a = some ⟨g, 0, none⟩ ∧ lo ≤ g ∧ g < w.heap.size ∧ ∀ j (h : j < l.length),
  w.cell? ⟨g, j * 3, none⟩ = some (.int .i64 l[j].kind) ∧ w.cell? ⟨g, j * 3 + 1, none⟩ = some (.string ⟨l[j].text.toArray⟩) ∧ w.cell? ⟨g, j * 3 + 2, none⟩ = some (.int .i64 l[j].pos))
theorem Toks.ext {lo : Nat} {F : Nat → Prop} {w w' : World} {v : Value} {l : List Tok} (h : Toks lo w v l) (x : Ext F w w') (hF : ∀ i, F i → i < lo) : Toks lo w' v l := by
 obtain ⟨a, c, rfl, h⟩ := h
 refine ⟨a, c, rfl, fun hl => ?_⟩
 obtain ⟨g, rfl, h1, h2, h3⟩ := h hl
 have e : ∀ o, w'.cell? ⟨g, o, none⟩ = w.cell? ⟨g, o, none⟩ := fun o => x.cell (p := ⟨g, o, none⟩) h2 (fun hf => by have := hF _ hf; simp only at this; omega)
 refine ⟨g, rfl, h1, Nat.lt_of_lt_of_le h2 x.size, fun j hj => ?_⟩
 rw [e, e, e]
 exact h3 j hj
theorem Toks.keep {lo : Nat} {w w' : World} {v : Value} {l : List Tok} (h : Toks lo w v l) (x : Ext none' w w') : Toks lo w' v l := h.ext x fun _ h => h.elim
theorem Toks.low {lo lo' : Nat} {w : World} {v : Value} {l : List Tok} (h : Toks lo w v l) (hl : lo' ≤ lo) : Toks lo' w v l := by
 obtain ⟨a, c, rfl, h⟩ := h
 refine ⟨a, c, rfl, fun hl' => ?_⟩
 obtain ⟨g, rfl, h1, h2, h3⟩ := h hl'
 exact ⟨g, rfl, by omega, h2, h3⟩
theorem Toks.nil (lo : Nat) (w : World) : Toks lo w (.slice none 0 0) [] := ⟨none, 0, rfl, fun h => absurd rfl h⟩
theorem tokVals_at : ∀ (l : List Tok) (j : Nat) (h : j < l.length), (tokVals l)[j * 3]? = some (.int .i64 l[j].kind) ∧ (tokVals l)[j * 3 + 1]? = some (.string ⟨l[j].text.toArray⟩) ∧ (tokVals l)[j * 3 + 2]? = some (.int .i64 l[j].pos)
 | [], j, h => by simp at h
 | t :: l, 0, _ => ⟨rfl, rfl, rfl⟩
 | t :: l, j + 1, h => by
  have ih := tokVals_at l j (by simpa using h)
  have e : tokVals (t :: l) = tokCells t ++ tokVals l := by simp [tokVals]
  have e3 : (tokCells t).length = 3 := rfl
  rw [e]
  refine ⟨?_, ?_, ?_⟩
  · rw [List.getElem?_append_right (by rw [e3]; omega), e3, show (j + 1) * 3 - 3 = j * 3 by omega]; exact ih.1
  · rw [List.getElem?_append_right (by rw [e3]; omega), e3, show (j + 1) * 3 + 1 - 3 = j * 3 + 1 by omega]; exact ih.2.1
  · rw [List.getElem?_append_right (by rw [e3]; omega), e3, show (j + 1) * 3 + 2 - 3 = j * 3 + 2 by omega]; exact ih.2.2
theorem Toks.of_owns {base : Nat} {e : TypeId} {w : World} {v : Value} {l : List Tok} (h : w.ownsRow base e 3 v l.length (tokVals l)) : Toks base w v l := by
 rcases h.2 with ⟨rfl, h0⟩ | ⟨g, cap, cur, rfl, hbg, hg, hnc, hcm, hcs, htake⟩
 · have : l = [] := List.eq_nil_of_length_eq_zero h0
   subst this
   exact Toks.nil _ _
 · refine ⟨_, cap, rfl, fun _ => ⟨g, rfl, hbg, heap_lt hg, fun j hj => ?_⟩⟩
   have hc := h.cells (g := g) rfl
   have ea : ∀ o, (⟨g, 0, none⟩ : Addr).add o = ⟨g, o, none⟩ := fun o => by simp [Addr.add]; omega
   obtain ⟨t1, t2, t3⟩ := tokVals_at l j hj
   exact ⟨by rw [← ea]; exact hc _ _ t1, by rw [← ea]; exact hc _ _ t2, by rw [← ea]; exact hc _ _ t3⟩
def ScR.toks : ScR → List Tok
 | .good l _ => l
 | .bad _ _ => []
def ScR.pos : ScR → Nat
 | .good _ _ => 0
 | .bad p _ => p
def ScR.err : ScR → Nat
 | .good _ _ => 0
 | .bad _ c => c
theorem runP_err : ∀ (f : Nat) (s : List UInt8) (k : Nat) (l n : List Tok) (p : Nat), runP s f k l n = .error p → p < s.length
 | 0, _, _, _, _, _, h => by simp [runP] at h
 | f + 1, s, k, l, n, p, h => by
  unfold runP at h
  split at h
  · cases h
  · split at h
    · cases h; omega
    · exact runP_err f s _ _ _ p h
theorem scanR_bad {s : List UInt8} {p c : Nat} (h : scanR s = .bad p c) : (c = 12 ∨ c = 2 ∨ c = 3) ∧ p ≤ s.length := by
 unfold scanR at h
 split at h
 · injection h with h1 h2; subst h1 h2; exact ⟨.inl rfl, by omega⟩
 · split at h
   · injection h with h1 h2; subst h1 h2
     have := wrongP_le s
     exact ⟨.inr (.inl rfl), by omega⟩
   · unfold runR at h
     split at h
     · rename_i k hk
       injection h with h1 h2; subst h1 h2
       have := runP_err _ _ _ _ _ _ hk
       exact ⟨.inr (.inr rfl), by omega⟩
     · cases h
def ScanPost (w : World) (r : ScR) (e : Ending) (w' : World) : Prop :=
 ∃ v, e = .returned (.tuple #[v, .int .i64 r.pos, .int .i64 r.err]) ∧ Toks w.heap.size w' v r.toks ∧ Ext none' w w'
theorem Scan_any (B : Nat) (s : List UInt8) (v : Value) (w : World) (hv : Bytes B w v s) (hT : Tabs w) (hm : MaxL w) (hs : s.length ≤ 1000000) :
  Calls Tryz.prog 18 #[v] w (ScanPost w (scanR s)) := by
 have C := hid (scan_all B s v w hv hT hm hs)
 clear hv hT hm hs
 cases hr : scanR s with
 | bad p c =>
  obtain ⟨hc, hp⟩ := scanR_bad hr
  rw [hr] at C
  clear hr
  have hc0 : ((c : Int) != 0) = true := by simp; omega
  clear hc hp
  go_enter Tryz.func18, Tryz.ntmps18
  go_wp2_with fail
  refine C.out.mono ?_
  rintro e w1 ⟨rfl, X1⟩
  have X1 := hid X1
  go_wp2_with fail
  go_ret3
  exact ⟨_, rfl, Toks.nil _ _, X1.out⟩
 | good l n =>
  rw [hr] at C
  clear hr
  go_enter Tryz.func18, Tryz.ntmps18
  go_wp2_with fail
  refine C.out.mono ?_
  rintro e w1 ⟨base, sb, k, rfl, X1, hb, vl, vn, hh, rl, rn, hne, hbs⟩
  have c2 := cell_at hh 2
  simp only [List.getElem?_toArray, List.getElem?_cons_zero, List.getElem?_cons_succ] at c2
  have T := hid ((Toks.of_owns rl).low hb)
  have X1 := hid X1
  clear hh rl rn hne hb hbs
  go_wp2_with fail
  go_ret3
  exact ⟨_, rfl, T.out, X1.out⟩
end Go.Proofs.YthbmjamgidfneaaGreatDoor
namespace Go.Proofs.YthbmjamgidfneaaGreatDoor
open Go.Lib
set_option linter.unusedVariables false
set_option linter.unusedSimpArgs false
theorem sign_ascii : ∀ l ∈ signs1, ∀ c ∈ l, 0 < c.toNat ∧ c.toNat < 128 := by decide
theorem id_ascii {c : UInt8} (h : idB c = true) : 0 < c.toNat ∧ c.toNat < 128 := by
 unfold idB letterB figB at h
 simp only [Bool.or_eq_true, Bool.and_eq_true, decide_eq_true_eq, beq_iff_eq] at h
 omega
theorem sdO_ascii {m : Md} {c : UInt8} (h : sdO m c ≠ .x) : 0 < c.toNat ∧ c.toNat < 128 := by
 unfold sdO at h
 by_cases h1 : c = 10
 · subst h1; decide
 rw [if_neg h1] at h
 by_cases h2 : c = 32 ∨ c = 9
 · rcases h2 with rfl | rfl <;> decide
 rw [if_neg h2] at h
 by_cases h3 : c = 34
 · subst h3; decide
 rw [if_neg h3] at h
 by_cases h4 : c = 47
 · subst h4; decide
 rw [if_neg h4] at h
 by_cases h5 : c = 42
 · subst h5; decide
 rw [if_neg h5] at h
 by_cases h6 : idB c = true ∨ [c] ∈ signs1
 · rcases h6 with h6 | h6
   · exact id_ascii h6
   · exact sign_ascii _ h6 c (by simp)
 · rw [if_neg h6] at h; exact absurd rfl h
theorem sd_ascii {m : Md} {c : UInt8} (h : sd m c ≠ .x) : 0 < c.toNat ∧ c.toNat < 128 := by
 cases m with
 | o => exact sdO_ascii h
 | b => exact sdO_ascii h
 | s => exact sdO_ascii h
 | n => exact sdO_ascii h
 | x => exact absurd rfl h
 | q =>
  unfold sd at h
  by_cases h1 : c = 34
  · subst h1; decide
  simp only [h1, if_false] at h
  by_cases h2 : c = 92
  · subst h2; decide
  simp only [h2, if_false] at h
  by_cases h3 : 32 ≤ c.toNat ∧ c.toNat ≤ 126
  · omega
  · simp only [h3, if_false] at h; exact absurd rfl h
 | e =>
  unfold sd at h
  by_cases h3 : 32 ≤ c.toNat ∧ c.toNat ≤ 126
  · omega
  · simp only [h3, if_false] at h; exact absurd rfl h
theorem rd_ascii : ∀ {l : List UInt8} {m : Md}, rd m l ≠ .x → ∀ c ∈ l, 0 < c.toNat ∧ c.toNat < 128
 | [], _, _, c, hc => by cases hc
 | d :: l, m, h, c, hc => by
  rw [rd_cons] at h
  rcases List.mem_cons.1 hc with rfl | hc
  · refine sd_ascii (m := m) fun e => h ?_
    rw [e]; exact rd_x l
  · exact rd_ascii h c hc
theorem wrR_low : ∀ (n : Nat) (s : List UInt8) (i : Nat), s.length ≤ n → (∀ c ∈ s, 0 < c.toNat ∧ c.toNat < 128) → wrR s i = -1
 | n, s, i, hn, h => by
  by_cases hs : s = []
  · subst hs; exact wrR_nil i
  · rw [wrR_step s i hs]
    cases s with
    | nil => exact absurd rfl hs
    | cons c t =>
     have hc := h c (by simp)
     have hd : decodeL (c :: t) = (c.toNat, 1) := by rw [decodeL_N]; exact decodeN_low _ _ _ _ _ hc.2
     rw [hd]
     have hh : ¬ halts (c.toNat, 1) i := by
      unfold halts
      simp only [Prod.mk.injEq]
      omega
     rw [if_neg hh]
     match n, hn with
     | 0, hn => simp at hn
     | n + 1, hn => exact wrR_low n _ _ (by simpa using hn) (fun d hd => h d (by simp at hd ⊢; exact .inr hd))
theorem wrong_rd {s : List UInt8} {m : Md} (h : rd m s ≠ .x) : wrongP s = -1 := wrR_low s.length s 0 (Nat.le_refl _) (rd_ascii h)
theorem blank_line (m : Md) (b : UInt8) (hb : b = 32 ∨ b = 9) : sd (sd m b) 10 = .x := by
 rcases hb with rfl | rfl <;> cases m <;> decide
theorem line_ok {s : List UInt8} {m : Md} (h : rd m s ≠ .x) (i : Nat) (hi : i + 1 < s.length) (h10 : s[i + 1] = 10) : s[i] ≠ 32 ∧ s[i] ≠ 9 := by
 have e : s = s.take i ++ s[i] :: s[i + 1] :: s.drop (i + 2) := by
  conv => lhs; rw [← List.take_append_drop i s, List.drop_eq_getElem_cons (by omega : i < s.length), List.drop_eq_getElem_cons (by omega : i + 1 < s.length)]
 have key : ∀ b, s[i] = b → (b = 32 ∨ b = 9) → False := fun b hb hc => by
  rw [hb, h10] at e
  rw [e, rd_append, rd_cons, rd_cons, blank_line _ b hc, rd_x] at h
  exact h rfl
 exact ⟨fun h => key _ h (.inl rfl), fun h => key _ h (.inr rfl)⟩
theorem quo_rd : ∀ (t : List UInt8) (mf : Md), mf ≠ .x → mf ≠ .q → mf ≠ .e → (rd .q t = mf → ∃ j, quo 34 false t = some j ∧ rd .o (t.drop j) = mf) ∧ (rd .e t = mf → ∃ j, quo 34 true t = some j ∧ rd .o (t.drop j) = mf)
 | [], mf, hx, hq, he => ⟨fun h => absurd h.symm hq, fun h => absurd h.symm he⟩
 | c :: t, mf, hx, hq, he => by
  have ih := quo_rd t mf hx hq he
  constructor
  · intro h
    rw [rd_cons] at h
    unfold sd at h
    by_cases h1 : c = 34
    · subst h1
      simp only [if_true] at h
      refine ⟨1, ?_, by simpa using h⟩
      simp [quo]
    simp only [h1, if_false] at h
    by_cases h2 : c = 92
    · subst h2
      simp only [if_true] at h
      obtain ⟨j, hj, hr⟩ := ih.2 h
      refine ⟨j + 1, ?_, by simpa using hr⟩
      simp [quo, hj]
    simp only [h2, if_false] at h
    by_cases h3 : 32 ≤ c.toNat ∧ c.toNat ≤ 126
    · rw [if_pos h3] at h
      obtain ⟨j, hj, hr⟩ := ih.1 h
      refine ⟨j + 1, ?_, by simpa using hr⟩
      have h10 : c ≠ 10 := fun e => by subst e; exact absurd h3 (by decide)
      simp [quo, h1, h2, h10, hj]
    · rw [if_neg h3, rd_x] at h; exact absurd h.symm hx
  · intro h
    rw [rd_cons] at h
    unfold sd at h
    by_cases h3 : 32 ≤ c.toNat ∧ c.toNat ≤ 126
    · simp only [h3, and_self, if_true] at h
      obtain ⟨j, hj, hr⟩ := ih.1 h
      refine ⟨j + 1, ?_, by simpa using hr⟩
      have h10 : c ≠ 10 := fun e => by subst e; exact absurd h3 (by decide)
      simp [quo, h10, hj]
    · simp only [h3, if_false, rd_x] at h; exact absurd h.symm hx
theorem out_ne {m : Md} (h : Out m) : m ≠ .x ∧ m ≠ .q ∧ m ≠ .e := by rcases h with rfl | rfl | rfl | rfl <;> decide
theorem sdO_out {m : Md} {c : UInt8} (h : sdO m c ≠ .x) (hc : c ≠ 34) : Out (sdO m c) := by
 unfold sdO at h ⊢
 by_cases h1 : c = 10
 · rw [if_pos h1] at h ⊢
   split
   · rename_i e; rw [if_pos e] at h; exact absurd rfl h
   · exact out_n
 rw [if_neg h1] at h ⊢
 by_cases h2 : c = 32 ∨ c = 9
 · rw [if_pos h2]; exact out_b
 rw [if_neg h2] at h ⊢
 rw [if_neg hc] at h ⊢
 by_cases h4 : c = 47
 · rw [if_pos h4] at h ⊢
   split
   · rename_i e; rw [if_pos e] at h; exact absurd rfl h
   · exact out_s
 rw [if_neg h4] at h ⊢
 by_cases h5 : c = 42
 · rw [if_pos h5] at h ⊢
   split
   · rename_i e; rw [if_pos e] at h; exact absurd rfl h
   · exact out_o
 rw [if_neg h5] at h ⊢
 by_cases h6 : idB c = true ∨ [c] ∈ signs1
 · rw [if_pos h6]; exact out_o
 · rw [if_neg h6] at h; exact absurd rfl h
theorem no34 : ∀ {l : List UInt8} {m : Md}, Out m → rd m l ≠ .x → (34 : UInt8) ∉ l → Out (rd m l)
 | [], m, hm, _, _ => hm
 | c :: l, m, hm, h, hn => by
  rw [rd_cons, sd_out hm] at h ⊢
  have h1 : sdO m c ≠ .x := fun e => h (by rw [e]; exact rd_x l)
  exact no34 (sdO_out h1 fun e => hn (by simp [e])) h fun hc => hn (by simp [hc])
theorem takes_ids : ∀ (r : List UInt8) {m : Md}, Out m → rd m r = rd (if r.takeWhile idB = [] then m else .o) (r.drop (idLen r))
 | [], m, hm => by simp [idLen]
 | c :: r, m, hm => by
  unfold idLen
  by_cases h : idB c = true
  · rw [List.takeWhile_cons_of_pos h, rd_cons, id_o hm h, if_neg (by simp), takes_ids r out_o]
    unfold idLen
    simp only [List.length_cons, List.drop_succ_cons, ite_self]
  · rw [List.takeWhile_cons_of_neg h]
    simp
theorem id_len_pos {c : UInt8} {r : List UInt8} (h : idB c = true) : (c :: r).takeWhile idB ≠ [] := by rw [List.takeWhile_cons_of_pos h]; simp
theorem sgn34 : ∀ l ∈ [10] :: (signs3 ++ signs2 ++ signs1), (34 : UInt8) ∉ l := by decide
theorem lineP_pre (l : List Tok) (k : Nat) : l <+: lineP l k := by unfold lineP; split; exact List.prefix_append _ _; exact List.prefix_refl _
theorem step_ok {s : List UInt8} {k : Nat} {l n : List Tok} {m mf : Md} (hk : k < s.length) (hm : Out m) (hf : Out mf) (hr : rd m (s.drop k) = mf) :
  ∃ k' l' n' m', stepP s k l n = some (k', l', n') ∧ Out m' ∧ rd m' (s.drop k') = mf ∧ l <+: l' := by
 obtain ⟨fx, fq, fe⟩ := out_ne hf
 obtain ⟨c, t, hct⟩ : ∃ c t, s.drop k = c :: t := by
  cases h : s.drop k with
  | nil => have := congrArg List.length h; rw [List.length_drop] at this; simp at this; omega
  | cons c t => exact ⟨c, t, rfl⟩
 have hdr : ∀ j, s.drop (k + j) = (c :: t).drop j := fun j => by rw [← hct, List.drop_drop]
 have hsd : sdO m c ≠ .x := fun e => by
  rw [hct, rd_cons, sd_out hm, e, rd_x] at hr
  exact fx hr.symm
 rw [hct] at hr
 unfold stepP
 simp only [hct, List.head?_cons]
 have h239 : c ≠ 239 := fun e => hsd (by subst e; rcases hm with rfl | rfl | rfl | rfl <;> decide)
 rw [if_neg (by
  rintro ⟨_, h⟩
  cases t with
  | nil => simp at h
  | cons d t => simp at h; exact h239 h.1)]
 by_cases h10 : c = 10
 · rw [if_pos h10]
   refine ⟨_, _, _, sdO m c, rfl, sdO_out hsd (by rw [h10]; decide), ?_, lineP_pre l k⟩
   rw [hdr 1, ← hr, rd_cons, sd_out hm]
   rfl
 rw [if_neg h10]
 by_cases hb : c = 32 ∨ c = 9 ∨ c = 13
 · rw [if_pos hb]
   refine ⟨_, _, _, sdO m c, rfl, sdO_out hsd (by rintro rfl; revert hb; decide), ?_, List.prefix_refl _⟩
   rw [hdr 1, ← hr, rd_cons, sd_out hm]
   rfl
 rw [if_neg hb]
 have hnote : noteP (c :: t) = .none := by
  unfold noteP
  have key : ∀ d r, t = d :: r → c = 47 → (d = 47 ∨ d = 42) → False := fun d r ht hc hd => by
   rw [ht, rd_cons, rd_cons, sd_out hm, hc] at hr
   rw [hc] at hsd
   have e : sdO m 47 = .s := by
    unfold sdO at hsd ⊢
    by_cases e : m = .s
    · subst e; exact absurd (by decide) hsd
    · simp [e]
   rw [e] at hr
   have e2 : sd .s d = .x := by rcases hd with rfl | rfl <;> decide
   rw [e2, rd_x] at hr
   exact fx hr.symm
  cases t with
  | nil => simp
  | cons d r =>
   rw [if_neg (by
    intro h
    simp at h
    exact key d r rfl h.1 (.inl h.2)), if_neg (by
    intro h
    simp at h
    exact key d r rfl h.1 (.inr h.2))]
 rw [hnote]
 simp only
 have hid : ∀ (h : idB c = true), ∃ m', Out m' ∧ rd m' (s.drop (k + idLen (c :: t))) = mf := fun h => by
  refine ⟨.o, out_o, ?_⟩
  rw [hdr, ← hr, takes_ids _ hm, if_neg (id_len_pos h)]
 by_cases hl : letterB c.toNat = true
 · rw [if_pos hl]
   obtain ⟨m', h1, h2⟩ := hid (by unfold idB; rw [hl]; rfl)
   exact ⟨_, _, _, m', rfl, h1, h2, List.prefix_append _ _⟩
 rw [if_neg hl]
 by_cases hg : figB c.toNat = true
 · rw [if_pos hg]
   obtain ⟨m', h1, h2⟩ := hid (by unfold idB; rw [hg, Bool.or_true])
   exact ⟨_, _, _, m', rfl, h1, h2, List.prefix_append _ _⟩
 rw [if_neg hg]
 by_cases h34 : c = 34
 · subst h34
   have e : sdO m 34 = .q := by rcases hm with rfl | rfl | rfl | rfl <;> decide
   rw [rd_cons, sd_out hm, e] at hr
   obtain ⟨j, hj, hrj⟩ := (quo_rd t mf fx fq fe).1 hr
   rw [if_pos (.inl rfl)]
   simp only [List.tail_cons, hj]
   refine ⟨_, _, _, .o, rfl, out_o, ?_, List.prefix_append _ _⟩
   rw [show k + 1 + j = k + (j + 1) by omega, hdr]
   exact hrj
 have h96 : c ≠ 96 := fun e => hsd (by subst e; rcases hm with rfl | rfl | rfl | rfl <;> decide)
 rw [if_neg (by rintro (h | h); exact h34 h; exact h96 h)]
 have hs1 : [c] ∈ signs1 := by
  have hni : ¬ idB c = true := by unfold idB; simp [hl, hg]
  unfold sdO at hsd
  rw [if_neg h10, if_neg (fun h => hb (h.elim .inl fun h => .inr (.inl h))), if_neg h34] at hsd
  by_cases h4 : c = 47
  · subst h4; decide
  rw [if_neg h4] at hsd
  by_cases h5 : c = 42
  · subst h5; decide
  rw [if_neg h5] at hsd
  by_cases h6 : idB c = true ∨ [c] ∈ signs1
  · exact h6.resolve_left hni
  · rw [if_neg h6] at hsd; exact absurd rfl hsd
 have hsg : signP (c :: t) ≠ 0 := by
  unfold signP
  split
  · decide
  · split
    · decide
    · rw [if_pos (show (c :: t).take 1 ∈ signs1 from hs1)]; decide
 rw [if_neg hsg]
 have hmem := signP_mem _ hsg
 have h34' := sgn34 _ hmem
 have hsplit : rd (rd m ((c :: t).take (signP (c :: t)))) ((c :: t).drop (signP (c :: t))) = mf := by rw [← rd_append, List.take_append_drop]; exact hr
 refine ⟨_, _, _, rd m ((c :: t).take (signP (c :: t))), rfl, no34 hm (fun e => ?_) h34', ?_, List.prefix_append _ _⟩
 · rw [e, rd_x] at hsplit; exact fx hsplit.symm
 · rw [hdr]; exact hsplit
theorem run_ok {s : List UInt8} {mf : Md} (hf : Out mf) : ∀ (f k : Nat) (l n : List Tok) (m : Md), s.length - k ≤ f → k ≤ s.length → Out m → rd m (s.drop k) = mf → ∃ l' n', runP s f k l n = .ok (l', n') ∧ l <+: l'
 | 0, k, l, n, m, h, hk, hm, hr => ⟨_, _, runP_end (by omega), lineP_pre l _⟩
 | f + 1, k, l, n, m, h, hk, hm, hr => by
  by_cases he : s.length ≤ k
  · exact ⟨_, _, runP_end he, lineP_pre l _⟩
  · obtain ⟨k', l', n', m', h1, h2, h3, h4⟩ := step_ok (l := l) (n := n) (by omega) hm hf hr
    have hle := stepP_le h1
    rw [runP_step (by omega) h, h1]
    obtain ⟨l2, n2, h5, h6⟩ := run_ok hf f k' l' n' m' (by omega) hle.2 h2 h3
    exact ⟨l2, n2, h5, h4.trans h6⟩
theorem id_step {s : List UInt8} {k : Nat} {l n : List Tok} {x c : UInt8} {a r : List UInt8} (h : s.drop k = (x :: a) ++ c :: r) (ha : ∀ y ∈ x :: a, idB y = true) (hl : letterB x.toNat = true) (hc : idB c = false) :
  stepP s k l n = some (k + (x :: a).length, l ++ [⟨1 + wordK (x :: a), x :: a, k⟩], n) := by
 have hx := ha x (by simp)
 have nx : ∀ k : UInt8, idB k = false → x ≠ k := fun k hk e => by rw [e, hk] at hx; cases hx
 have htw : ((x :: a) ++ c :: r).takeWhile idB = x :: a := by
  rw [List.takeWhile_append_of_pos ha, List.takeWhile_cons_of_neg (by simp [hc])]
  simp
 have hlen : idLen ((x :: a) ++ c :: r) = (x :: a).length := by unfold idLen; rw [htw]
 have htake : ((x :: a) ++ c :: r).take (x :: a).length = x :: a := List.take_left
 have hn : noteP ((x :: a) ++ c :: r) = .none := by
  unfold noteP
  have h47 := nx 47 (by decide)
  have k1 : ((x :: a) ++ c :: r).take 2 ≠ [47, 47] := fun e => by
   rw [List.cons_append, List.take_succ_cons] at e
   exact h47 (List.cons.inj e).1
  have k2 : ((x :: a) ++ c :: r).take 2 ≠ [47, 42] := fun e => by
   rw [List.cons_append, List.take_succ_cons] at e
   exact h47 (List.cons.inj e).1
  rw [if_neg k1, if_neg k2]
 unfold stepP
 simp only [h]
 rw [show ((x :: a) ++ c :: r).head? = some x from rfl]
 simp only
 rw [if_neg (by
  rintro ⟨_, e⟩
  rw [List.cons_append, List.take_succ_cons] at e
  exact nx 239 (by decide) (List.cons.inj e).1), if_neg (nx 10 (by decide)), if_neg (by
  rintro (e | e | e)
  · exact nx 32 (by decide) e
  · exact nx 9 (by decide) e
  · exact nx 13 (by decide) e), hn]
 simp only
 rw [if_pos hl, hlen, htake]
theorem blank_step {s : List UInt8} {k : Nat} {l n : List Tok} {r : List UInt8} (h : s.drop k = 32 :: r) : stepP s k l n = some (k + 1, l, n) := by
 unfold stepP
 simp only [h, List.head?_cons]
 rw [if_neg (by
  rintro ⟨_, e⟩
  cases r with
  | nil => simp at e
  | cons d r => simp at e), if_neg (by decide), if_pos (by decide)]
theorem nl_step {s : List UInt8} {k : Nat} {l n : List Tok} {r : List UInt8} (h : s.drop k = 10 :: r) : stepP s k l n = some (k + 1, lineP l k, n) := by
 unfold stepP
 simp only [h, List.head?_cons]
 rw [if_neg (by
  rintro ⟨_, e⟩
  cases r with
  | nil => simp at e
  | cons d r => simp at e), if_pos trivial]
def sPackage : List UInt8 := [112, 97, 99, 107, 97, 103, 101]
theorem head_scan {s x rest : List UInt8} (hs : s = sPackage ++ 32 :: (x ++ 10 :: rest)) (hx : nmB x = true) (hr : rd .n rest = .n) : ∃ l n, runP s s.length 0 [] [] = .ok (l, n) ∧ 2 < l.length ∧ ∃ t0 l2, l = t0 :: l2 ∧ t0.text = sPackage := by
 obtain ⟨hid, hne⟩ := nmB_ids hx
 have hx2 : ∃ c a, x = c :: a ∧ letterB c.toNat = true ∧ wordK x = 0 := by
  unfold nmB at hx
  rw [Bool.and_eq_true] at hx
  have h := hx.2
  cases x with
  | nil => exact absurd rfl hne
  | cons c a =>
   unfold nameB at h
   simp only [Bool.and_eq_true, Bool.not_eq_true', beq_iff_eq] at h
   refine ⟨c, a, rfl, ?_, h.1.2⟩
   have h1 := hid c (by simp)
   unfold idB at h1
   rw [h.1.1, Bool.or_false] at h1
   exact h1
 obtain ⟨c, a, rfl, hl, hw⟩ := hx2
 have hlen : s.length = 7 + (1 + ((c :: a).length + (1 + rest.length))) := by rw [hs]; simp [sPackage]; omega
 have d0 : s.drop 0 = (112 :: [97, 99, 107, 97, 103, 101]) ++ 32 :: ((c :: a) ++ 10 :: rest) := by rw [hs]; rfl
 have d7 : s.drop 7 = 32 :: ((c :: a) ++ 10 :: rest) := by rw [hs]; rfl
 have d8 : s.drop 8 = (c :: a) ++ 10 :: rest := by rw [hs]; rfl
 have d9 : s.drop (8 + (c :: a).length) = 10 :: rest := by rw [← List.drop_drop, d8, List.drop_left]
 have d10 : s.drop (8 + (c :: a).length + 1) = rest := by rw [← List.drop_drop, d9]; rfl
 have s1 := id_step (l := []) (n := []) d0 (by decide) (by decide) (by decide)
 have s2 := blank_step (l := [⟨2, sPackage, 0⟩]) (n := []) d7
 have s3 := id_step (l := [⟨2, sPackage, 0⟩]) (n := []) d8 hid hl (by decide)
 have s4 := nl_step (l := [⟨2, sPackage, 0⟩, ⟨1, c :: a, 8⟩]) (n := []) d9
 rw [hw] at s3
 have hl2 : lineP [⟨2, sPackage, 0⟩, ⟨1, c :: a, 8⟩] (8 + (c :: a).length) = [⟨2, sPackage, 0⟩, ⟨1, c :: a, 8⟩, ⟨6, [10], 8 + (c :: a).length⟩] := by
  unfold lineP endsP
  simp [endsT]
 rw [hl2] at s4
 obtain ⟨l', n', h1, h2⟩ := run_ok (s := s) out_n (s.length - 4) (8 + (c :: a).length + 1) [⟨2, sPackage, 0⟩, ⟨1, c :: a, 8⟩, ⟨6, [10], 8 + (c :: a).length⟩] [] .n (by omega) (by omega) out_n (by rw [d10]; exact hr)
 refine ⟨l', n', ?_, ?_, ?_⟩
 · rw [runP_step (by omega) (by omega), s1]
   show runP s (s.length - 1) 7 [⟨2, sPackage, 0⟩] [] = _
   rw [runP_step (by omega) (by omega), s2]
   show runP s (s.length - 1 - 1) 8 [⟨2, sPackage, 0⟩] [] = _
   rw [runP_step (by omega) (by omega), s3]
   show runP s (s.length - 1 - 1 - 1) (8 + (c :: a).length) [⟨2, sPackage, 0⟩, ⟨1, c :: a, 8⟩] [] = _
   rw [runP_step (by omega) (by omega), s4]
   exact h1
 · have h3 := h2.length_le
   simp only [List.length_cons, List.length_nil] at h3
   omega
 · obtain ⟨r, rfl⟩ := h2
   exact ⟨_, _, rfl, rfl⟩
theorem file_scan {f : Nat} {t : Nd} (ht : t.size ≤ f + 1) (h : fileB (tyF nmB f) (exF f) (stF f) t = true) {s : List UInt8} (hs : s = fileT (typF f) (exT f) (stT f) t) (hl : s.length ≤ 65536) :
  wrongP s = -1 ∧ (∃ l n, scanR s = .good l n ∧ 2 < l.length ∧ ∃ t0 l2, l = t0 :: l2 ∧ t0.text = sPackage) ∧ (∀ i (h : i + 1 < s.length), s[i + 1] = 10 → s[i] ≠ 32 ∧ s[i] ≠ 9) ∧ ∃ h : s.length - 1 < s.length, s[s.length - 1] = 10 := by
 have hrd := file_rd ht h
 rw [← hs] at hrd
 have hx : rd .n s ≠ .x := by rw [hrd]; decide
 have hw := wrong_rd hx
 have h' := h
 unfold fileB at h'
 simp only [Bool.and_eq_true, List.all_eq_true] at h'
 obtain ⟨g, hg⟩ : ∃ g : Nd → List UInt8, g = fun d => [10] ++ declT (typF f) (exT f) (stT f) d ++ [10] := ⟨_, rfl⟩
 have hs2 : s = sPackage ++ 32 :: (t.text ++ 10 :: (t.kids.map g).flatten) := by
  rw [hs, hg]
  unfold fileT sPackage
  simp
 have hrest : rd .n (t.kids.map g).flatten = .n := by
  rw [hs2, rd_append, show rd .n sPackage = .o by decide, rd_cons, show sd .o 32 = .b by decide, (nmB_tx h'.2.1).go out_b, rd_cons] at hrd
  exact hrd
 obtain ⟨l, n, h1, h2, h3⟩ := head_scan hs2 h'.2.1 hrest
 refine ⟨hw, ⟨l, n, ?_, h2, h3⟩, fun i hi h10 => line_ok hx i hi h10, ?_⟩
 · unfold scanR
   rw [if_neg (by omega), if_neg (by rw [hw]; decide)]
   unfold runR
   rw [h1]
 · have hend : ∃ u, s = u ++ [10] := by
    rw [hs2, hg]
    cases hk : t.kids.reverse with
    | nil =>
     have : t.kids = [] := by simpa using hk
     rw [this]
     exact ⟨sPackage ++ 32 :: t.text, by simp⟩
    | cons d l =>
     have : t.kids = l.reverse ++ [d] := by rw [← List.reverse_reverse t.kids, hk]; simp
     rw [this]
     exact ⟨sPackage ++ 32 :: (t.text ++ 10 :: ((l.reverse.map fun d => [10] ++ declT (typF f) (exT f) (stT f) d ++ [10]).flatten ++ ([10] ++ declT (typF f) (exT f) (stT f) d))), by simp⟩
   obtain ⟨u, rfl⟩ := hend
   exact ⟨by simp, by simp⟩
end Go.Proofs.YthbmjamgidfneaaGreatDoor
namespace Go.Proofs.YthbmjamgidfneaaGreatDoor
open Go.RowKit Go.Lib Go.BigFrame
set_option linter.unusedVariables false
set_option linter.unusedSimpArgs false
structure TwoBox (B : Nat) (deep : Nat) (head : Bool) (cs : Array Value) (w wr : World) : Prop where
 g0 : wr.heap[B]? = some (.cells #[.int .i64 (deep : Nat), .bool head] 50 (0, 0))
 g1 : wr.heap[B + 1]? = some (.cells cs 24 (0, 0))
 x : Ext none' w wr
theorem TwoBox.ext {B deep : Nat} {head : Bool} {cs : Array Value} {w wr w2 : World} (h : TwoBox B deep head cs w wr) (x : Ext none' wr w2) : TwoBox B deep head cs w w2 := ⟨x.heap h.g0 fun h => h, x.heap h.g1 fun h => h, h.x.trans x⟩
theorem TwoBox.mk' {deep : Nat} {head : Bool} {cs : Array Value} {w : World} {B : Nat} (hB : B = w.heap.size) : TwoBox B deep head cs w ((w.alloc (.cells #[.int .i64 (deep : Nat), .bool head] 50)).alloc (.cells cs 24)) :=
 ⟨heap_alloc_keep (heap_alloc_at hB _) _, heap_alloc_at (by rw [hB]; simp) _, ((Ext.refl _ _).alloc _).alloc _⟩
theorem bracket_any (f : Nat) (H : ExpH f) (deep : Nat) (head yes : Bool) (hd : deep + f ≤ 1200000) (hf : f ≤ 1100000) (t : Nd) (ht : t.size ≤ f) (he : exF f t = true) (v : Value) (w : World) (hm : MaxL w) (hv : NdV none' w t v) :
  Calls Tryz.prog 53 #[shV deep head, v, .bool yes] w (StrPost (brT (exT f) deep head yes t) w) := by
 have HL := (lens_all f deep hd).1 t ht he
 have CE := hid fun hh W (X : Ext none' w W) => H deep hh hd t ht he v W (maxL_later hm X) (hv.ext X fun _ _ h => h)
 obtain ⟨y, rfl, hy⟩ := hv
 obtain ⟨a1, cap1, rfl, _⟩ := hy
 cases yes
 · have e : brT (exT f) deep head false t = exT f deep head t := rfl
   rw [e]
   have CE := hid (CE.out head)
   obtain ⟨q, hq⟩ : ∃ q, exT f deep head t = q := ⟨_, rfl⟩
   rw [hq] at CE ⊢
   clear hq e HL he ht hm H hd hf
   go_enter Tryz.func53, Tryz.ntmps53
   go_wp2_with fail
   refine (CE.out _ (((Ext.refl _ _).alloc _).alloc _)).mono ?_
   rintro e w1 ⟨rfl, X1⟩
   have X1 := hid ((((Ext.refl none' w).alloc _).alloc _).trans X1)
   go_wp2_with fail
   go_ret
   exact ⟨rfl, X1.out⟩
 · have e : brT (exT f) deep head true t = [40] ++ exT f deep false t ++ [41] := rfl
   rw [e]
   have CE := hid (CE.out false)
   have HL := HL false
   obtain ⟨q, hq⟩ : ∃ q, exT f deep false t = q := ⟨_, rfl⟩
   rw [hq] at CE HL ⊢
   have hql : q.length ≤ 10000000000000 := by omega
   have cat1 := str_cat [40] q
   have cat2 := str_cat (40 :: q) [41]
   have CF := hid fun W => free_any deep head W
   obtain ⟨B, hB⟩ : ∃ B, B = w.heap.size := ⟨_, rfl⟩
   have BX := TwoBox.mk' (deep := deep) (head := head) (cs := #[.int .i64 t.kind, .string ⟨t.text.toArray⟩, .slice a1 t.kids.length cap1, .int .i64 t.pos]) hB
   obtain ⟨W0, hW0⟩ : ∃ W0, W0 = ((w.alloc (.cells #[.int .i64 (deep : Nat), .bool head] 50)).alloc (.cells #[.int .i64 t.kind, .string ⟨t.text.toArray⟩, .slice a1 t.kids.length cap1, .int .i64 t.pos] 24)) := ⟨_, rfl⟩
   rw [← hW0] at BX
   have BX := hid BX
   clear hq e HL he ht hm H hd hf
   go_enter Tryz.func53, Tryz.ntmps53
   go_upto_region 2 with (fail)
   rw [← hW0, ← hB]
   clear hW0 hB
   obtain ⟨x0, x1⟩ := cell2L fun t' : LaterF none' W0 => t'.x.heap BX.out.g0 fun h => h
   obtain ⟨y0, y1, y2, y3⟩ := cell4L fun t' : LaterF none' W0 => t'.x.heap BX.out.g1 fun h => h
   refine region_q none' W0 (.qs [0, 2] (.one 1 true (.one 3 false (.one 4 false (.one 5 false (.one 6 false .fin)))))) (by kernel_rfl) (by kernel_rfl) (fun dst v c a w h => by cases dst <;> exact h) ?_
   refine ⟨In.of (Ext.refl _ _).drew, ?_⟩
   change wpQuiet _ _ (fun w' => ∃ t : LaterF none' W0, w' = t.w) _ _ _
   simp only [sel, List.getElem?_cons_succ, List.getElem?_cons_zero]
   repeat (go_big_quiet_step (fail))
   refine wpQuiet_nil ?_
   simp only [wpTreeQ, stepT, sel, List.getElem?_cons_succ, List.getElem?_cons_zero]
   have D1 := hid (Ext.refl none' W0).drew
   clear x0 x1 y0 y1 y2 y3
   go_wp2_with fail
   refine (CF.out _).mono ?_
   rintro e w1 ⟨rfl, X1⟩
   have X1 := hid (D1.out.trans X1)
   go_wp2_with fail
   refine ⟨In.of X1.out, ?_⟩
   go_wp2_with fail
   refine (CE.out _ (BX.out.x.trans X1.out)).mono ?_
   rintro e w2 ⟨rfl, X2⟩
   have X2 := hid ((BX.out.x.trans X1.out).trans X2)
   go_wp2_with fail
   go_ret
   exact ⟨by simp, X2.out⟩
theorem first_any (f : Nat) (H : ExpH f) (deep : Nat) (head : Bool) (hd : deep + f ≤ 1200000) (hf : f ≤ 1100000) (t : Nd) (ht : t.size ≤ f) (he : exF f t = true) (v : Value) (w : World) (hm : MaxL w) (hv : NdV none' w t v) :
  Calls Tryz.prog 55 #[shV deep head, v] w (StrPost (fstT (exT f) deep head t) w) := by
 unfold fstT
 have CB := hid fun W (X : Ext none' w W) => bracket_any f H deep head (t.kind == 19 || t.kind == 20) hd hf t ht he v W (maxL_later hm X) (hv.ext X fun _ _ h => h)
 obtain ⟨q, hq⟩ : ∃ q, brT (exT f) deep head (t.kind == 19 || t.kind == 20) t = q := ⟨_, rfl⟩
 rw [hq] at CB ⊢
 obtain ⟨y, rfl, hy⟩ := hv
 obtain ⟨a1, cap1, rfl, _⟩ := hy
 obtain ⟨tk, htk⟩ : ∃ k, t.kind = k := ⟨_, rfl⟩
 rw [htk] at CB ⊢
 obtain ⟨q1, h1⟩ : ∃ b, (tk == 19) = b := ⟨_, rfl⟩
 obtain ⟨q2, h2⟩ : ∃ b, (tk == 20) = b := ⟨_, rfl⟩
 rw [h1, h2] at CB
 clear hq htk he ht hm H hd hf
 cases q1 <;> cases q2
 all_goals
  go_enter Tryz.func55, Tryz.ntmps55
  go_wp2_with fail
  refine (CB.out _ (((Ext.refl _ _).alloc _).alloc _)).mono ?_
  rintro e w1 ⟨rfl, X1⟩
  have X1 := hid ((((Ext.refl none' w).alloc _).alloc _).trans X1)
  go_wp2_with fail
  go_ret
  exact ⟨rfl, X1.out⟩
def ArgD (f : Nat) (t : Nd) : Prop := t.size ≤ f ∧ argB (tyF nmB f) (exF f) t = true
theorem arg_split {f : Nat} {t : Nd} (h : ArgD f t) : ((t.kind = 11 ∨ t.kind = 12) ∧ tyF nmB f t = true) ∨ (t.kind ≠ 10 ∧ t.kind ≠ 11 ∧ t.kind ≠ 12 ∧ exF f t = true) :=
 arg_cases f rfl (fun t ht => by have := exF_kind ht; omega) h.2
theorem part_any (f : Nat) (H : ExpH f) (deep : Nat) (head : Bool) (hd : deep + f ≤ 1200000) (hf : f ≤ 1100000) (t : Nd) (ht : ArgD f t) (v : Value) (w : World) (hm : MaxL w) (hv : NdV none' w t v) :
  Calls Tryz.prog 51 #[shV deep head, v] w (StrPost (if t.kind = 11 ∨ t.kind = 12 then typF f t else exT f deep head t) w) := by
 rcases arg_split ht with ⟨hk, hty⟩ | ⟨h10, h11, h12, hex⟩
 · have CT := hid fun W (X : Ext none' w W) => typ_any f (by unfold bigD; omega) t ⟨ht.1, hty⟩ v W (hv.ext X fun _ _ h => h)
   rw [if_pos hk]
   obtain ⟨q, hq⟩ : ∃ q, typF f t = q := ⟨_, rfl⟩
   rw [hq] at CT ⊢
   obtain ⟨y, rfl, hy⟩ := hv
   obtain ⟨a1, cap1, rfl, _⟩ := hy
   obtain ⟨tk, htk⟩ : ∃ k, t.kind = k := ⟨_, rfl⟩
   rw [htk] at CT hk ⊢
   clear hq htk ht hm H hd hf hty
   rcases hk with rfl | rfl
   all_goals
    go_enter Tryz.func51, Tryz.ntmps51
    go_wp2_with fail
    refine (CT.out _ (((Ext.refl _ _).alloc _).alloc _)).mono ?_
    rintro e w1 ⟨rfl, X1⟩
    have X1 := hid ((((Ext.refl none' w).alloc _).alloc _).trans X1)
    go_wp2_with fail
    go_ret
    exact ⟨rfl, X1.out⟩
 · have CE := hid fun W (X : Ext none' w W) => H deep head hd t ht.1 hex v W (maxL_later hm X) (hv.ext X fun _ _ h => h)
   rw [if_neg (by omega)]
   obtain ⟨q, hq⟩ : ∃ q, exT f deep head t = q := ⟨_, rfl⟩
   rw [hq] at CE ⊢
   obtain ⟨y, rfl, hy⟩ := hv
   obtain ⟨a1, cap1, rfl, _⟩ := hy
   obtain ⟨tk, htk⟩ : ∃ k, t.kind = k := ⟨_, rfl⟩
   rw [htk] at CE h10 h11 h12 ⊢
   have q10 : (tk == 10) = false := by simpa using h10
   have q11 : (tk == 11) = false := by simpa using h11
   have q12 : (tk == 12) = false := by simpa using h12
   clear hq htk ht hm H hd hf hex h10 h11 h12
   go_enter Tryz.func51, Tryz.ntmps51
   go_wp2_with fail
   refine (CE.out _ (((Ext.refl _ _).alloc _).alloc _)).mono ?_
   rintro e w1 ⟨rfl, X1⟩
   have X1 := hid ((((Ext.refl none' w).alloc _).alloc _).trans X1)
   go_wp2_with fail
   go_ret
   exact ⟨rfl, X1.out⟩
theorem part_tell (f : Nat) (H : ExpH f) (deep : Nat) (hd : deep + f ≤ 1200000) (hf : f ≤ 1100000) (w : World) (hm : MaxL w) : TellV (ArgD f) (partT (typF f) (exT f) deep) w (.func (.func 51) #[shV deep false] #[]) :=
 ⟨_, _, _, rfl, Go.Proofs.enters_of Tryz.func51 (by kernel_rfl) rfl, fun t ht W x X hx => part_any f H deep false hd hf t ht x W (maxL_later hm X) hx⟩
theorem trim_nl (q : List UInt8) : Lib.trimSuffix (q ++ [10]) [10] = q := by
 have : Lib.hasSuffix (q ++ [10]) [10] = true := by
  unfold Lib.hasSuffix
  simp
 unfold Lib.trimSuffix
 rw [if_pos this]
 simp
theorem blk_show (f : Nat) (H : StmH f) (deep : Nat) (head : Bool) (hd : deep + (f + 1) ≤ 1200000) (hf : f + 1 ≤ 1100000) (t : Nd) (ht : t.size ≤ f + 1) (he : blkB (stF f) t = true) (v : Value) (w : World) (hm : MaxL w) (hv : NdV none' w t v) :
  Calls Tryz.prog 41 #[shV deep head, v] w (StrPost (blT (stT f) deep t) w) := by
 have hkb : ∀ x ∈ t.kids, stF f x = true := by
  unfold blkB at he
  simp only [Bool.and_eq_true, List.all_eq_true] at he
  exact he.2.2
 have hkl : t.kids.length ≤ 1100000 := by have := t.kids_len; omega
 have hlen := fun x (hx : x ∈ t.kids) => (lens_all f (deep + 1) (by omega)).2 x (by have := Nd.size_kid hx; omega) (hkb x hx)
 obtain ⟨g, hg⟩ : ∃ g, g = fun k => lineT (deep + 1) (stT f (deep + 1) k) := ⟨_, rfl⟩
 have hgl : ∀ x ∈ t.kids, (g x).length ≤ 4000000 * x.size := fun x hx => by
  have := hlen x hx
  rw [hg]
  show (lineT (deep + 1) (stT f (deep + 1) x)).length ≤ _
  unfold lineT
  simp only [List.length_append, tabsT_len, List.length_cons, List.length_nil]
  omega
 have hz := size_kids t
 obtain ⟨acc, hacc⟩ : ∃ acc : Nat → List UInt8, acc = fun i => [123, 10] ++ ((t.kids.take i).map g).flatten := ⟨_, rfl⟩
 have AL := hid (show ∀ i, (acc i).length ≤ 10000000000000 by
  intro i
  have h1 := flat_len (p := g) (l := t.kids.take i) fun x hx => hgl x (List.mem_of_mem_take hx)
  have h2 : Nd.sizeL (t.kids.take i) ≤ Nd.sizeL t.kids := by
   conv => rhs; rw [← List.take_append_drop i t.kids]
   clear h1
   generalize t.kids.take i = a
   induction a with
   | nil => simp [Nd.sizeL]
   | cons x r ih => simp only [List.cons_append, Nd.sizeL]; omega
  rw [hacc]
  simp only [List.length_append, List.length_cons, List.length_nil]
  omega)
 have A1 := hid (show ∀ i (h : i < t.kids.length), acc (i + 1) = acc i ++ g t.kids[i] by
  intro i h
  rw [hacc]
  show [123, 10] ++ ((t.kids.take (i + 1)).map g).flatten = [123, 10] ++ ((t.kids.take i).map g).flatten ++ g t.kids[i]
  rw [List.take_add_one, List.getElem?_eq_getElem h, List.map_append, List.flatten_append]
  simp)
 have A0 := hid (show acc 0 = [123, 10] by rw [hacc]; simp)
 have AN := hid (show blT (stT f) deep t = acc t.kids.length ++ (tabsT deep ++ [125]) by
  rw [hacc, hg]
  unfold blT
  simp)
 have GL := hid (show ∀ i (h : i < t.kids.length), (g t.kids[i]).length ≤ 10000000000000 by
  intro i h
  have h1 := hgl _ (List.getElem_mem h)
  have h2 := Nd.size_kid (List.getElem_mem h)
  omega)
 have CS := hid fun i (h : i < t.kids.length) W (X : Ext none' w W) v' (hv' : NdV none' W t.kids[i] v') => H (deep + 1) (by omega) t.kids[i] (by have := Nd.size_kid (List.getElem_mem h); omega) (hkb _ (List.getElem_mem h)) v' W (maxL_later hm X) hv'
 have CL := hid fun i (h : i < t.kids.length) W => line_any (deep + 1) (by omega) false (stT f (deep + 1) t.kids[i]) (by have := hlen _ (List.getElem_mem h); have := Nd.size_kid (List.getElem_mem h); omega) W
 have GE := hid (show ∀ x, lineT (deep + 1) (stT f (deep + 1) x) = g x by intro x; rw [hg])
 have CI := hid fun W => shin_any deep (by omega) head W
 have CE := hid fun W => line_any deep (by omega) head [125] (by simp) W
 have TE := hid fun W => Tryz.strings_TrimSuffix ⟨(lineT deep [125]).toArray⟩ ⟨([10] : List UInt8).toArray⟩ W (by rw [bsize]; unfold lineT; simp only [List.length_append, tabsT_len, List.length_cons, List.length_nil]; omega)
 have hte : Lib.trimSuffix (lineT deep [125]) [10] = tabsT deep ++ [125] := trim_nl _
 have TE := hid fun W => (show Calls Tryz.prog 88 #[.string ⟨(lineT deep [125]).toArray⟩, .string ⟨([10] : List UInt8).toArray⟩] W (fun e w' => e = .returned (.string ⟨(tabsT deep ++ [125]).toArray⟩) ∧ w' = W) by rw [← hte]; exact TE.out W)
 obtain ⟨tb, htb⟩ : ∃ tb, tabsT deep ++ [125] = tb := ⟨_, rfl⟩
 have htbl : tb.length ≤ 10000000000000 := by rw [← htb]; simp only [List.length_append, tabsT_len, List.length_cons, List.length_nil]; omega
 rw [htb] at AN TE
 obtain ⟨lt, hlt⟩ : ∃ lt, lineT deep [125] = lt := ⟨_, rfl⟩
 rw [hlt] at CE TE
 obtain ⟨rr, hrr⟩ : ∃ r, r = blT (stT f) deep t := ⟨_, rfl⟩
 rw [← hrr]
 have HR := hid (hrr.trans AN.out)
 obtain ⟨y, rfl, hy⟩ := hv
 have HY := hid hy
 obtain ⟨a1, cap1, rfl, hcap, _⟩ := hy
 obtain ⟨B, hB⟩ : ∃ B, B = w.heap.size := ⟨_, rfl⟩
 have BX := TwoBox.mk' (deep := deep) (head := head) (cs := #[.int .i64 t.kind, .string ⟨t.text.toArray⟩, .slice a1 t.kids.length cap1, .int .i64 t.pos]) hB
 obtain ⟨W0, hW0⟩ : ∃ W0, W0 = ((w.alloc (.cells #[.int .i64 (deep : Nat), .bool head] 50)).alloc (.cells #[.int .i64 t.kind, .string ⟨t.text.toArray⟩, .slice a1 t.kids.length cap1, .int .i64 t.pos] 24)) := ⟨_, rfl⟩
 rw [← hW0] at BX
 have BX := hid BX
 clear hrr hg hacc hte htb hlt AN he hkb hlen hgl hz ht hd hf H hm
 go_enter Tryz.func41, Tryz.ntmps41
 go_upto_region 1 with (fail)
 rw [← hW0, ← hB]
 clear hW0 hB
 have c2 := cell_at BX.out.g1 2
 simp only [List.getElem?_toArray, List.getElem?_cons_zero, List.getElem?_cons_succ] at c2
 go_wp2_with fail
 clear c2
 go_loopw [5, 7, 11] (fun o _ z wr => ∃ (i : Nat), z = .int .i64 (i : Nat) ∧ i ≤ t.kids.length ∧ o = .string ⟨(acc i).toArray⟩ ∧ Hid (TwoBox B deep head #[.int .i64 t.kind, .string ⟨t.text.toArray⟩, .slice a1 t.kids.length cap1, .int .i64 t.pos] w wr)) (fun _ _ z _ => t.kids.length - (RowKit.intOf z).toNat)
 case atStart => exact ⟨0, rfl, by omega, by rw [A0.out], BX⟩
 case round =>
  obtain ⟨i, rfl, hle, rfl, R⟩ := hrel
  by_cases hi : i < t.kids.length
  · obtain ⟨b, off, cs, rfl, _, hbw, hcc, hty⟩ := (HY.out.ext isNd_good R.out.x fun _ _ h => h.elim).at i hi
    obtain ⟨y, rfl, hy⟩ := hty.parts
    have HYI := hid hy
    have c0 := hcc 0 _ rfl
    have c1 := hcc 1 _ rfl
    have c2 := hcc 2 _ rfl
    have c3 := hcc 3 _ rfl
    simp only [Nat.add_zero] at c0
    obtain ⟨a3, cap3, rfl, _⟩ := hy
    have CS := hid (CS.out i hi)
    have CL := hid (CL.out i hi)
    have A1 := hid (A1.out i hi)
    have hal := AL.out i
    have hgl := GL.out i hi
    rw [GE.out] at CL
    obtain ⟨t1, ht1⟩ : ∃ t1, t.kids[i] = t1 := ⟨_, rfl⟩
    rw [ht1] at c0 c1 c2 c3 CS CL A1 hgl
    obtain ⟨x1, hx1⟩ : ∃ x1, stT f (deep + 1) t1 = x1 := ⟨_, rfl⟩
    rw [hx1] at CS CL
    obtain ⟨q1, hq1⟩ : ∃ q1, g t1 = q1 := ⟨_, rfl⟩
    rw [hq1] at CL A1 hgl
    obtain ⟨o1, ho1⟩ : ∃ o1, acc i = o1 := ⟨_, rfl⟩
    rw [ho1] at A1 hal ⊢
    have cat := str_cat o1 q1
    rw [ht1] at HYI
    obtain ⟨W1, hW1⟩ : ∃ W1, W1 = wr.alloc (.cells #[.int .i64 t1.kind, .string ⟨t1.text.toArray⟩, .slice a3 t1.kids.length cap3, .int .i64 t1.pos] 24) := ⟨_, rfl⟩
    have X1 := hid (show Ext none' wr W1 by rw [hW1]; exact (Ext.refl _ _).alloc _)
    have GB := hid (show W1.heap[wr.heap.size]? = some (.cells #[.int .i64 t1.kind, .string ⟨t1.text.toArray⟩, .slice a3 t1.kids.length cap3, .int .i64 t1.pos] 24 (0, 0)) by rw [hW1]; exact heap_alloc_at rfl _)
    clear ht1 hx1 hq1 ho1 hcc hty
    go_upto_region 5 with (fail)
    rw [← hW1]
    clear hW1 c0 c1 c2 c3
    obtain ⟨BB, hBB⟩ : ∃ BB, BB = wr.heap.size := ⟨_, rfl⟩
    rw [← hBB] at GB ⊢
    clear hBB
    have BX := hid (R.out.ext X1.out)
    clear R
    obtain ⟨x0, x1⟩ := cell2L fun t' : LaterF none' W1 => t'.x.heap BX.out.g0 fun h => h
    obtain ⟨m0, m1, m2, m3⟩ := cell4L fun t' : LaterF none' W1 => t'.x.heap GB.out fun h => h
    refine region_q none' W1 (.qs [0, 1, 3, 5] (.one 2 true (.one 4 true (.one 6 true (.one 7 true (.one 8 false (.one 9 false .fin))))))) (by kernel_rfl) (by kernel_rfl) (fun dst v c a w h => by cases dst <;> exact h) ?_
    refine ⟨In.of (Ext.refl _ _).drew, ?_⟩
    change wpQuiet _ _ (fun w' => ∃ t : LaterF none' W1, w' = t.w) _ _ _
    simp only [sel, List.getElem?_cons_succ, List.getElem?_cons_zero]
    repeat (go_big_quiet_step (fail))
    refine wpQuiet_nil ?_
    simp only [wpTreeQ, stepT, sel, List.getElem?_cons_succ, List.getElem?_cons_zero]
    have D1 := hid (Ext.refl none' W1).drew
    clear x0 x1 m0 m1 m2 m3
    go_wp2_with fail
    refine (CI.out _).mono ?_
    rintro e w1 ⟨rfl, X2⟩
    have XX := hid (D1.out.trans X2)
    clear X2
    go_wp2_with fail
    refine ⟨In.of XX.out, ?_⟩
    go_wp2_with fail
    refine (CI.out _).mono ?_
    rintro e w2 ⟨rfl, X2⟩
    have XX := hid (XX.out.trans X2)
    clear X2
    go_wp2_with fail
    refine ⟨In.of XX.out, ?_⟩
    go_wp2_with fail
    refine (CS.out _ (BX.out.x.trans XX.out) _ ⟨_, rfl, HYI.out.ext isNd_good (X1.out.trans XX.out) fun _ _ h => h⟩).mono ?_
    rintro e w3 ⟨rfl, X2⟩
    have XX := hid (XX.out.trans X2)
    clear X2
    go_wp2_with fail
    refine ⟨In.of XX.out, ?_⟩
    go_wp2_with fail
    refine (CL.out _).mono ?_
    rintro e w4 ⟨rfl, X2⟩
    have XX := hid (XX.out.trans X2)
    clear X2
    go_wp2_with fail
    refine ⟨In.of XX.out, ?_⟩
    go_wp2_with fail
    have N := hid (BX.out.ext XX.out)
    clear BX XX D1 X1
    go_roundw
    case rel => exact ⟨i + 1, by go_num, by omega, by rw [A1.out], N⟩
    case measure => simp [RowKit.intOf]; omega
  · obtain rfl : i = t.kids.length := by omega
    have hal := AL.out t.kids.length
    obtain ⟨o1, ho1⟩ : ∃ o1, acc t.kids.length = o1 := ⟨_, rfl⟩
    rw [ho1] at HR hal ⊢
    have cat := str_cat o1 tb
    have x0 := cell_at R.out.g0 0
    have x1 := cell_at R.out.g0 1
    simp only [List.getElem?_toArray, List.getElem?_cons_zero, List.getElem?_cons_succ] at x0 x1
    clear ho1
    go_wp2_with fail
    refine (CE.out _).mono ?_
    rintro e w1 ⟨rfl, X1⟩
    have BX := hid (R.out.ext X1)
    clear x0 x1
    go_wp2_with fail
    refine (TE.out _).mono ?_
    rintro e w2 ⟨rfl, rfl⟩
    go_wp2_with fail
    go_ret
    exact ⟨by rw [HR.out]; rfl, BX.out.x⟩
end Go.Proofs.YthbmjamgidfneaaGreatDoor
