import Derived.Test.YthbmjamgidfneaaGreatDoorPAb
import Derived.Test.YthbmjamgidfneaaGreatDoorPAe
import Derived.Test.YthbmjamgidfneaaGreatDoorPAk
import Derived.Test.YthbmjamgidfneaaGreatDoorPAd
import Derived.Test.YthbmjamgidfneaaGreatDoorPAa
import Derived.Test.YthbmjamgidfneaaGreatDoorPAh
set_option maxRecDepth 100000
set_option maxHeartbeats 6400000
namespace Go.Proofs.YthbmjamgidfneaaGreatDoor
open Go.RowKit Go.Lib Go.BigFrame
set_option linter.unusedVariables false
set_option linter.unusedSimpArgs false
theorem pars_kids {f : Nat} {t : Nd} (h : parsB (tyF nmB f) t = true) : ∀ x ∈ t.kids, x.text ≠ [] ∧ x.text.length ≤ 100 ∧ x.kids.length = 1 ∧ (interB (tyF nmB f) (x.kid 0) = true ∨ tyF nmB f (x.kid 0) = true) := fun x hx => by
 unfold parsB at h
 obtain ⟨_, _, h⟩ := listB_parts h
 have := h x hx
 unfold parB at this
 obtain ⟨_, h2, h3⟩ := namB_parts this
 obtain ⟨y, hy, hty⟩ := one_kid h3
 refine ⟨fun e => ?_, nmB_len _ h2, by rw [hy]; rfl, ?_⟩
 · rw [e] at h2; exact absurd h2 (by decide)
 rw [kid_one hy]
 unfold orB nam1B at hty
 simp only [Bool.or_eq_true, Bool.and_eq_true] at hty
 rcases hty with h | h
 · exact .inr h.2
 · exact .inl h
end Go.Proofs.YthbmjamgidfneaaGreatDoor
namespace Go.Proofs.YthbmjamgidfneaaGreatDoor
open Go.Lib
set_option linter.unusedVariables false
set_option linter.unusedSimpArgs false
theorem go_lit {l : List UInt8} {m m' : Md} (h : rd m l = m') (r : List UInt8) : rd m (l ++ r) = rd m' r := by rw [rd_append, h]
theorem bnd_nm {s : List UInt8} (h : bndB s = true) : nmB s = true := by
 unfold bndB at h
 rw [Bool.and_eq_true] at h
 exact h.1
theorem inc_tx {s : List UInt8} (h : incB s = true) : Tx s := by
 unfold incB at h
 simp only [Bool.or_eq_true, beq_iff_eq] at h
 rcases h with rfl | rfl <;> exact lit_o (by decide)
def SimB (ex : Nd → Bool) (t : Nd) : Prop := shB ex t = true ∨ setB ex t = true ∨ incrB ex t = true ∨ callB ex t = true
theorem sim_tx {f deep : Nat} {head : Bool} {ex : ExT} {t : Nd} (H : ∀ i, exF f (t.kid i) = true → ∀ head, Tx (ex deep head (t.kid i))) (h : SimB (exF f) t) : Tx (simT ex deep head t) := by
 unfold simT
 rcases h with h | h | h | h
 · have hk := (namB_parts h).1
   rw [if_pos hk]
   unfold shB at h
   obtain ⟨_, h2, h3⟩ := namB_parts h
   obtain ⟨x, hx, hx1⟩ := one_kid h3
   rw [← kid_one hx] at hx1
   intro m hm
   rw [List.append_assoc, (nmB_tx (bnd_nm h2)).go hm, go_lit (show rd .o [32, 58, 61, 32] = .b by decide)]
   exact H _ hx1 head _ out_b
 · have hk := (ofB_parts h).1
   rw [if_neg (by omega), if_pos hk]
   unfold setB at h
   obtain ⟨_, _, h3⟩ := ofB_parts h
   obtain ⟨x, y, hk, hx1, hy1⟩ := two_kids h3
   obtain ⟨e0, e1⟩ := kid_two hk
   rw [← e0] at hx1
   rw [← e1] at hy1
   intro m hm
   rw [List.append_assoc, (H _ hx1 head).go hm, go_lit (show rd .o [32, 61, 32] = .b by decide)]
   exact H _ hy1 head _ out_b
 · have hk := (namB_parts h).1
   rw [if_neg (by omega), if_neg (by omega), if_pos hk]
   unfold incrB at h
   obtain ⟨_, h2, h3⟩ := namB_parts h
   obtain ⟨x, hx, hx1⟩ := one_kid h3
   rw [← kid_one hx] at hx1
   exact (H _ hx1 head).app (inc_tx h2)
 · have hk := (ofB_parts h).1
   rw [if_neg (by omega), if_neg (by omega), if_neg (by omega)]
   unfold callB at h
   obtain ⟨_, _, h3⟩ := ofB_parts h
   obtain ⟨x, hx, hx1⟩ := one_kid h3
   rw [← kid_one hx] at hx1
   unfold isCallB at hx1
   rw [Bool.and_eq_true] at hx1
   exact H _ hx1.2 head
theorem var_tx {f deep : Nat} {ex : ExT} {t : Nd} (H : ∀ i, exF f (t.kid i) = true → ∀ head, Tx (ex deep head (t.kid i))) (h : varB (tyF nmB f) (exF f) t = true) : Tx (varT (typF f) ex deep t) := by
 unfold varB at h
 rw [Bool.and_eq_true] at h
 obtain ⟨_, h2, h3⟩ := namB_parts h.1
 obtain ⟨x, y, hk, hx1, hy1⟩ := two_kids h3
 obtain ⟨e0, e1⟩ := kid_two hk
 rw [← e0] at hx1
 rw [← e1] at hy1
 unfold orB at hx1 hy1
 simp only [Bool.or_eq_true] at hx1 hy1
 unfold varT wVar
 intro m hm
 rw [List.append_assoc, List.append_assoc, List.append_assoc, (lit_o (l := [118, 97, 114]) (by decide)).go hm, go_lit (show rd .o [32] = .b by decide), (nmB_tx h2).go out_b]
 have k1 : rd .o (if (t.kid 1).kind = 0 then [] else [32, 61, 32] ++ ex deep false (t.kid 1)) = .o := by
  split
  · rfl
  · rename_i e
    rw [go_lit (show rd .o [32, 61, 32] = .b by decide)]
    exact H _ (hy1.resolve_left fun h => e (emptyB_kind h)) false _ out_b
 split
 · exact k1
 · rename_i e
   rw [List.append_assoc, go_lit (show rd .o [32] = .b by decide), (typ_tx f _ (hx1.resolve_left fun h => e (emptyB_kind h))).go out_b]
   exact k1
theorem rng_ids {s : List UInt8} (h : rngB s = true) : ∀ c ∈ s, idB c = true ∨ c = 44 := by
 unfold rngB at h
 split at h
 · rw [Bool.and_eq_true] at h
   intro c hc
   have h1 := (nmB_ids h.1).1
   have h2 := (nmB_ids (bnd_nm h.2)).1
   rw [← List.takeWhile_append_dropWhile (p := (· != 44)) (l := s)] at hc
   rcases List.mem_append.1 hc with hc | hc
   · exact .inl (h1 c hc)
   · cases hd : s.dropWhile (· != 44) with
     | nil => rw [hd] at hc; cases hc
     | cons y l =>
      rw [hd] at hc h2
      have hy : y = 44 := by
       have := List.head?_dropWhile_not (· != 44) s
       rw [hd] at this
       simpa using this
      rcases List.mem_cons.1 hc with rfl | hc
      · exact .inr hy
      · exact .inl (h2 c (by simpa using hc))
 · simp only [Bool.or_eq_true, beq_iff_eq] at h
   intro c hc
   rcases h with rfl | h
   · cases hc
   · exact .inl ((nmB_ids (bnd_nm h)).1 c hc)
theorem rng_go : ∀ {s : List UInt8}, (∀ c ∈ s, idB c = true ∨ c = 44) → ∀ {m : Md}, (m = .o ∨ m = .b) → (rd m (s.flatMap fun c => if c = 44 then [44, 32] else [c]) = .o ∨ rd m (s.flatMap fun c => if c = 44 then [44, 32] else [c]) = .b)
 | [], _, m, hm => hm
 | c :: s, h, m, hm => by
  have ho : Out m := hm.elim .inl fun h => .inr (.inl h)
  rw [List.flatMap_cons, rd_append]
  by_cases e : c = 44
  · rw [if_pos e]
    refine rng_go (fun d hd => h d (by simp [hd])) (.inr ?_)
    rw [rd_cons, sd1 ho (by decide)]
    decide
  · rw [if_neg e]
    refine rng_go (fun d hd => h d (by simp [hd])) (.inl ?_)
    rw [rd_cons, id_o ho ((h c (by simp)).resolve_right e)]
    rfl
theorem rngT_go {s : List UInt8} (h : rngB s = true) (r : List UInt8) : ∃ m, Out m ∧ rd .b (rngT s ++ r) = rd m r := by
 unfold rngT
 split
 · exact ⟨.b, out_b, rfl⟩
 · rw [List.append_assoc, rd_append]
   rcases rng_go (rng_ids h) (m := .b) (.inr rfl) with e | e
   · rw [e, go_lit (show rd .o [32, 58, 61, 32] = .b by decide)]; exact ⟨.b, out_b, rfl⟩
   · rw [e, go_lit (show rd .b [32, 58, 61, 32] = .b by decide)]; exact ⟨.b, out_b, rfl⟩
theorem blk_tx {f deep : Nat} {t : Nd} (HS : ∀ x ∈ t.kids, stF f x = true → ∀ deep, Tx (stT f deep x)) (h : blkB (stF f) t = true) : Tx (blT (stT f) deep t) := by
 unfold blkB at h
 simp only [Bool.and_eq_true, List.all_eq_true] at h
 exact bl_tx fun x hx => HS x hx (h.2.2 x hx) (deep + 1)
theorem st_tx_step (f : Nat) (H : ∀ t, t.size ≤ f → exF f t = true → ∀ deep head, Tx (exT f deep head t)) (HS : ∀ t, t.size ≤ f → stF f t = true → ∀ deep, Tx (stT f deep t)) (t : Nd) (ht : t.size ≤ f + 1) (he : stF (f + 1) t = true) (deep : Nat) : Tx (stT (f + 1) deep t) := by
 have HK : ∀ i, exF f (t.kid i) = true → ∀ head, Tx (exT f deep head (t.kid i)) := fun i h head => H _ (kid_sz ht (fun e => by subst e; cases h)) h deep head
 have HB : ∀ i, blkB (stF f) (t.kid i) = true → Tx (blT (stT f) deep (t.kid i)) := fun i h => blk_tx (fun x hx hs => HS x (kid_kid_sz ht hx) hs) h
 have HSm : ∀ i, SimB (exF f) (t.kid i) → Tx (simT (exT f) deep true (t.kid i)) := fun i h => sim_tx (fun j hj head => H _ (by
  by_cases e : f = 0
  · subst e; cases hj
  · have h1 := kid_sz (i := i) ht e
    exact kid_sz (i := j) (by omega) e) hj deep head) h
 rw [stF_succ] at he
 rw [stT_succ]
 unfold stB at he
 unfold stT1
 by_cases h5 : t.kind = 5
 · rw [if_pos h5] at he ⊢
   exact var_tx HK he
 rw [if_neg h5] at he ⊢
 by_cases h26 : t.kind = 26
 · rw [if_pos h26] at he
   rw [if_pos (.inl h26)]
   exact sim_tx HK (.inl he)
 rw [if_neg h26] at he
 by_cases h27 : t.kind = 27
 · rw [if_pos h27] at he
   rw [if_pos (.inr (.inl h27))]
   exact sim_tx HK (.inr (.inl he))
 rw [if_neg h27] at he
 by_cases h28 : t.kind = 28
 · rw [if_pos h28] at he
   rw [if_pos (.inr (.inr (.inl h28)))]
   exact sim_tx HK (.inr (.inr (.inl he)))
 rw [if_neg h28] at he
 by_cases h29 : t.kind = 29
 · rw [if_pos h29] at he
   rw [if_pos (.inr (.inr (.inr h29)))]
   exact sim_tx HK (.inr (.inr (.inr he)))
 rw [if_neg h29] at he
 rw [if_neg (by omega)]
 by_cases h30 : t.kind = 30
 · rw [if_pos h30] at he ⊢
   unfold ifsB at he
   obtain ⟨_, _, h3⟩ := ofB_parts he
   obtain ⟨x, y, z, hk, hx1, hy1, hz1⟩ := three_kids h3
   obtain ⟨e0, e1, e2⟩ := kid_three hk
   rw [← e0] at hx1
   rw [← e1] at hy1
   rw [← e2] at hz1
   intro m hm
   rw [List.append_assoc, List.append_assoc, List.append_assoc, show [105, 102, 32] ++ (exT f deep true (t.kid 0) ++ ([32] ++ (blT (stT f) deep (t.kid 1) ++ if (t.kid 2).kind = 0 then [] else [32, 101, 108, 115, 101, 32] ++ stT f deep (t.kid 2)))) = [105, 102] ++ ([32] ++ (exT f deep true (t.kid 0) ++ ([32] ++ (blT (stT f) deep (t.kid 1) ++ if (t.kid 2).kind = 0 then [] else [32, 101, 108, 115, 101, 32] ++ stT f deep (t.kid 2))))) from rfl,
    (lit_o (l := [105, 102]) (by decide)).go hm, go_lit (show rd .o [32] = .b by decide), (HK _ hx1 true).go out_b, go_lit (show rd .o [32] = .b by decide), (HB _ hy1).go out_b]
   split
   · rfl
   · rename_i e
     rw [go_lit (show rd .o [32, 101, 108, 115, 101, 32] = .b by decide)]
     unfold orB at hz1
     simp only [Bool.or_eq_true] at hz1
     rcases hz1 with (h | h) | h
     · exact absurd (emptyB_kind h) e
     · by_cases e0 : f = 0
       · subst e0
         exfalso
         have h1 := size_kids t
         rw [hk] at h1
         simp only [Nd.sizeL] at h1
         have := x.size_pos
         omega
       · have h1 := kid_sz (i := 2) ht e0
         exact HS _ h1 (stF_block h1 h) deep _ out_b
     · unfold ifB at h
       rw [Bool.and_eq_true] at h
       exact HS _ (kid_sz ht (fun e => by subst e; cases h.2)) h.2 deep _ out_b
 rw [if_neg h30] at he ⊢
 by_cases h31 : t.kind = 31
 · rw [if_pos h31] at he ⊢
   obtain ⟨_, _, h3⟩ := ofB_parts he
   obtain ⟨x, y, z, u, hk, hx1, hy1, hz1, hu1⟩ := four_kids h3
   obtain ⟨e0, e1, e2, e3⟩ := kid_four hk
   rw [← e0] at hx1
   rw [← e1] at hy1
   rw [← e2] at hz1
   rw [← e3] at hu1
   unfold orB at hx1 hy1 hz1
   simp only [Bool.or_eq_true] at hx1 hy1 hz1
   have hx2 : (t.kid 0).kind ≠ 0 → SimB (exF f) (t.kid 0) := fun h => by
    rcases hx1 with (h1 | h1) | (h1 | h1)
    · exact absurd (emptyB_kind h1) h
    · exact .inl h1
    · exact .inr (.inl h1)
    · exact .inr (.inr (.inl h1))
   have hy2 : (t.kid 1).kind ≠ 0 → exF f (t.kid 1) = true := fun h => hy1.resolve_left fun h' => h (emptyB_kind h')
   have hz2 : (t.kid 2).kind ≠ 0 → SimB (exF f) (t.kid 2) := fun h => by
    rcases hz1 with (h1 | h1) | (h1 | h1)
    · exact absurd (emptyB_kind h1) h
    · exact .inr (.inl h1)
    · exact .inr (.inr (.inl h1))
    · exact .inr (.inr (.inr h1))
   have hb := HB _ hu1
   intro m hm
   unfold loopT wFor
   rw [List.append_assoc, List.append_assoc, (lit_o (l := [102, 111, 114]) (by decide)).go hm, go_lit (show rd .o [32] = .b by decide)]
   split
   · have o0 : ∃ m0, (m0 = .o ∨ m0 = .b) ∧ ∀ r, rd .b ((if (t.kid 0).kind = 0 then [] else simT (exT f) deep true (t.kid 0)) ++ r) = rd m0 r := by
      split
      · exact ⟨.b, .inr rfl, fun r => rfl⟩
      · rename_i e
        exact ⟨.o, .inl rfl, fun r => (HSm _ (hx2 e)).go out_b r⟩
     obtain ⟨m0, hm0, g0⟩ := o0
     have g1 : ∀ r, rd .b ((if (t.kid 1).kind = 0 then [] else exT f deep true (t.kid 1)) ++ r) = rd (if (t.kid 1).kind = 0 then .b else .o) r := fun r => by
      split
      · rfl
      · rename_i e
        exact (HK _ (hy2 e) true).go out_b r
     have s0 : ∀ m1, (m1 = .o ∨ m1 = .b) → rd m1 [59, 32] = .b := fun m1 h => by rcases h with rfl | rfl <;> decide
     rw [List.append_assoc, List.append_assoc, List.append_assoc, List.append_assoc, g0, go_lit (s0 _ hm0), g1, go_lit (s0 _ (by split <;> simp))]
     split
     · exact hb _ out_b
     · rename_i e
       rw [List.append_assoc, (HSm _ (hz2 e)).go out_b, go_lit (show rd .o [32] = .b by decide)]
       exact hb _ out_b
   · split
     · exact hb _ out_b
     · rename_i e
       rw [List.append_assoc, (HK _ (hy2 e) true).go out_b, go_lit (show rd .o [32] = .b by decide)]
       exact hb _ out_b
 rw [if_neg h31] at he ⊢
 by_cases h32 : t.kind = 32
 · rw [if_pos h32] at he ⊢
   obtain ⟨_, h2, h3⟩ := namB_parts he
   obtain ⟨x, y, hk, hx1, hy1⟩ := two_kids h3
   obtain ⟨e0, e1⟩ := kid_two hk
   rw [← e0] at hx1
   rw [← e1] at hy1
   intro m hm
   unfold wFor
   rw [List.append_assoc, List.append_assoc, List.append_assoc, List.append_assoc, List.append_assoc, (lit_o (l := [102, 111, 114]) (by decide)).go hm, go_lit (show rd .o [32] = .b by decide)]
   obtain ⟨m', hm', e⟩ := rngT_go h2 ([114, 97, 110, 103, 101, 32] ++ (exT f deep true (t.kid 0) ++ ([32] ++ blT (stT f) deep (t.kid 1))))
   rw [e, show [114, 97, 110, 103, 101, 32] ++ (exT f deep true (t.kid 0) ++ ([32] ++ blT (stT f) deep (t.kid 1))) = [114, 97, 110, 103, 101] ++ ([32] ++ (exT f deep true (t.kid 0) ++ ([32] ++ blT (stT f) deep (t.kid 1)))) from rfl,
    (lit_o (l := [114, 97, 110, 103, 101]) (by decide)).go hm', go_lit (show rd .o [32] = .b by decide), (HK _ hx1 true).go out_b, go_lit (show rd .o [32] = .b by decide)]
   exact HB _ hy1 _ out_b
 rw [if_neg h32] at he ⊢
 by_cases h33 : t.kind = 33
 · rw [if_pos h33] at he ⊢
   obtain ⟨_, _, h3⟩ := ofB_parts he
   obtain ⟨x, hx, hx1⟩ := one_kid h3
   rw [← kid_one hx] at hx1
   unfold orB at hx1
   simp only [Bool.or_eq_true] at hx1
   intro m hm
   rw [(lit_o (l := [114, 101, 116, 117, 114, 110]) (by decide)).go hm]
   split
   · rfl
   · rename_i e
     rw [go_lit (show rd .o [32] = .b by decide)]
     exact HK _ (hx1.resolve_left fun h => e (emptyB_kind h)) false _ out_b
 rw [if_neg h33] at he ⊢
 by_cases h34 : t.kind = 34
 · rw [if_pos h34]; exact lit_o (by decide)
 rw [if_neg h34] at he ⊢
 by_cases h35 : t.kind = 35
 · rw [if_pos h35]; exact lit_o (by decide)
 rw [if_neg h35] at he ⊢
 exact blk_tx (fun x hx hs => HS x (by have := Nd.size_kid hx; omega) hs) he
theorem joins_tx {α : Type} {p : α → List UInt8} {sep : List UInt8} (hs : rd .o sep = .b) : ∀ {l : List α}, (∀ x ∈ l, Tx (p x)) → l ≠ [] → Tx (Lib.join (l.map p) sep)
 | [], _, h => absurd rfl h
 | x :: r, h, hne => fun m hm => by
  clear hne
  rw [List.map_cons, Lib.join_cons, (h x (by simp)).go hm]
  unfold Lib.joinTail
  have hr : ∀ y ∈ r, Tx (p y) := fun y hy => h y (by simp [hy])
  clear h
  induction r with
  | nil => rfl
  | cons y r ih =>
   rw [List.map_cons, List.map_cons, List.flatten_cons, List.append_assoc, go_lit hs, (hr y (by simp)).go out_b]
   exact ih fun z hz => hr z (by simp [hz])
theorem tld_app {s a : List UInt8} (h : tldB s = true) (ha : Tx a) : Tx (s ++ a) := by
 unfold tldB at h
 simp only [Bool.or_eq_true, beq_iff_eq] at h
 rcases h with rfl | rfl
 · exact ha
 · exact (lit_o (by decide)).app ha
theorem in_tx {f : Nat} {t : Nd} (h : interB (tyF nmB f) t = true ∨ tyF nmB f t = true) : Tx (inT (typF f) t) := by
 unfold inT
 by_cases hk : t.kind = 14
 · rw [if_pos hk]
   have h := h.resolve_right fun h => by have := tyF_kind h; omega
   unfold interB at h
   simp only [Bool.and_eq_true, List.all_eq_true, Bool.not_eq_true'] at h
   have hne : t.kids ≠ [] := fun e => by rw [e] at h; simp at h
   have hj : Tx (Lib.join (t.kids.map fun x => x.text ++ typF f (x.kid 0)) [32, 124, 32]) := joins_tx (by decide) (fun x hx => by
    obtain ⟨_, h2, h3⟩ := namB_parts (h.2.2.2 x hx)
    obtain ⟨y, hy, hy1⟩ := one_kid h3
    rw [← kid_one hy] at hy1
    exact tld_app h2 (typ_tx f _ hy1)) hne
   intro m hm
   rw [List.append_assoc, show [105, 110, 116, 101, 114, 102, 97, 99, 101, 123, 32] ++ (Lib.join (t.kids.map fun x => x.text ++ typF f (x.kid 0)) [32, 124, 32] ++ [32, 125]) = [105, 110, 116, 101, 114, 102, 97, 99, 101, 123] ++ ([32] ++ (Lib.join (t.kids.map fun x => x.text ++ typF f (x.kid 0)) [32, 124, 32] ++ [32, 125])) from rfl,
    (lit_o (l := [105, 110, 116, 101, 114, 102, 97, 99, 101, 123]) (by decide)).go hm, go_lit (show rd .o [32] = .b by decide), hj.go out_b]
   decide
 · rw [if_neg hk]
   refine typ_tx f t (h.resolve_left fun h => ?_)
   unfold interB at h
   simp only [Bool.and_eq_true, beq_iff_eq] at h
   exact hk h.1
theorem pars_go {f : Nat} {t : Nd} (h : parsB (tyF nmB f) t = true) (r : List UInt8) : rd .o (parsT (typF f) t ++ r) = rd .o r := by
 unfold parsT
 split
 · rfl
 · rename_i hne
   have hp := pars_kids h
   have hj : Tx (Lib.join (t.kids.map fun x => x.text ++ [32] ++ inT (typF f) (x.kid 0)) sComma) := joins_tx (by decide) (fun x hx => by
    have h1 := hp x hx
    have h2 : nmB x.text = true := by
     unfold parsB at h
     obtain ⟨_, _, h⟩ := listB_parts h
     have := h x hx
     unfold parB at this
     exact (namB_parts this).2.1
    intro m hm
    rw [List.append_assoc, (nmB_tx h2).go hm, go_lit (show rd .o [32] = .b by decide)]
    exact in_tx h1.2.2.2 _ out_b) hne
   rw [List.append_assoc, List.append_assoc, go_lit (show rd .o [91] = .o by decide), hj.go out_o]
   rfl
theorem decl_tx {f : Nat} (H : ∀ t, t.size ≤ f → exF f t = true → ∀ deep head, Tx (exT f deep head t)) (HS : ∀ t, t.size ≤ f → stF f t = true → ∀ deep, Tx (stT f deep t)) {t : Nd} (ht : t.size ≤ f + 1) (he : declB (tyF nmB f) (exF f) (stF f) t = true) : Tx (declT (typF f) (exT f) (stT f) t) := by
 unfold declB at he
 unfold declT wType
 by_cases h2 : t.kind = 2
 · rw [if_pos h2] at he ⊢
   obtain ⟨_, hn, h3⟩ := namB_parts he
   obtain ⟨x, y, z, hk, hx1, hy1, hz1⟩ := three_kids h3
   obtain ⟨e0, e1, e2⟩ := kid_three hk
   rw [← e0] at hx1
   rw [← e1] at hy1
   rw [← e2] at hz1
   intro m hm
   rw [List.append_assoc, List.append_assoc, List.append_assoc, List.append_assoc, show ∀ r : List UInt8, [102, 117, 110, 99, 32] ++ r = [102, 117, 110, 99] ++ ([32] ++ r) from fun r => rfl,
    (lit_o (l := [102, 117, 110, 99]) (by decide)).go hm, go_lit (show rd .o [32] = .b by decide), (nmB_tx hn).go out_b, pars_go hx1, (sig_tx nm_tx hy1 (typ_tx f)).go out_o, go_lit (show rd .o [32] = .b by decide)]
   exact blk_tx (fun x hx hs => HS x (kid_kid_sz ht hx) hs) hz1 _ out_b
 rw [if_neg h2] at he ⊢
 by_cases h3 : t.kind = 3
 · rw [if_pos h3] at he ⊢
   obtain ⟨_, hn, h3⟩ := namB_parts he
   obtain ⟨x, y, hk, hx1, hy1⟩ := two_kids h3
   obtain ⟨e0, e1⟩ := kid_two hk
   rw [← e0] at hx1
   rw [← e1] at hy1
   intro m hm
   rw [List.append_assoc, List.append_assoc, List.append_assoc, show ∀ r : List UInt8, [116, 121, 112, 101, 32] ++ r = [116, 121, 112, 101] ++ ([32] ++ r) from fun r => rfl,
    (lit_o (l := [116, 121, 112, 101]) (by decide)).go hm, go_lit (show rd .o [32] = .b by decide), (nmB_tx hn).go out_b, pars_go hx1, go_lit (show rd .o [32] = .b by decide)]
   unfold orB at hy1
   simp only [Bool.or_eq_true] at hy1
   split
   · rename_i hs
     have hst : structB (tyF nmB f) (t.kid 1) = true := by
      rcases hy1 with (h | h) | h
      · have := tyF_kind h; omega
      · exact h
      · unfold interB at h
        simp only [Bool.and_eq_true, beq_iff_eq] at h
        have := h.1
        omega
     unfold structB at hst
     simp only [Bool.and_eq_true, List.all_eq_true] at hst
     have hl : ∀ l : List Nd, (∀ x ∈ l, namB nmB 9 [tyF nmB f] x = true) → ∀ r, rd .n ((l.map fun x => lineT 1 (x.text ++ [32] ++ typF f (x.kid 0))).flatten ++ r) = rd .n r := by
      intro l hl r
      induction l with
      | nil => rfl
      | cons x l ih =>
       obtain ⟨_, h2, h3⟩ := namB_parts (hl x (by simp))
       obtain ⟨y, hy, hy1⟩ := one_kid h3
       rw [← kid_one hy] at hy1
       rw [List.map_cons, List.flatten_cons, List.append_assoc, line_n (deep := 0) (fun m hm => by
        rw [List.append_assoc, (nmB_tx h2).go hm, go_lit (show rd .o [32] = .b by decide)]
        exact typ_tx f _ hy1 _ out_b)]
       exact ih fun y hy => hl y (by simp [hy])
     rw [List.append_assoc, go_lit (show rd .b [115, 116, 114, 117, 99, 116, 32, 123, 10] = .n by decide), hl _ hst.2.2]
     rfl
   · rename_i hs
     refine in_tx ?_ _ out_b
     rcases hy1 with (h | h) | h
     · exact .inr h
     · unfold structB at h
       simp only [Bool.and_eq_true, beq_iff_eq] at h
       exact absurd h.1 hs
     · exact .inl h
 rw [if_neg h3] at he ⊢
 by_cases h4 : t.kind = 4
 · rw [if_pos h4] at he ⊢
   obtain ⟨_, hn, h3⟩ := namB_parts he
   obtain ⟨x, y, hk, hx1, hy1⟩ := two_kids h3
   obtain ⟨e0, e1⟩ := kid_two hk
   rw [← e0] at hx1
   rw [← e1] at hy1
   intro m hm
   rw [List.append_assoc, List.append_assoc, List.append_assoc, show ∀ r : List UInt8, [116, 121, 112, 101, 32] ++ r = [116, 121, 112, 101] ++ ([32] ++ r) from fun r => rfl,
    (lit_o (l := [116, 121, 112, 101]) (by decide)).go hm, go_lit (show rd .o [32] = .b by decide), (nmB_tx hn).go out_b, pars_go hx1, go_lit (show rd .o [32, 61, 32] = .b by decide)]
   exact typ_tx f _ hy1 _ out_b
 rw [if_neg h4] at he ⊢
 exact var_tx (fun i h head => H _ (kid_sz ht (fun e => by subst e; cases h)) h 0 head) he
theorem lv_tx : ∀ f, (∀ t, t.size ≤ f → exF f t = true → ∀ deep head, Tx (exT f deep head t)) ∧ (∀ t, t.size ≤ f → stF f t = true → ∀ deep, Tx (stT f deep t))
 | 0 => ⟨fun t _ h => absurd (show exF 0 t = true from h) (by intro h; cases h), fun t _ h => absurd (show stF 0 t = true from h) (by intro h; cases h)⟩
 | f + 1 => by
  have ih := lv_tx f
  exact ⟨fun t ht h deep head => ex_tx_step f ih.1 ih.2 t ht h deep head, fun t ht h deep => st_tx_step f ih.1 ih.2 t ht h deep⟩
theorem file_rd {f : Nat} {t : Nd} (ht : t.size ≤ f + 1) (h : fileB (tyF nmB f) (exF f) (stF f) t = true) : rd .n (fileT (typF f) (exT f) (stT f) t) = .n := by
 unfold fileB at h
 simp only [Bool.and_eq_true, List.all_eq_true] at h
 unfold fileT
 rw [List.append_assoc, List.append_assoc, go_lit (show rd .n [112, 97, 99, 107, 97, 103, 101, 32] = .b by decide), (nmB_tx h.2.1).go out_b, go_lit (show rd .o [10] = .n by decide)]
 have hl : ∀ l : List Nd, (∀ x ∈ l, Tx (declT (typF f) (exT f) (stT f) x)) → rd .n (l.map fun d => [10] ++ declT (typF f) (exT f) (stT f) d ++ [10]).flatten = .n := by
  intro l hl
  induction l with
  | nil => rfl
  | cons x l ih =>
   rw [List.map_cons, List.flatten_cons, List.append_assoc, List.append_assoc, go_lit (show rd .n [10] = .n by decide), (hl x (by simp)).go out_n, go_lit (show rd .o [10] = .n by decide)]
   exact ih fun y hy => hl y (by simp [hy])
 exact hl _ fun x hx => decl_tx (lv_tx f).1 (lv_tx f).2 (by have := Nd.size_kid hx; omega) (h.2.2 x hx)
end Go.Proofs.YthbmjamgidfneaaGreatDoor
namespace Go.Proofs.YthbmjamgidfneaaGreatDoor
open Go.RowKit Go.Lib Go.BigFrame
def tokCells (t : Tok) : List Value := [.int .i64 t.kind, .string ⟨t.text.toArray⟩, .int .i64 t.pos]
def tokVals (l : List Tok) : List Value := l.flatMap tokCells
def St (base sb : Nat) (w : World) (s : List UInt8) (k : Nat) (l n : List Tok) : Prop :=
 ∃ vl vn, w.heap[sb]? = some (.cells #[.string ⟨s.toArray⟩, .int .i64 k, vl, vn] 59 (0, 0)) ∧ w.ownsRow base 47 3 vl l.length (tokVals l) ∧ w.ownsRow base 47 3 vn n.length (tokVals n) ∧
  (∀ g, vl.ownBlock = some g → vn.ownBlock = some g → False) ∧ base ≤ sb
def StPost (base sb : Nat) (s : List UInt8) (k : Nat) (l n : List Tok) (w : World) (e : Ending) (w' : World) : Prop :=
 e = .returned (.tuple #[]) ∧ St base sb w' s k l n ∧ Ext (up base) w w'
theorem info29 : (Tryz.prog.info? 47).map (fun i => (i.zero, i.size, i.bytes)) = some (some (.agg #[.int .i64 0, .string ⟨#[]⟩, .int .i64 0]), 3, 32) := by kernel_rfl
theorem own_ne {w : World} {base : Nat} {size : Nat} {v : Value} {n : Nat} {xs : List Value} (h : w.ownsRow base 47 size v n xs) {sb : Nat} {cs : Array Value} (hs : w.heap[sb]? = some (.cells cs 59 (0, 0))) (g : Nat) (hg : v.ownBlock = some g) : g ≠ sb := by
 rcases h.2 with ⟨rfl, _⟩ | ⟨g', cap, cur, rfl, hb, hgg, rest⟩
 · cases hg
 · injection hg with hg
   subst hg
   rintro rfl
   rw [hgg] at hs
   cases hs
theorem tokVals_snoc (l : List Tok) (t : Tok) : tokVals (l ++ [t]) = tokVals l ++ tokCells t := by simp [tokVals]
theorem tok_src {w : World} {b : Nat} {cs : List Value} {t : TypeId} {fz : Nat × Nat} (h : w.heap[b]? = some (.cells cs.toArray t fz)) (hl : cs.length = 3) (h1 : ∀ u ∈ cs, u.oneCell' = true) : Src Tryz.prog 3 42 (.slice (some ⟨b, 0, none⟩) 1 1) 1 cs w :=
 Src.ofSlice _ Tryz.underlying42 _ 1 1 _ (by rw [hl]) (fun j u hj => by
  have e : (⟨b, 0, none⟩ : Addr).add j = ⟨b, j, none⟩ := by simp [Addr.add]; omega
  rw [e, cell_at h, List.getElem?_toArray, hj]) h1
theorem St.snoc {base sb : Nat} {w w2 : World} {s : List UInt8} {k : Nat} {l n : List Tok} {vl vn v2 : Value} {t : Tok} (hh : w.heap[sb]? = some (.cells #[.string ⟨s.toArray⟩, .int .i64 k, vl, vn] 59 (0, 0))) (hb : base ≤ sb)
  (rn : w.ownsRow base 47 3 vn n.length (tokVals n)) (hne : ∀ g, vl.ownBlock = some g → vn.ownBlock = some g → False) (x2 : Ext (fun i => vl.ownBlock = some i) w w2)
  (own2 : w2.ownsRow base 47 3 v2 (l.length + 1) (tokVals l ++ tokCells t)) (blk2 : v2.ownBlock = vl.ownBlock ∨ ∃ g, v2.ownBlock = some g ∧ w.heap.size ≤ g) (hvl : ∀ g, vl.ownBlock = some g → g ≠ sb) :
  St base sb (w2.setCell ⟨sb, 2, none⟩ v2) s k (l ++ [t]) n := by
 have h2 : w2.heap[sb]? = some (.cells #[.string ⟨s.toArray⟩, .int .i64 k, vl, vn] 59 (0, 0)) := x2.heap hh (fun h => hvl _ h rfl)
 have xs : Ext (one sb) w2 (w2.setCell ⟨sb, 2, none⟩ v2) := (Ext.refl _ _).set 2 v2
 have rn2 := ownsRow_ext rn x2 (fun g h1 h2 => hne g h2 h1)
 refine ⟨v2, vn, ?_, ?_, ?_, ?_, hb⟩
 · rw [heap_setCell_same h2]; rfl
 · have := ownsRow_ext own2 xs (fun g hg he => own_ne own2 h2 g hg he)
   rw [tokVals_snoc, List.length_append]
   exact this
 · exact ownsRow_ext rn2 xs (fun g hg he => own_ne rn2 h2 g hg he)
 · intro g h3 h4
   rcases blk2 with h5 | ⟨g', h5, h6⟩
   · exact hne g (h5 ▸ h3) h4
   · rw [h5] at h3
     injection h3 with h3
     have := (rn.lt g h4).2
     omega
theorem add_any (base sb : Nat) (kind fr k : Nat) (s : List UInt8) (l n : List Tok) (w : World) (st : St base sb w s k l n) (hf : fr ≤ k) (hk : k ≤ s.length) (hl : l.length ≤ 1000000) :
  Calls Tryz.prog 117 #[.pointer (some ⟨sb, 0, none⟩), .int .i64 kind, .int .i64 fr] w (StPost base sb s k (l ++ [⟨kind, (s.drop fr).take (k - fr), fr⟩]) n w) := by
 obtain ⟨vl, vn, hh, rl, rn, hne, hb⟩ := st
 have c0 : ∀ t : LaterF (fun i => base ≤ i ∧ i ≠ sb) w, t.w.cell? ⟨sb, 0, none⟩ = some (.string ⟨s.toArray⟩) := fun t => by
  rw [cell_at (t.x.heap hh (by simp))]; rfl
 have c1 : ∀ t : LaterF (fun i => base ≤ i ∧ i ≠ sb) w, t.w.cell? ⟨sb, 1, none⟩ = some (.int .i64 k) := fun t => by
  rw [cell_at (t.x.heap hh (by simp))]; rfl
 have c2 : ∀ t : LaterF (fun i => base ≤ i ∧ i ≠ sb) w, t.w.cell? ⟨sb, 2, none⟩ = some vl := fun t => by
  rw [cell_at (t.x.heap hh (by simp))]; rfl
 have HH := hid hh
 have RL := hid rl
 have RN := hid rn
 clear hh rl rn
 go_enter Tryz.func117, Tryz.ntmps117
 refine region_in (fun i => base ≤ i ∧ i ≠ sb) w [0, 1, 2, 3, 4, 5, 6, 7, 8, 9, 10, 11, 12, 13, 14, 15, 16, 17] [(18, true), (19, true), (20, false), (21, false), (22, false)] (by kernel_rfl) (by kernel_rfl) (fun dst v c a w h => by cases dst <;> exact h) (Ext.refl _ _) ?_
 simp only [sel, List.getElem?_cons_succ, List.getElem?_cons_zero]
 repeat (go_big_quiet_step (fail))
 refine wpQuiet_nil ?_
 rw [extract_eq s fr k]
 obtain ⟨t, ht⟩ : ∃ t, t = (s.drop fr).take (k - fr) := ⟨_, rfl⟩
 rw [← ht]
 have HT := hid ht
 clear ht
 simp only [wpChain, sel, List.getElem?_cons_succ, List.getElem?_cons_zero]
 go_wp2_with fail
 obtain ⟨w1, hw1⟩ : ∃ w1, w1 = (w.alloc (.cells #[.int .i64 kind, .string ⟨t.toArray⟩, .int .i64 fr] 47)).drew := ⟨_, rfl⟩
 rw [← hw1]
 have X1 : Ext none' w w1 := by rw [hw1]; exact ((Ext.refl _ _).alloc _).drew
 refine ⟨In.of (X1.mono fun i _ h => h.elim), ?_⟩
 have own1 : w1.ownsRow base 47 3 vl l.length (tokVals l) := ownsRow_ext RL.out X1 (fun _ _ h => h)
 have src : Src Tryz.prog 3 42 (.slice (some ⟨w.heap.size, 0, none⟩) 1 1) 1 (tokCells ⟨kind, t, fr⟩) w1 := tok_src (t := 47) (fz := (0, 0)) (by rw [hw1]; exact heap_alloc_at rfl _) rfl (by simp [tokCells, Value.oneCell'])
 obtain ⟨i0, hi, hz0, hz1, hz2⟩ := info_parts info29
 refine wpList_app _ rfl (.tmp 10) (.tmp 24) 42 42 rfl base 47 i0 _ 3 32 Tryz.underlying42 hi hz0 hz1 hz2 rfl vl l.length (tokVals l) rfl own1 _ 1 _ rfl src ?_ ?_ ?_ ?_
 · unfold maxLen; omega
 · omega
 · have := heap_lt HH.out; have := X1.size; omega
 intro v2 w2 own2 grow2 blk2 _
 obtain ⟨a2, c2, rfl⟩ := own_slice own2
 have hvl := own_ne RL.out HH.out
 have X2 : Ext (fun i => vl.ownBlock = some i) w w2 := (X1.mono fun i _ h => h.elim).grown grow2 (fun k hk => .inl hk)
 have X2' : Ext (fun i => base ≤ i ∧ i ≠ sb) w w2 := X2.mono fun i _ h => ⟨(RL.out.lt i h).1, hvl i h⟩
 have h2 := X2.heap HH.out (fun h => hvl _ h rfl)
 have p2 := cell_at h2 2
 have pf := free_at h2 2
 simp only [List.getElem?_toArray, List.getElem?_cons_zero, List.getElem?_cons_succ] at p2
 have fin := hid (St.snoc (t := ⟨kind, t, fr⟩) HH.out hb RN.out hne X2 own2 (blk2.imp id fun h => ⟨_, h, X1.size⟩) hvl)
 have XX := hid X2'
 clear own1 src hi hz0 hz1 hz2 own2 grow2 blk2 hvl X2 X2' h2 X1 hw1
 refine wpList_nil ?_
 refine ⟨In.of XX.out, ?_⟩
 go_wp2_with fail
 go_end0
 refine ⟨rfl, ?_, ?_⟩
 · exact fin.out
 · exact (XX.out.mono fun i _ h => h.1).setCell (p := ⟨sb, 2, none⟩) (.inl hb) _
def TGood (t : Tok) : Prop := t.kind ≤ 6 ∧ (t.kind = 6 → t.text ∈ [10] :: (signs3 ++ signs2 ++ signs1)) ∧ 1 ≤ t.kind
def hayE : List UInt8 := [32, 43, 43, 32, 45, 45, 32, 41, 32, 93, 32, 125, 32]
theorem shut_eq : ∀ t ∈ [10] :: (signs3 ++ signs2 ++ signs1), Lib.contains hayE (32 :: (t ++ [32])) = decide (t ∈ shuts) := by decide
theorem tokVals_len (l : List Tok) : (tokVals l).length = l.length * 3 := by
 unfold tokVals
 rw [List.length_flatMap]
 induction l with
 | nil => rfl
 | cons a l ih => simp [tokCells] at ih ⊢; omega
theorem last_cells {w : World} {base : Nat} {l : List Tok} {t : Tok} {a : Option Addr} {c : Nat} (h : w.ownsRow base 47 3 (.slice a (l.length + 1) c) (l.length + 1) (tokVals (l ++ [t]))) :
  ∃ g, a = some ⟨g, 0, none⟩ ∧ g < w.heap.size ∧ w.cell? ⟨g, l.length * 3, none⟩ = some (.int .i64 t.kind) ∧ w.cell? ⟨g, l.length * 3 + 1, none⟩ = some (.string ⟨t.text.toArray⟩) ∧ w.cell? ⟨g, l.length * 3 + 2, none⟩ = some (.int .i64 t.pos) := by
 have hb : ∃ g, a = some ⟨g, 0, none⟩ := by
  rcases h.2 with ⟨h1, h2⟩ | ⟨g, cap, cur, h1, _⟩
  · omega
  · injection h1 with h1; exact ⟨g, h1⟩
 obtain ⟨g, rfl⟩ := hb
 have hc := h.cells (g := g) rfl
 have hlt := (h.lt g rfl).2
 have e : ∀ j, (⟨g, 0, none⟩ : Addr).add j = ⟨g, j, none⟩ := fun j => by simp [Addr.add]; omega
 refine ⟨g, rfl, hlt, ?_, ?_, ?_⟩
 all_goals rw [← e]; apply hc; rw [tokVals_snoc, List.getElem?_append_right (by rw [tokVals_len]; omega), tokVals_len]
 · simp [tokCells]
 · rw [Nat.add_sub_cancel_left]; rfl
 · rw [Nat.add_sub_cancel_left]; rfl
theorem cat_eq (tx : List UInt8) : ((⟨#[32]⟩ : ByteArray) ++ ⟨tx.toArray⟩ ++ ⟨#[32]⟩ : ByteArray) = ⟨(32 :: (tx ++ [32])).toArray⟩ := by
 apply ByteArray.ext
 simp [ByteArray.data_append]
theorem ends_any (base sb k : Nat) (s : List UInt8) (l n : List Tok) (w : World) (st : St base sb w s k l n) (hl : l.length ≤ 1000000) (hm : MaxL w) (hg : ∀ t ∈ l, TGood t) (hx : ∀ t ∈ l, t.text.length ≤ 1000000) :
  Calls Tryz.prog 122 #[.pointer (some ⟨sb, 0, none⟩)] w (BoolPost (endsP l) w) := by
 obtain ⟨vl, vn, hh, rl, rn, hne, hb⟩ := st
 obtain ⟨a, c, rfl⟩ := own_slice rl
 have p2 := cell_at hh 2
 simp only [List.getElem?_toArray, List.getElem?_cons_zero, List.getElem?_cons_succ] at p2
 have HH := hid hh
 clear hh rn hne
 rcases List.eq_nil_or_concat l with rfl | ⟨l', t, rfl⟩
 · clear rl
   go_enter Tryz.func122, Tryz.ntmps122
   go_wp2
   go_ret
   exact ⟨rfl, Ext.refl _ _⟩
 · rw [List.concat_eq_append] at *
   have hgt := hg t (by simp)
   have hxt := hx t (by simp)
   rw [List.length_append] at rl p2 hl
   simp only [List.length_singleton] at rl p2 hl
   obtain ⟨g, rfl, hgs, c0, c1, c2⟩ := last_cells rl
   have q0 : ∀ t' : LaterF none' w, t'.w.cell? ⟨g, l'.length * 3, none⟩ = some (.int .i64 t.kind) := fun t' => by rw [t'.x.cell (p := ⟨g, l'.length * 3, none⟩) hgs (fun h => h)]; exact c0
   have q1 : ∀ t' : LaterF none' w, t'.w.cell? ⟨g, l'.length * 3 + 1, none⟩ = some (.string ⟨t.text.toArray⟩) := fun t' => by rw [t'.x.cell (p := ⟨g, l'.length * 3 + 1, none⟩) hgs (fun h => h)]; exact c1
   have q2 : ∀ t' : LaterF none' w, t'.w.cell? ⟨g, l'.length * 3 + 2, none⟩ = some (.int .i64 t.pos) := fun t' => by rw [t'.x.cell (p := ⟨g, l'.length * 3 + 2, none⟩) hgs (fun h => h)]; exact c2
   have q3 : ∀ t' : LaterF none' w, t'.w.cell? ⟨sb, 2, none⟩ = some (.slice (some ⟨g, 0, none⟩) (l'.length + 1) c) := fun t' => by rw [t'.x.cell (p := ⟨sb, 2, none⟩) (heap_lt HH.out) (fun h => h)]; exact p2
   have RL := hid rl
   clear rl c0 c1 c2
   obtain ⟨kd, tx, ps⟩ := t
   have hk6 : kd = 1 ∨ kd = 4 ∨ kd = 5 ∨ kd = 2 ∨ kd = 3 ∨ kd = 6 := by have := hgt.1; have := hgt.2.2; simp only at *; omega
   have hE : endsP (l' ++ [⟨kd, tx, ps⟩]) = endsT ⟨kd, tx, ps⟩ := by simp [endsP]
   rw [hE]
   have HG := hid hgt.2.1
   simp only at hxt q0 q1 q2
   clear hgt hg hx hE
   have CC := fun w' (h : MaxL w') => (let ⟨m, hm⟩ := h.2; Tryz.strings_Contains ⟨hayE.toArray⟩ ⟨(32 :: (tx ++ [32])).toArray⟩ m w' (by decide) hm)
   have HC := hid CC
   have HM := hid hm
   clear CC hm
   go_enter Tryz.func122, Tryz.ntmps122
   go_wp2_with fail
   refine region_in none' w [0, 1, 2, 3, 4, 5, 6, 7, 8, 9, 10, 11] [(12, true), (13, false)] (by kernel_rfl) (by kernel_rfl) (fun dst v c a w h => by cases dst <;> exact h) (Ext.refl _ _) ?_
   simp only [sel, List.getElem?_cons_succ, List.getElem?_cons_zero]
   repeat (go_big_quiet_step (fail))
   refine wpQuiet_nil ?_
   simp only [wpChain, sel, List.getElem?_cons_succ, List.getElem?_cons_zero]
   go_wp2_with fail
   refine ⟨In.of ((Ext.refl _ _).alloc _).drew, ?_⟩
   rcases hk6 with rfl | rfl | rfl | rfl | rfl | rfl
   · go_wp2_with fail
     go_ret
     exact ⟨rfl, ((Ext.refl _ _).alloc _).drew⟩
   · go_wp2_with fail
     go_ret
     exact ⟨rfl, ((Ext.refl _ _).alloc _).drew⟩
   · go_wp2_with fail
     go_ret
     exact ⟨rfl, ((Ext.refl _ _).alloc _).drew⟩
   · by_cases hkp : tx ∈ keeps
     · simp only [keeps, List.mem_cons, List.mem_nil_iff, or_false] at  hkp
       rcases hkp with rfl | rfl | rfl | rfl
       all_goals
        go_wp2_with fail
        go_ret
        exact ⟨rfl, ((Ext.refl _ _).alloc _).drew⟩
     · have HV : Hid (endsT ⟨2, tx, ps⟩ = false) := hid (by simp [endsT, hkp])
       simp only [keeps, List.mem_cons, List.mem_nil_iff, or_false, not_or] at hkp
       obtain ⟨k0, k1, k2, k3⟩ := hkp
       have e0 : (tx == [98, 114, 101, 97, 107]) = false := by simpa using k0
       have e1 : (tx == [99, 111, 110, 116, 105, 110, 117, 101]) = false := by simpa using k1
       have e2 : (tx == [114, 101, 116, 117, 114, 110]) = false := by simpa using k2
       have e3 : (tx == [102, 97, 108, 108, 116, 104, 114, 111, 117, 103, 104]) = false := by simpa using k3
       clear k0 k1 k2 k3
       go_wp2_with fail
       go_ret
       exact ⟨by rw [HV.out]; rfl, ((Ext.refl _ _).alloc _).drew⟩
   · by_cases hkp : tx ∈ keeps
     · simp only [keeps, List.mem_cons, List.mem_nil_iff, or_false] at  hkp
       rcases hkp with rfl | rfl | rfl | rfl
       all_goals
        go_wp2_with fail
        go_ret
        exact ⟨rfl, ((Ext.refl _ _).alloc _).drew⟩
     · have HV : Hid (endsT ⟨3, tx, ps⟩ = false) := hid (by simp [endsT, hkp])
       simp only [keeps, List.mem_cons, List.mem_nil_iff, or_false, not_or] at hkp
       obtain ⟨k0, k1, k2, k3⟩ := hkp
       have e0 : (tx == [98, 114, 101, 97, 107]) = false := by simpa using k0
       have e1 : (tx == [99, 111, 110, 116, 105, 110, 117, 101]) = false := by simpa using k1
       have e2 : (tx == [114, 101, 116, 117, 114, 110]) = false := by simpa using k2
       have e3 : (tx == [102, 97, 108, 108, 116, 104, 114, 111, 117, 103, 104]) = false := by simpa using k3
       clear k0 k1 k2 k3
       go_wp2_with fail
       go_ret
       exact ⟨by rw [HV.out]; rfl, ((Ext.refl _ _).alloc _).drew⟩
   · go_wp2_with fail
     rw [cat_eq]
     have HV : Hid (endsT ⟨6, tx, ps⟩ = Lib.contains hayE (32 :: (tx ++ [32]))) := hid (by rw [shut_eq _ (HG.out trivial)]; simp [endsT])
     refine (HC.out _ (HM.out.ext (((Ext.refl none' _).alloc _).drew) (fun h => h))).mono ?_
     rintro e w1 ⟨rfl, rfl⟩
     go_wp2_with fail
     go_ret
     exact ⟨by rw [HV.out]; rfl, ((Ext.refl _ _).alloc _).drew⟩
theorem tline_any (base sb k p : Nat) (s : List UInt8) (l n : List Tok) (w : World) (st : St base sb w s k l n) (hl : l.length ≤ 900000) (hm : MaxL w) (hg : ∀ t ∈ l, TGood t) (hx : ∀ t ∈ l, t.text.length ≤ 1000000) :
  Calls Tryz.prog 85 #[.pointer (some ⟨sb, 0, none⟩), .int .i64 p] w (StPost base sb s k (lineP l p) n w) := by
 have CE := hid (ends_any base sb k s l n w st (by omega) hm hg hx)
 have ST := hid st
 obtain ⟨vl, vn, hh, rl, rn, hne, hb⟩ := st
 have HH := hid hh
 have RL := hid rl
 have RN := hid rn
 clear hh rl rn hm hg hx
 go_enter Tryz.func85, Tryz.ntmps85
 go_wp2_with fail
 refine CE.out.mono ?_
 rintro e w1 ⟨rfl, X1⟩
 by_cases hE : endsP l = true
 · have hv : lineP l p = l ++ [⟨6, [10], p⟩] := by unfold lineP; rw [if_pos hE]
   have HV := hid hv
   clear hv
   rw [hE]
   have h1 := X1.heap HH.out (fun h => h)
   have p2 := cell_at h1 2
   simp only [List.getElem?_toArray, List.getElem?_cons_zero, List.getElem?_cons_succ] at p2
   have H1 := hid h1
   have HX1 := hid X1
   clear h1 hE X1
   obtain ⟨i0, hi, hz0, hz1, hz2⟩ := info_parts info29
   have I0 := hid hi
   have I1 := hid hz0
   have I2 := hid hz1
   have I3 := hid hz2
   clear hi hz0 hz1 hz2
   have own1 := ownsRow_ext RL.out HX1.out (fun _ _ h => h)
   have src : Src Tryz.prog 3 42 (.slice (some ⟨w1.heap.size, 0, none⟩) 1 1) 1 (tokCells ⟨6, [10], p⟩) (w1.alloc (.cells #[.int .i64 6, .string ⟨#[10]⟩, .int .i64 p] 47)) := tok_src (t := 47) (fz := (0, 0)) (heap_alloc_at rfl _) rfl (by simp [tokCells, Value.oneCell'])
   have O1 := hid (own1.alloc (.cells #[.int .i64 6, .string ⟨#[10]⟩, .int .i64 p] 47))
   have S1 := hid src
   clear own1 src
   go_wp2_with (at_builtin; refine wpList_app _ rfl (.tmp 10) (.tmp 13) 42 42 rfl base 47 i0 _ 3 32 Tryz.underlying42 I0.out I1.out I2.out I3.out rfl vl l.length (tokVals l) rfl O1.out _ 1 _ rfl S1.out ?_ ?_ ?_ ?_)
   · unfold maxLen; omega
   · omega
   · have := heap_lt HH.out; have := HX1.out.size; simp; omega
   intro v2 w2 own2 grow2 blk2 _
   obtain ⟨a2, c2, rfl⟩ := own_slice own2
   have hvl := own_ne RL.out HH.out
   have X1 : Ext none' w (w1.alloc (.cells #[.int .i64 6, .string ⟨#[10]⟩, .int .i64 p] 47)) := HX1.out.alloc _
   have X2 : Ext (fun i => vl.ownBlock = some i) w w2 := (X1.mono fun i _ h => h.elim).grown grow2 (fun k hk => .inl hk)
   have h2 := X2.heap HH.out (fun h => hvl _ h rfl)
   have p2 := cell_at h2 2
   have pf := free_at h2 2
   simp only [List.getElem?_toArray, List.getElem?_cons_zero, List.getElem?_cons_succ] at p2
   have fin := hid (St.snoc (t := ⟨6, [10], p⟩) HH.out hb RN.out hne X2 own2 (blk2.imp id fun h => ⟨_, h, by have := HX1.out.size; omega⟩) hvl)
   have XX := hid (X2.mono (G := up base) fun i _ h => (RL.out.lt i h).1)
   clear own2 grow2 blk2 hvl X2 h2 X1
   go_wp2_with fail
   go_end0
   refine ⟨rfl, ?_, ?_⟩
   · rw [HV.out]; exact fin.out
   · exact XX.out.setCell (p := ⟨sb, 2, none⟩) (.inl hb) _
 · have hv : lineP l p = l := by unfold lineP; rw [if_neg hE]
   have HV := hid hv
   have hE' : endsP l = false := by simpa using hE
   rw [hE']
   clear hv hE hE'
   have HX1 := hid X1
   clear X1
   go_wp2_with fail
   go_end0
   refine ⟨rfl, ?_, HX1.out.mono fun i _ h => h.elim⟩
   rw [HV.out]
   exact ⟨vl, vn, HX1.out.heap HH.out (fun h => h), ownsRow_ext RL.out HX1.out (fun _ _ h => h), ownsRow_ext RN.out HX1.out (fun _ _ h => h), hne, hb⟩
def gave (p : Nat) : Value := .iface 79 (.agg #[.int .i64 p])
theorem need_yes (v : Value) (p : Nat) (w : World) : Calls Tryz.prog 163 #[v, .bool true, .int .i64 p] w fun e w' => e = .returned (.tuple #[]) ∧ w = w' := by
 go_enter Tryz.func163, Tryz.ntmps163
 go_wp2
 go_end0
 exact ⟨rfl, rfl⟩
theorem need_no (v : Value) (p : Nat) (w : World) : Calls Tryz.prog 163 #[v, .bool false, .int .i64 p] w fun e w' => e = .panicked [{ v := gave p, recovered := false }] ∧ w = w' := by
 go_enter Tryz.func163, Tryz.ntmps163
 go_wp2
 exact ⟨rfl, rfl, rfl⟩
end Go.Proofs.YthbmjamgidfneaaGreatDoor
