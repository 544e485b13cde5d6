/-
  Layer 3 (lit), plain: a number that is written plainly means itself. No Go in sight.
-/
import Derived.Test.YtielcpnalepkfaaDoorLitNumP
namespace Go.Proofs.YtielcpnalepkfaaDoor
open Go.Lib
/-- Ten times, and a figure more: the figure comes first. -/
theorem mulL_ten : ∀ (l : List Nat) (c : Nat), (∀ x ∈ l, x ≤ 9) → c ≤ 9 → (mulL 10 l c).1 ++ [(mulL 10 l c).2] = c :: l
  | [], c, _, _ => rfl
  | x :: l, c, h, hc => by
    have hx := h x (by simp)
    have e1 : (x * 10 + c) % 10 = c := by omega
    have e2 : (x * 10 + c) / 10 = x := by omega
    have ih := mulL_ten l x (fun y hy => h y (by simp [hy])) hx
    simp only [mulL, e1, e2, List.cons_append, ih]
theorem times_ten {l : List Nat} {c : Nat} (h : ∀ x ∈ l, x ≤ 9) (hc : c ≤ 9) (hl : l.getLast? ≠ some 0) (hn : l ≠ [] ∨ c ≠ 0) : timesP l 10 c = c :: l := by
  have h1 := mulL_ten l c h hc
  have h2 : (mulL 10 l c).2 = (c :: l).getLast (by simp) := by
    have := congrArg List.getLast? h1
    rw [List.getLast?_concat, List.getLast?_eq_some_getLast (by simp)] at this
    injection this
  have h3 : (c :: l).getLast (by simp) ≠ 0 := by
    cases l with
    | nil => simpa using hn
    | cons y t =>
      rw [List.getLast_cons (by simp)]
      intro e
      exact hl (by rw [List.getLast?_eq_some_getLast (by simp), e])
  have h4 : (c :: l).getLast (by simp) ≤ 9 := by
    have := List.getLast_mem (l := c :: l) (by simp)
    rcases List.mem_cons.1 this with e | e
    · rw [e]; exact hc
    · exact h _ e
  unfold timesP
  rw [← h1]
  congr 1
  rw [h2]
  generalize (c :: l).getLast (by simp) = d at h3 h4
  obtain ⟨k, rfl⟩ : ∃ k, d = k + 1 := ⟨d - 1, by omega⟩
  unfold carL
  rw [if_neg (by omega), show (k + 1) % 10 = k + 1 by omega, show (k + 1) / 10 = 0 by omega, carL_zero]
/-- The figures of a plain number. -/
def figs (s : List UInt8) : List Nat := s.map fun c => c.toNat - 48
def Figs (s : List UInt8) : Prop := ∀ c ∈ s, 48 ≤ c.toNat ∧ c.toNat ≤ 57
theorem fold_ten : ∀ (s : List UInt8) (v : List Nat), Figs s → (∀ x ∈ v, x ≤ 9) → v.getLast? ≠ some 0 → (v ≠ [] ∨ s.head? ≠ some 48) → (figs s).foldl (fun v d => timesP v 10 d) v = (figs s).reverse ++ v
  | [], v, _, _, _, _ => rfl
  | c :: t, v, hs, hv, hl, hn => by
    have hc := hs c (by simp)
    have hc9 : c.toNat - 48 ≤ 9 := by omega
    have hne : v ≠ [] ∨ c.toNat - 48 ≠ 0 := by
      rcases hn with h | h
      · exact .inl h
      · right
        intro e
        apply h
        have : c.toNat = 48 := by omega
        rw [List.head?_cons]
        congr 1
        exact UInt8.toNat_inj.1 this
    have ht := times_ten hv hc9 hl hne
    simp only [figs, List.map_cons, List.foldl_cons, ht]
    have ih := fold_ten t ((c.toNat - 48) :: v) (fun d hd => hs d (by simp [hd])) (fun x hx => by
      rcases List.mem_cons.1 hx with e | e
      · rw [e]; exact hc9
      · exact hv x e) (by
      cases v with
      | nil => simpa using hne
      | cons y w => rw [List.getLast?_cons_cons]; exact hl) (.inl (by simp))
    simp only [figs] at ih
    rw [ih]
    simp
theorem digs_figs : ∀ (s : List UInt8), Figs s → digsP 10 false s = some (figs s)
  | [], _ => rfl
  | c :: t, hs => by
    have hc := hs c (by simp)
    have h95 : ¬ (c = 95 ∧ false = false) := fun e => by rw [e.1] at hc; exact absurd hc (by decide)
    have hd : digN c.toNat = some (c.toNat - 48) := by unfold digN; rw [if_pos hc]
    unfold digsP
    rw [if_neg h95, hd]
    simp only
    rw [if_neg (by omega), digs_figs t (fun d hd => hs d (by simp [hd]))]
    rfl
theorem show_figs (s : List UInt8) (hs : Figs s) (hne : s ≠ []) : showP (figs s).reverse = s := by
  unfold showP
  rw [if_neg (by simp [figs, hne]), List.reverse_reverse]
  unfold figs
  rw [List.map_map]
  conv => rhs; rw [← List.map_id s]
  apply List.map_congr_left
  intro c hc
  have := hs c hc
  simp only [Function.comp_apply, id_eq]
  rw [show 48 + (c.toNat - 48) = c.toNat by omega]
  simp
/-- A number that is written plainly means itself. -/
theorem num_plain (s : List UInt8) (hs : Figs s) (hl : s.length ≤ 200) (hne : s ≠ []) (h0 : s = [48] ∨ s.head? ≠ some 48) : numP s = (s, 0) := by
  have hb : baseP s = (10, s) := by
    unfold baseP
    rw [if_pos]
    rcases h0 with rfl | h0
    · left; simp
    · exact .inr h0
  have h95 : ¬ ((10 : Nat) = 10 ∧ (s = [] ∨ s.head? = some 95)) := by
    rintro ⟨_, h | h⟩
    · exact hne h
    · cases s with
      | nil => cases h
      | cons c t =>
        injection h with h
        have := hs c (by simp)
        rw [h] at this
        exact absurd this (by decide)
  unfold numP
  rw [if_neg (by omega), hb]
  simp only
  rw [if_neg (fun h => h95 ⟨rfl, h.2⟩), digs_figs s hs]
  unfold goP
  simp only
  rw [if_neg (by simp [figs, hne])]
  rcases h0 with rfl | h0
  · rfl
  · rw [fold_ten s [] hs (by simp) (by simp) (.inr h0), List.append_nil, show_figs s hs hne]
end Go.Proofs.YtielcpnalepkfaaDoor
