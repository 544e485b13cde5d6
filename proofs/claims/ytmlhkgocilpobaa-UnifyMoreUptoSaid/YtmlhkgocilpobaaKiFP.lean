/-
  Aliases written out, within so many steps: plain. No Go in sight.
-/
import Derived.Test.YtmlhkgocilpobaaKiP
namespace Go.Proofs.Ytmlhkgocilpobaa
open Go.Lib
/-- What stands behind a name. -/
structure Df where
  name : List UInt8
  params : List (List UInt8)
  ty : Ty
  als : Bool
def defAt (ds : List Df) (n : List UInt8) : Option Df := ds.find? fun d => d.name == n
theorem defAt_at {ds : List Df} {n : List UInt8} {i : Nat} (hi : i < ds.length) (h : fstI (fun d => d.name == n) ds = (i : Nat)) : defAt ds n = some ds[i] := by
  unfold fstI at h
  unfold defAt
  cases hf : ds.findIdx? (fun d => d.name == n) with
  | none => rw [hf] at h; simp only at h; omega
  | some j =>
    rw [hf] at h
    simp only at h
    obtain rfl : j = i := by omega
    rw [List.findIdx?_eq_some_iff_getElem] at hf
    obtain ⟨h1, h2, h3⟩ := hf
    rw [List.find?_eq_some_iff_getElem]
    exact ⟨h2, j, h1, rfl, fun k hk => by have := h3 k hk; simpa using this⟩
theorem defAt_none {ds : List Df} {n : List UInt8} (h : fstI (fun d => d.name == n) ds = -1) : defAt ds n = none := by
  rcases fstI_cases (fun d : Df => d.name == n) ds with ⟨_, h2⟩ | ⟨i, _, h2, _⟩
  · unfold defAt
    rw [List.find?_eq_none]
    intro x hx
    simpa using h2 x hx
  · rw [h] at h2; omega
abbrev Rec := Option (Ty → Int → Ty × Int)
def aliasP (ds : List Df) (rec : Rec) (k : Int) (n : List UInt8) (x : List Ty × Int) : Ty × Int :=
  if k ≠ 3 then (.mk k n x.1, x.2) else match defAt ds n with
    | none => (.mk k n x.1, x.2)
    | some d => if d.als = false then (.mk k n x.1, x.2) else match rec with
      | none => (Ty.zero, 0)
      | some f => if d.params.length ≠ x.1.length then (Ty.zero, 0) else f (withT d.params x.1 d.ty) x.2
mutual
def fullT (ds : List Df) (rec : Rec) : Ty → Int → Ty × Int
  | .mk k n l, s => if s - 1 < 0 then (Ty.zero, s - 1) else aliasP ds rec k n (fullL ds rec l (s - 1))
def fullL (ds : List Df) (rec : Rec) : List Ty → Int → List Ty × Int
  | [], s => ([], s)
  | t :: r, s => ((fullT ds rec t s).1 :: (fullL ds rec r (fullT ds rec t s).2).1, (fullL ds rec r (fullT ds rec t s).2).2)
end
def fullN (ds : List Df) : Nat → Ty → Int → Ty × Int
  | 0 => fullT ds none
  | n + 1 => fullT ds (some (fullN ds n))
def recN (ds : List Df) : Nat → Rec
  | 0 => none
  | n + 1 => some (fullN ds n)
theorem fullN_eq (ds : List Df) (n : Nat) : fullN ds n = fullT ds (recN ds n) := by cases n <;> rfl
def fullP (ds : List Df) (t : Ty) : Ty := if 0 < (fullN ds 100 t 20000).2 then (fullN ds 100 t 20000).1 else Ty.zero
theorem fullL_len (ds : List Df) (rec : Rec) : ∀ (l : List Ty) (s : Int), (fullL ds rec l s).1.length = l.length
  | [], _ => rfl
  | t :: r, s => by rw [fullL, List.length_cons, List.length_cons, fullL_len ds rec r]
/-- The steps that are left ahead of the i-th. -/
def stepsAt (ds : List Df) (rec : Rec) : List Ty → Int → Nat → Int
  | [], s, _ => s
  | _ :: _, s, 0 => s
  | t :: r, s, i + 1 => stepsAt ds rec r (fullT ds rec t s).2 i
theorem stepsAt_zero (ds : List Df) (rec : Rec) (l : List Ty) (s : Int) : stepsAt ds rec l s 0 = s := by cases l <;> rfl
theorem stepsAt_end (ds : List Df) (rec : Rec) : ∀ (l : List Ty) (s : Int), stepsAt ds rec l s l.length = (fullL ds rec l s).2
  | [], _ => rfl
  | t :: r, s => by rw [List.length_cons, stepsAt, stepsAt_end ds rec r, fullL]
theorem stepsAt_succ (ds : List Df) (rec : Rec) : ∀ (l : List Ty) (s : Int) (i : Nat) (h : i < l.length), stepsAt ds rec l s (i + 1) = (fullT ds rec l[i] (stepsAt ds rec l s i)).2
  | t :: r, s, 0, _ => by show stepsAt ds rec r (fullT ds rec t s).2 0 = _; rw [stepsAt_zero]; rfl
  | t :: r, s, i + 1, h => by
    rw [stepsAt, stepsAt_succ ds rec r _ i (by simpa using h)]
    rfl
theorem fullL_at (ds : List Df) (rec : Rec) : ∀ (l : List Ty) (s : Int) (i : Nat) (h : i < l.length) (h' : i < (fullL ds rec l s).1.length), (fullL ds rec l s).1[i] = (fullT ds rec l[i] (stepsAt ds rec l s i)).1
  | t :: r, s, 0, _, _ => by simp only [fullL]; rfl
  | t :: r, s, i + 1, h, h' => by
    simp only [fullL]
    exact fullL_at ds rec r _ i (by simpa using h) (by simpa [fullL] using h')
/-- How large the types that are written out may be. -/
def bigD : Nat := 20000000000
/-- What is known of a step: it goes down; a type is not larger than the steps it took; how far below nought it ends. -/
structure StepOk (m : Nat) (f : Ty → Int → Ty × Int) : Prop where
  dn : ∀ t s, s ≤ 20000 → (f t s).2 ≤ s - 1
  sz : ∀ t s, s ≤ 20000 → ((f t s).1.size : Int) ≤ s - (f t s).2
  low : ∀ t s, s ≤ 20000 → t.size ≤ bigD → min s 0 - (t.size : Int) - (m : Int) * bigD ≤ (f t s).2
  neg : ∀ t s, s ≤ 0 → (f t s).2 = s - 1
def DefsOk (ds : List Df) : Prop := ∀ d ∈ ds, d.ty.size ≤ 1000000
theorem defAt_mem {ds : List Df} {n : List UInt8} {d : Df} (h : defAt ds n = some d) : d ∈ ds := List.mem_of_find?_eq_some h
theorem sizeL_pos_of_mem {l : List Ty} {t : Ty} (h : t ∈ l) : 1 ≤ Ty.sizeL l := Nat.le_trans t.size_pos (Ty.sizeL_mem h)
theorem with_big {ds : List Df} (hd : DefsOk ds) {n : List UInt8} {d : Df} (h : defAt ds n = some d) {l : List Ty} (hl : Ty.sizeL l ≤ 20000) : (withT d.params l d.ty).size ≤ bigD := by
  have h1 := hd d (defAt_mem h)
  have h2 := withT_size (ps := d.params) (by' := l) (m := 20000) (by omega) (fun t ht => Nat.le_trans (Ty.sizeL_mem ht) hl) d.ty
  have h3 : d.ty.size * 20000 ≤ 1000000 * 20000 := Nat.mul_le_mul_right _ h1
  unfold bigD
  omega
theorem step_ok {ds : List Df} (hd : DefsOk ds) (n : Nat) : StepOk n (fullN ds n) := by
  have core : ∀ (m : Nat) (rec : Rec), (∀ f, rec = some f → ∃ m', m = m' + 1 ∧ StepOk m' f) → StepOk m (fullT ds rec) := by
    intro m rec hrec
    have neg : ∀ t s, s ≤ 0 → (fullT ds rec t s).2 = s - 1 := by
      intro t s hs
      cases t with
      | mk k n l => rw [fullT, if_pos (by omega)]
    have hm0 : (0 : Int) ≤ (m : Int) * bigD := Int.mul_nonneg (by omega) (by unfold bigD; omega)
    have main : ∀ (t : Ty) (s : Int), s ≤ 20000 → (fullT ds rec t s).2 ≤ s - 1 ∧ ((fullT ds rec t s).1.size : Int) ≤ s - (fullT ds rec t s).2 ∧ (t.size ≤ bigD → min s 0 - (t.size : Int) - (m : Int) * bigD ≤ (fullT ds rec t s).2) := by
      intro t
      induction t using Ty.induct with
      | h k n l ih =>
        intro s hs
        rw [fullT]
        by_cases h0 : s - 1 < 0
        · rw [if_pos h0]
          refine ⟨by simp, by simp [Ty.zero, Ty.size, Ty.sizeL]; omega, fun _ => ?_⟩
          have := Ty.size_pos (.mk k n l)
          simp only
          omega
        · rw [if_neg h0]
          -- the row of the parts, by the parts
          have lp : ∀ (l' : List Ty), (∀ t ∈ l', ∀ (s : Int), s ≤ 20000 → (fullT ds rec t s).2 ≤ s - 1 ∧ ((fullT ds rec t s).1.size : Int) ≤ s - (fullT ds rec t s).2 ∧ (t.size ≤ bigD → min s 0 - (t.size : Int) - (m : Int) * bigD ≤ (fullT ds rec t s).2)) →
              ∀ s : Int, s ≤ 20000 → (fullL ds rec l' s).2 ≤ s ∧ (Ty.sizeL (fullL ds rec l' s).1 : Int) ≤ s - (fullL ds rec l' s).2 ∧ (Ty.sizeL l' ≤ bigD → min s 0 - (Ty.sizeL l' : Int) - (m : Int) * bigD ≤ (fullL ds rec l' s).2) ∧ (s ≤ 0 → (fullL ds rec l' s).2 = s - l'.length) := by
            intro l'
            induction l' with
            | nil => intro _ s _; simp only [fullL, Ty.sizeL]; exact ⟨by omega, by simp, fun _ => by omega, fun _ => by simp⟩
            | cons t r ihr =>
              intro h s hs
              have a := h t (by simp) s hs
              have b := ihr (fun x hx => h x (by simp [hx])) (fullT ds rec t s).2 (by omega)
              simp only [fullL, Ty.sizeL]
              refine ⟨by omega, by omega, fun hb => ?_, fun hn => ?_⟩
              · have a3 := a.2.2 (by omega)
                have b3 := b.2.2.1 (by omega)
                by_cases hp : (fullT ds rec t s).2 ≤ 0
                · rw [b.2.2.2 hp]
                  have := Ty.sizeL_len r
                  omega
                · omega
              · have := neg t s hn
                rw [b.2.2.2 (by omega), this, List.length_cons]
                omega
          obtain ⟨p1, p2, p3, p4⟩ := lp l ih (s - 1) (by omega)
          clear p4
          have same : (fullL ds rec l (s - 1)).2 ≤ s - 1 ∧ ((Ty.mk k n (fullL ds rec l (s - 1)).1).size : Int) ≤ s - (fullL ds rec l (s - 1)).2 ∧ ((Ty.mk k n l).size ≤ bigD → min s 0 - ((Ty.mk k n l).size : Int) - (m : Int) * bigD ≤ (fullL ds rec l (s - 1)).2) := by
            refine ⟨by omega, by rw [Ty.size]; omega, fun hb => ?_⟩
            rw [Ty.size] at hb ⊢
            have := p3 (by omega)
            omega
          have zero : (0 : Int) ≤ s - 1 ∧ (Ty.zero.size : Int) ≤ s - 0 ∧ ((Ty.mk k n l).size ≤ bigD → min s 0 - ((Ty.mk k n l).size : Int) - (m : Int) * bigD ≤ 0) := by
            refine ⟨by omega, by simp [Ty.zero, Ty.size, Ty.sizeL]; omega, fun _ => ?_⟩
            have := Ty.size_pos (.mk k n l)
            omega
          unfold aliasP
          split
          · exact same
          · split
            · exact same
            · rename_i d hdd
              split
              · exact same
              · split
                · exact zero
                · rename_i f
                  split
                  · exact zero
                  · obtain ⟨m', rfl, ok⟩ := hrec f rfl
                    have q1 := ok.dn (withT d.params (fullL ds (some f) l (s - 1)).1 d.ty) (fullL ds (some f) l (s - 1)).2 (by omega)
                    have q2 := ok.sz (withT d.params (fullL ds (some f) l (s - 1)).1 d.ty) (fullL ds (some f) l (s - 1)).2 (by omega)
                    refine ⟨by omega, by omega, fun hb => ?_⟩
                    rw [Ty.size] at hb ⊢
                    have p3' := p3 (by omega)
                    have em : ((m' + 1 : Nat) : Int) * bigD = (m' : Int) * bigD + bigD := by rw [Int.natCast_add, Int.add_mul]; simp
                    rw [em] at p3' ⊢
                    by_cases hp : (fullL ds (some f) l (s - 1)).2 ≤ 0
                    · rw [ok.neg _ _ hp]
                      omega
                    · have hw := with_big hd hdd (l := (fullL ds (some f) l (s - 1)).1) (by omega)
                      have := ok.low (withT d.params (fullL ds (some f) l (s - 1)).1 d.ty) (fullL ds (some f) l (s - 1)).2 (by omega) hw
                      have hD : ((withT d.params (fullL ds (some f) l (s - 1)).1 d.ty).size : Int) ≤ (bigD : Int) := by omega
                      omega
    exact ⟨fun t s h => (main t s h).1, fun t s h => (main t s h).2.1, fun t s h => (main t s h).2.2, neg⟩
  induction n with
  | zero => exact core 0 none (fun f h => by cases h)
  | succ n ih => exact core (n + 1) (some (fullN ds n)) (fun f h => by injection h with h; subst h; exact ⟨n, rfl, ih⟩)
theorem steps_neg {m : Nat} {ds : List Df} {rec : Rec} (ok : StepOk m (fullT ds rec)) : ∀ (l : List Ty) (s : Int) (i : Nat), s ≤ 0 → s - l.length ≤ stepsAt ds rec l s i ∧ stepsAt ds rec l s i ≤ s
  | [], s, _, _ => by rw [stepsAt]; simp
  | t :: r, s, 0, _ => by rw [stepsAt_zero]; omega
  | t :: r, s, i + 1, h => by
    have h1 := ok.neg t s h
    have := steps_neg ok r (fullT ds rec t s).2 i (by omega)
    rw [stepsAt, List.length_cons]
    omega
theorem steps_low {m : Nat} {ds : List Df} {rec : Rec} (ok : StepOk m (fullT ds rec)) : ∀ (l : List Ty) (s : Int) (i : Nat), s ≤ 20000 → Ty.sizeL l ≤ bigD → min s 0 - (Ty.sizeL l : Int) - (m : Int) * bigD ≤ stepsAt ds rec l s i ∧ stepsAt ds rec l s i ≤ s
  | [], s, _, _, _ => by
    have : (0 : Int) ≤ (m : Int) * bigD := Int.mul_nonneg (by omega) (by unfold bigD; omega)
    rw [stepsAt, Ty.sizeL]; omega
  | t :: r, s, 0, _, _ => by
    have : (0 : Int) ≤ (m : Int) * bigD := Int.mul_nonneg (by omega) (by unfold bigD; omega)
    rw [stepsAt_zero]; omega
  | t :: r, s, i + 1, hs, hb => by
    have : (0 : Int) ≤ (m : Int) * bigD := Int.mul_nonneg (by omega) (by unfold bigD; omega)
    rw [Ty.sizeL] at hb ⊢
    have h1 := ok.low t s hs (by omega)
    have h0 := ok.dn t s hs
    rw [stepsAt]
    by_cases hp : (fullT ds rec t s).2 ≤ 0
    · have := steps_neg ok r (fullT ds rec t s).2 i hp
      have := Ty.sizeL_len r
      omega
    · have := steps_low ok r (fullT ds rec t s).2 i (by omega) (by omega)
      omega
theorem list_sz {m : Nat} {ds : List Df} {rec : Rec} (ok : StepOk m (fullT ds rec)) : ∀ (l : List Ty) (s : Int), s ≤ 20000 → (fullL ds rec l s).2 ≤ s ∧ (Ty.sizeL (fullL ds rec l s).1 : Int) ≤ s - (fullL ds rec l s).2
  | [], s, _ => by simp [fullL, Ty.sizeL]
  | t :: r, s, hs => by
    have h1 := ok.dn t s hs
    have h2 := ok.sz t s hs
    have := list_sz ok r (fullT ds rec t s).2 (by omega)
    simp only [fullL, Ty.sizeL]
    omega
theorem full_size {ds : List Df} (hd : DefsOk ds) (t : Ty) : (fullP ds t).size ≤ 20000 := by
  have h := (step_ok hd 100).sz t 20000 (by omega)
  unfold fullP
  split
  · omega
  · simp [Ty.zero, Ty.size, Ty.sizeL]
end Go.Proofs.Ytmlhkgocilpobaa
