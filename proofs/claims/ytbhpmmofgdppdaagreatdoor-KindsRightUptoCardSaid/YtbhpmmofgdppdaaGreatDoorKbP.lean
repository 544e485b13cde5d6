import Derived.Test.YtbhpmmofgdppdaaGreatDoorZAh
import Derived.Test.YtbhpmmofgdppdaaGreatDoorZAq
/-
  A right tree and the tree of its type: plain.
-/
namespace Go.Proofs.YtbhpmmofgdppdaaGreatDoor
open Go.RowKit Go.Lib
/-- Are two rows of nodes, one by one? -/
def samesN (p : Nd → Nd → Bool) : List Nd → List Nd → Bool
  | [], [] => true
  | a :: l, b :: m => p a b && samesN p l m
  | _, _ => false
def sameN : Nat → Nd → Nd → Bool
  | 0, _, _ => false
  | f + 1, a, b => a.kind == b.kind && (a.text == b.text && samesN (sameN f) a.kids b.kids)
theorem samesN_len {p : Nd → Nd → Bool} : ∀ {l m : List Nd}, l.length ≠ m.length → samesN p l m = false
  | [], [], h => absurd rfl h
  | [], _ :: _, _ => rfl
  | _ :: _, [], _ => rfl
  | a :: l, b :: m, h => by
    rw [samesN, samesN_len (fun e => h (by simp [e])), Bool.and_false]
theorem samesN_bad {p : Nd → Nd → Bool} : ∀ {l m : List Nd} {i : Nat} (h1 : i < l.length) (h2 : i < m.length), p l[i] m[i] = false → samesN p l m = false
  | [], _, _, h1, _, _ => by simp at h1
  | _ :: _, [], _, _, h2, _ => by simp at h2
  | a :: l, b :: m, 0, _, _, h => by simp at h; simp [samesN, h]
  | a :: l, b :: m, i + 1, h1, h2, h => by
    simp only [List.getElem_cons_succ] at h
    rw [samesN, samesN_bad _ _ h, Bool.and_false]
theorem samesN_good {p : Nd → Nd → Bool} : ∀ {l m : List Nd}, l.length = m.length → (∀ (i : Nat) (h1 : i < l.length) (h2 : i < m.length), p l[i] m[i] = true) → samesN p l m = true
  | [], [], _, _ => rfl
  | [], _ :: _, h, _ => by simp at h
  | _ :: _, [], h, _ => by simp at h
  | a :: l, b :: m, hl, h => by
    have h0 : p a b = true := h 0 (by simp) (by simp)
    rw [samesN, h0, samesN_good (by simpa using hl) fun i h1 h2 => h (i + 1) (by simpa using h1) (by simpa using h2)]
    rfl
/-! ### how deep -/
/-- How many nodes are within one another, to a depth. -/
def depD : Nat → Nd → Nat
  | 0, _ => 0
  | f + 1, t => (t.kids.map (depD f)).foldr max 0 + 1
theorem foldr_le : ∀ {l : List Nat} {x : Nat}, x ∈ l → x ≤ l.foldr max 0
  | a :: r, x, h => by
    rw [List.foldr_cons]
    rcases List.mem_cons.1 h with rfl | h
    · omega
    · have := foldr_le h; omega
theorem depD_kid {f : Nat} {t x : Nd} (h : x ∈ t.kids) : depD f x + 1 ≤ depD (f + 1) t := by
  have := foldr_le (List.mem_map_of_mem (f := depD f) h)
  rw [depD]; omega
/-- A tree that is not so deep is the same as itself without places. -/
theorem same_strip : ∀ (f g : Nat) (t : Nd), depD f t < f → f ≤ g → sameN g (strip t) t = true := by
  intro f
  induction f with
  | zero => intro g t h; omega
  | succ f ih =>
    intro g t h hg
    obtain ⟨g, rfl⟩ : ∃ k, g = k + 1 := ⟨g - 1, by omega⟩
    rw [sameN, strip_eq]
    simp only [Nd.kind, Nd.text, Nd.kids, beq_self_eq_true, Bool.true_and]
    refine samesN_good (by simp) fun i h1 h2 => ?_
    rw [List.getElem_map]
    have := depD_kid (f := f) (List.getElem_mem h2)
    exact ih g _ (by omega) (by omega)
theorem strip_size (t : Nd) : (strip t).size = t.size := by
  induction t using Nd.induct with
  | h k n l p ih =>
    rw [strip, Nd.size, Nd.size, stripL_map]
    have : ∀ m : List Nd, (∀ x ∈ m, (strip x).size = x.size) → Nd.sizeL (m.map strip) = Nd.sizeL m := by
      intro m
      induction m with
      | nil => intro _; rfl
      | cons a r ihr =>
        intro h
        rw [List.map_cons, Nd.sizeL, Nd.sizeL, h a (by simp), ihr fun x hx => h x (by simp [hx])]
    rw [this l ih]
theorem preL_strip : ∀ (f : Nat) (t : Nd), preL f (strip t) = preL f t
  | 0, _ => rfl
  | f + 1, t => by
    rw [preL, preL, strip_eq]
    simp only [Nd.kids, List.map_map]
    have : (preL f ∘ strip) = preL f := funext fun x => preL_strip f x
    rw [this]
theorem sizeD_strip (f : Nat) (t : Nd) : sizeD f (strip t) = sizeD f t := by rw [← preL_len, ← preL_len, preL_strip]
theorem depthN_strip (t : Nd) : depthN (strip t) = depthN t := by unfold depthN; rw [preL_strip]
theorem strip_kids (t : Nd) : (strip t).kids = t.kids.map strip := by rw [strip_eq]; rfl
theorem strip_text (t : Nd) : (strip t).text = t.text := by cases t; rfl
theorem kid_strip (t : Nd) (i : Nat) : (strip t).kid i = strip (t.kid i) := by
  unfold Nd.kid
  rw [strip_kids]
  by_cases h : i < t.kids.length
  · rw [List.getD_eq_getElem?_getD, List.getD_eq_getElem?_getD, List.getElem?_eq_getElem h, List.getElem?_eq_getElem (by simpa using h)]
    simp
  · rw [List.getD_eq_getElem?_getD, List.getD_eq_getElem?_getD, List.getElem?_eq_none (l := t.kids) (by omega), List.getElem?_eq_none (l := t.kids.map strip) (by simp; omega)]
    rfl
theorem kidsB_strip : ∀ {ps : List (Nd → Bool)} {l : List Nd}, (∀ p ∈ ps, ∀ x, p (strip x) = p x) → kidsB ps (l.map strip) = kidsB ps l
  | [], [], _ => rfl
  | [], _ :: _, _ => rfl
  | _ :: _, [], _ => rfl
  | p :: ps, x :: l, h => by
    rw [List.map_cons, kidsB, kidsB, h p (by simp) x, kidsB_strip fun q hq => h q (by simp [hq])]
theorem ofB_strip {k : Int} {ps : List (Nd → Bool)} (h : ∀ p ∈ ps, ∀ x, p (strip x) = p x) (t : Nd) : ofB k ps (strip t) = ofB k ps t := by
  unfold ofB
  rw [strip_kind, strip_text, strip_kids, kidsB_strip h]
theorem namB_strip {so : List UInt8 → Bool} {k : Int} {ps : List (Nd → Bool)} (h : ∀ p ∈ ps, ∀ x, p (strip x) = p x) (t : Nd) : namB so k ps (strip t) = namB so k ps t := by
  unfold namB
  rw [strip_kind, strip_text, strip_kids, kidsB_strip h]
theorem listB_strip {p : Nd → Bool} (h : ∀ x, p (strip x) = p x) (t : Nd) : listB p (strip t) = listB p t := by
  unfold listB
  rw [strip_kind, strip_text, strip_kids, List.all_map]
  congr 2
  exact funext h
theorem emptyB_strip (t : Nd) : emptyB (strip t) = emptyB t := by
  unfold emptyB
  rw [strip_kind, strip_text, strip_kids]
  cases t.kids <;> rfl
theorem sigB_strip {ty : Nd → Bool} (h : ∀ x, ty (strip x) = ty x) (so : List UInt8 → Bool) (t : Nd) : sigB ty so (strip t) = sigB ty so t := by
  unfold sigB
  refine ofB_strip (fun p hp x => ?_) t
  simp only [List.mem_cons, List.not_mem_nil, or_false] at hp
  rcases hp with rfl | rfl
  · exact listB_strip (fun y => namB_strip (fun q hq z => by simp only [List.mem_cons, List.not_mem_nil, or_false] at hq; subst hq; exact h z) y) x
  · show (emptyB (strip x) || ty (strip x)) = _
    rw [emptyB_strip, h]
theorem tyF_strip (nm : List UInt8 → Bool) : ∀ (f : Nat) (t : Nd), tyF nm f (strip t) = tyF nm f t
  | 0, _ => rfl
  | f + 1, t => by
    have ih := tyF_strip nm f
    rw [tyF, tyF, strip_kind, strip_text, strip_kids, List.all_map, ofB_strip (fun p hp x => by simp only [List.mem_cons, List.not_mem_nil, or_false] at hp; subst hp; exact ih x), sigB_strip ih]
    have : (tyF nm f ∘ strip) = tyF nm f := funext ih
    rw [this]
theorem typF_strip : ∀ (f : Nat) (t : Nd), typF f (strip t) = typF f t
  | 0, _ => rfl
  | f + 1, t => by
    have ih := typF_strip f
    rw [typF, typF, strip_kind, kid_strip, ih, strip_kids, strip_text]
    have hs : sigF (typF f) (strip t) = sigF (typF f) t := by
      unfold sigF
      rw [kid_strip, kid_strip, strip_kids, List.map_map]
      have h1 : (parF (typF f) ∘ strip) = parF (typF f) := funext fun x => by
        show parF (typF f) (strip x) = _
        unfold parF
        rw [strip_text, kid_strip, ih]
      have h2 : optT (typF f) (strip (t.kid 1)) = optT (typF f) (t.kid 1) := by
        unfold optT
        rw [strip_kind, ih]
      rw [h1, h2]
    rw [hs, List.map_map]
    have h3 : (typF f ∘ strip) = typF f := funext ih
    rw [h3]
    by_cases hk : t.kids = []
    · rw [hk]; rfl
    · rw [if_neg (show ¬ t.kids.map strip = [] by simpa using hk), if_neg hk]
theorem rightB_strip (p : Bool) (t : Nd) : rightB p (strip t) = rightB p t := by
  unfold rightB
  rw [depthN_strip, sizeD_strip]
/-- A right type's text is not empty. -/
theorem typF_ne {nm : List UInt8 → Bool} (hnm : nm [] = false) {f : Nat} {t : Nd} (h : tyF nm f t = true) : typF f t ≠ [] := by
  cases f with
  | zero => cases h
  | succ f =>
    rw [tyF] at h
    rw [typF]
    split at h
    · rename_i hk
      rw [if_neg (by omega), if_neg (by omega)]
      simp only [Bool.and_eq_true] at h
      have hn : t.text ≠ [] := by intro e; rw [e, hnm] at h; exact absurd h.1 (by simp)
      split
      · exact hn
      · simp
    · split at h
      · rename_i hk
        rw [if_pos hk]; simp
      · split at h
        · rename_i hk
          rw [if_neg (by omega), if_pos hk]
          unfold sigF betw
          intro e
          have h2 : (Lib.join (List.filter (fun p : List UInt8 => !p.isEmpty) [([102, 117, 110, 99, 40] ++ Lib.join ((t.kid 0).kids.map (parF (typF f))) sComma) ++ [41], optT (typF f) (t.kid 1)]) [32]).length = 0 := by rw [e]; rfl
          rw [List.filter_cons_of_pos (by simp)] at h2
          rw [Lib.join_length] at h2
          simp [Lib.lens] at h2
        · cases h
/-- maxN is the reference's depth. -/
theorem maxN_cons (a : Nat) (l : List Nat) : maxN (a :: l) = max (102 - a) (maxN l) := by
  unfold maxN
  rw [List.foldl_cons]
  have key : ∀ (l : List Nat) (a b : Nat), l.foldl (fun a x => max a (102 - x)) (max a b) = max a (l.foldl (fun a x => max a (102 - x)) b) := by
    intro l
    induction l with
    | nil => intro a b; rfl
    | cons x r ih => intro a b; rw [List.foldl_cons, List.foldl_cons, Nat.max_assoc, ih]
  rw [Nat.max_comm 0, key]
theorem maxN_append (l m : List Nat) : maxN (l ++ m) = max (maxN l) (maxN m) := by
  induction l with
  | nil => simp [maxN]
  | cons a r ih => rw [List.cons_append, maxN_cons, maxN_cons, ih, Nat.max_assoc]
theorem depN_pre : ∀ (f : Nat) (t : Nd), f ≤ 101 → maxN (preL f t) = if f = 0 then 0 else depD f t + (101 - f)
  | 0, _, _ => rfl
  | f + 1, t, hf => by
    rw [preL, maxN_cons, if_neg (by omega), depD]
    have key : ∀ l : List Nd, maxN ((l.map (preL f)).flatten) ≤ (l.map (depD f)).foldr max 0 + (101 - f) ∧ (l ≠ [] → f ≠ 0 → maxN ((l.map (preL f)).flatten) = (l.map (depD f)).foldr max 0 + (101 - f)) ∧ (f = 0 → maxN ((l.map (preL f)).flatten) = 0) := by
      intro l
      induction l with
      | nil => exact ⟨by simp [maxN], fun h => absurd rfl h, fun _ => rfl⟩
      | cons a r ih =>
        rw [List.map_cons, List.flatten_cons, maxN_append, List.map_cons, List.foldr_cons, depN_pre f a (by omega)]
        obtain ⟨h1, h2, h3⟩ := ih
        refine ⟨?_, fun _ h0 => ?_, fun h0 => ?_⟩
        · split <;> omega
        · rw [if_neg h0]
          by_cases hr : r = []
          · subst hr; simp [maxN]
          · rw [h2 hr h0]; omega
        · rw [if_pos h0, h3 h0]; rfl
    obtain ⟨h1, h2, h3⟩ := key t.kids
    by_cases hk : t.kids = []
    · rw [hk]; simp [maxN]; omega
    · by_cases h0 : f = 0
      · rw [h3 h0]
        subst h0
        have : (t.kids.map (depD 0)).foldr max 0 = 0 := by
          generalize t.kids = l
          induction l with
          | nil => rfl
          | cons a r ih => rw [List.map_cons, List.foldr_cons, ih]; rfl
        rw [this]
        decide
      · rw [h2 hk h0]; omega
theorem depthN_dep (t : Nd) : depthN t = depD 101 t := by
  unfold depthN
  rw [depN_pre 101 t (by omega)]
  simp
end Go.Proofs.YtbhpmmofgdppdaaGreatDoor
