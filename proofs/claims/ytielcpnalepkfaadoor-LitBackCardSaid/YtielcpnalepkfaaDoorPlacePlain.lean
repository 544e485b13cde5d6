/-
  Layer 1 (place), plain: the signs' beginnings of a text with their places, as one list; Of and At over it; what follows. No Go in sight.
-/
import Derived.Lib.TrimUEq
namespace Go.Proofs.YtielcpnalepkfaaDoor
open Go.Lib

/-- All places at which a sign begins, and the end's, each with its line and column. -/
def bnd : Nat → List UInt8 → Nat → Int → Int → List (Nat × Int × Int)
  | 0, _, i, l, c => [(i, l, c)]
  | f + 1, s, i, l, c =>
    if s = [] then [(i, l, c)]
    else (i, l, c) :: (if (decodeL s).1 = 10 then bnd f (s.drop (decodeL s).2) (i + (decodeL s).2) (l + 1) 1
      else bnd f (s.drop (decodeL s).2) (i + (decodeL s).2) l (c + 1))

def bnds (s : List UInt8) : List (Nat × Int × Int) := bnd s.length s 0 1 1
def ofP (s : List UInt8) (k : Nat) : Int × Int := (((bnds s).find? fun x => decide (k ≤ x.1)).map (·.2)).getD (0, 0)
def atP (s : List UInt8) (p : Int × Int) : Int := (((bnds s).find? fun x => decide (x.2 = p)).map fun x => (x.1 : Int)).getD (-1)

theorem dw1 (s : List UInt8) : 1 ≤ (decodeL s).2 := decodeL_width s

theorem decodeN_le (n b0 b1 b2 b3 : Nat) (h : 0 < n) : (decodeN n b0 b1 b2 b3).2 ≤ n := by
  unfold decodeN
  repeat' split
  all_goals simp only <;> omega
theorem dwle (s : List UInt8) (h : s ≠ []) : (decodeL s).2 ≤ s.length := by
  rw [decodeL_N]; exact decodeN_le _ _ _ _ _ (List.length_pos_iff.2 h)

theorem bnd_nil (f i : Nat) (l c : Int) : bnd f [] i l c = [(i, l, c)] := by cases f <;> simp [bnd]
theorem bnd_fuel : ∀ (f g : Nat) (s : List UInt8) (i : Nat) (l c : Int), s.length ≤ f → s.length ≤ g → bnd f s i l c = bnd g s i l c
  | 0, g, s, i, l, c, h, _ => by
    have : s = [] := List.eq_nil_of_length_eq_zero (by omega)
    subst this; rw [bnd_nil, bnd_nil]
  | f + 1, 0, s, i, l, c, _, h => by
    have : s = [] := List.eq_nil_of_length_eq_zero (by omega)
    subst this; rw [bnd_nil, bnd_nil]
  | f + 1, g + 1, s, i, l, c, hf, hg => by
    by_cases hs : s = []
    · subst hs; rw [bnd_nil, bnd_nil]
    · have h1 := dw1 s
      have hl : 0 < s.length := List.length_pos_iff.2 hs
      have e : (s.drop (decodeL s).2).length ≤ f ∧ (s.drop (decodeL s).2).length ≤ g := by rw [List.length_drop]; omega
      simp only [bnd, if_neg hs]
      rw [bnd_fuel f g _ _ _ _ e.1 e.2, bnd_fuel f g _ _ _ _ e.1 e.2]
/-- One step, whatever fuel suffices. -/
def rest (s : List UInt8) (i : Nat) (l c : Int) : List (Nat × Int × Int) := bnd s.length s i l c
theorem rest_nil (i : Nat) (l c : Int) : rest [] i l c = [(i, l, c)] := bnd_nil _ _ _ _
theorem rest_step (s : List UInt8) (i : Nat) (l c : Int) (h : s ≠ []) :
    rest s i l c = (i, l, c) :: (if (decodeL s).1 = 10 then rest (s.drop (decodeL s).2) (i + (decodeL s).2) (l + 1) 1 else rest (s.drop (decodeL s).2) (i + (decodeL s).2) l (c + 1)) := by
  have h1 := dw1 s
  have hl : 0 < s.length := List.length_pos_iff.2 h
  obtain ⟨f, hf⟩ : ∃ f, s.length = f + 1 := ⟨s.length - 1, by omega⟩
  have e : (s.drop (decodeL s).2).length ≤ f := by rw [List.length_drop]; omega
  unfold rest
  rw [hf]
  simp only [bnd, if_neg h]
  rw [bnd_fuel f _ _ _ _ _ e (Nat.le_refl _), bnd_fuel f _ _ _ _ _ e (Nat.le_refl _)]
theorem rest_head (s : List UInt8) (i : Nat) (l c : Int) : ∃ t, rest s i l c = (i, l, c) :: t := by
  by_cases h : s = []
  · subst h; exact ⟨_, rest_nil _ _ _⟩
  · exact ⟨_, rest_step s i l c h⟩

/-- One place ahead of another. -/
def plt (x y : Int × Int) : Prop := x.1 < y.1 ∨ (x.1 = y.1 ∧ x.2 < y.2)
theorem plt_trans {x y z : Int × Int} (h : plt x y) (k : plt y z) : plt x z := by
  unfold plt at *; omega
theorem plt_irrefl (x : Int × Int) : ¬ plt x x := by unfold plt; omega
def blt (x y : Nat × Int × Int) : Prop := x.1 < y.1 ∧ plt x.2 y.2

theorem rest_above : ∀ (n : Nat) (s : List UInt8), s.length ≤ n → ∀ (i : Nat) (l c : Int) (y : Nat × Int × Int), y ∈ rest s i l c → y = (i, l, c) ∨ (i < y.1 ∧ plt (l, c) y.2)
  | n, s, hn, i, l, c, y, hy => by
    by_cases h : s = []
    · subst h; rw [rest_nil] at hy; left; simpa using hy
    · rw [rest_step s i l c h] at hy
      have h1 := dw1 s
      have hl : 0 < s.length := List.length_pos_iff.2 h
      match n, hn with
      | 0, hn => omega
      | n + 1, hn =>
        have e : (s.drop (decodeL s).2).length ≤ n := by rw [List.length_drop]; omega
        rcases List.mem_cons.1 hy with hy | hy
        · exact .inl hy
        · right
          split at hy
          · rcases rest_above n _ e _ _ _ y hy with rfl | ⟨a, b⟩
            · exact ⟨by simp only; omega, by unfold plt; simp only; omega⟩
            · exact ⟨by omega, by unfold plt at *; simp only at *; omega⟩
          · rcases rest_above n _ e _ _ _ y hy with rfl | ⟨a, b⟩
            · exact ⟨by simp only; omega, .inr ⟨rfl, by simp only; omega⟩⟩
            · exact ⟨by omega, by unfold plt at *; simp only at *; omega⟩
theorem rest_sorted : ∀ (n : Nat) (s : List UInt8), s.length ≤ n → ∀ (i : Nat) (l c : Int), (rest s i l c).Pairwise blt
  | n, s, hn, i, l, c => by
    by_cases h : s = []
    · subst h; rw [rest_nil]; exact List.pairwise_singleton _ _
    · have h1 := dw1 s
      have hl : 0 < s.length := List.length_pos_iff.2 h
      match n, hn with
      | 0, hn => omega
      | n + 1, hn =>
        have e : (s.drop (decodeL s).2).length ≤ n := by rw [List.length_drop]; omega
        rw [rest_step s i l c h]
        refine List.pairwise_cons.2 ⟨fun y hy => ?_, ?_⟩
        · have hy' : y ∈ rest s i l c := by rw [rest_step s i l c h]; exact List.mem_cons_of_mem _ hy
          split at hy
          · rcases rest_above n _ e _ _ _ y hy with rfl | ⟨a, b⟩
            · exact ⟨by simp only; omega, by unfold plt; simp only; omega⟩
            · exact ⟨by simp only; omega, by unfold plt at *; simp only at *; omega⟩
          · rcases rest_above n _ e _ _ _ y hy with rfl | ⟨a, b⟩
            · exact ⟨by simp only; omega, .inr ⟨rfl, by simp only; omega⟩⟩
            · exact ⟨by simp only; omega, by unfold plt at *; simp only at *; omega⟩
        · split
          · exact rest_sorted n _ e _ _ _
          · exact rest_sorted n _ e _ _ _
theorem bnds_rest (s : List UInt8) : bnds s = rest s 0 1 1 := rfl
theorem bnds_sorted (s : List UInt8) : (bnds s).Pairwise blt := rest_sorted _ s (Nat.le_refl _) _ _ _
end Go.Proofs.YtielcpnalepkfaaDoor
