/-
  Types in the place of parameters, aliases written out, what stands behind: plain. No Go in sight.
-/
import Derived.Test.YtmlhkgocilpobaaKiIdx
namespace Go.Proofs.Ytmlhkgocilpobaa
open Go.Lib
mutual
/-- Types in the place of parameters. -/
def withT (ps : List (List UInt8)) (by' : List Ty) : Ty → Ty
  | .mk k n l => if k = 4 ∧ 0 ≤ fstI (· == n) ps ∧ fstI (· == n) ps < by'.length then by'.getD (fstI (· == n) ps).toNat Ty.zero else .mk k n (withL ps by' l)
def withL (ps : List (List UInt8)) (by' : List Ty) : List Ty → List Ty
  | [] => []
  | t :: r => withT ps by' t :: withL ps by' r
end
theorem withL_map (ps : List (List UInt8)) (by' : List Ty) : ∀ l, withL ps by' l = l.map (withT ps by')
  | [] => rfl
  | t :: r => by rw [withL, withL_map ps by' r]; rfl
theorem withT_eq (ps : List (List UInt8)) (by' : List Ty) (t : Ty) : withT ps by' t = if t.kind = 4 ∧ 0 ≤ fstI (· == t.name) ps ∧ fstI (· == t.name) ps < by'.length then by'.getD (fstI (· == t.name) ps).toNat Ty.zero else .mk t.kind t.name (t.args.map (withT ps by')) := by
  cases t with
  | mk k n l => rw [withT, withL_map]; rfl
theorem withT_mk (ps : List (List UInt8)) (by' : List Ty) (k : Int) (n : List UInt8) (l : List Ty) : withT ps by' (.mk k n l) = if k = 4 ∧ 0 ≤ fstI (· == n) ps ∧ fstI (· == n) ps < by'.length then by'.getD (fstI (· == n) ps).toNat Ty.zero else .mk k n (l.map (withT ps by')) := by
  rw [withT, withL_map]
theorem withT_size {ps : List (List UInt8)} {by' : List Ty} {m : Nat} (hm : 1 ≤ m) (hb : ∀ t ∈ by', t.size ≤ m) (t : Ty) : (withT ps by' t).size ≤ t.size * m := by
  induction t using Ty.induct with
  | h k n l ih =>
    rw [withT_mk]
    have h1 : m ≤ (Ty.mk k n l).size * m := Nat.le_mul_of_pos_left m (Ty.size_pos _)
    split
    · rename_i hc
      have hl : (fstI (· == n) ps).toNat < by'.length := by have := hc.2; omega
      rw [List.getD_eq_getElem?_getD, List.getElem?_eq_getElem hl]
      exact Nat.le_trans (hb _ (List.getElem_mem hl)) h1
    · have key : ∀ l' : List Ty, (∀ t ∈ l', (withT ps by' t).size ≤ t.size * m) → Ty.sizeL (l'.map (withT ps by')) ≤ Ty.sizeL l' * m := by
        intro l'
        induction l' with
        | nil => intro _; simp [Ty.sizeL]
        | cons t r ihr =>
          intro h
          have a := h t (by simp)
          have b := ihr fun x hx => h x (by simp [hx])
          rw [List.map_cons, Ty.sizeL, Ty.sizeL, Nat.add_mul]
          omega
      have := key l ih
      rw [Ty.size, Ty.size, Nat.add_mul]
      omega
end Go.Proofs.Ytmlhkgocilpobaa
