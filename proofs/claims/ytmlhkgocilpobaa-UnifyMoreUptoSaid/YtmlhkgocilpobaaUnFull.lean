import Derived.Test.YtmlhkgocilpobaaUnFindP
import Derived.Test.YtmlhkgocilpobaaRegionZ
/-
  unify.Find: one pair in full.
-/
namespace Go.Proofs.Ytmlhkgocilpobaa
open Go.RowKit Go.Lib Go.BigFrame
def avo (bv : Value) (P Q : Nat) : Nat → Prop := fun b => plus none' bv b ∨ b = P ∨ b = Q
/-- Behind the eighth region: both in full, in blocks of their own. -/
structure FdMid (bv : Value) (p t : Ty) (w : World) (y z u : Value) (wx : World) : Prop where
  y : ∃ P x, y = .pointer (some ⟨P, 0, none⟩) ∧ wx.heap[P]? = some (.cells #[.int .i64 p.kind, .string ⟨p.name.toArray⟩, x] 33 (0, 0)) ∧ IsSl 3 IsTy (plus none' bv) wx x p.args
  z : ∃ Q x, z = .pointer (some ⟨Q, 0, none⟩) ∧ wx.heap[Q]? = some (.cells #[.int .i64 t.kind, .string ⟨t.name.toArray⟩, x] 33 (0, 0)) ∧ IsSl 3 IsTy (plus none' bv) wx x t.args
  u : u = .bool (p.kind != 0 && t.kind != 0)
  x : Ext none' w wx
theorem FdMid.mk1 {bv : Value} {p t : Ty} {w W6 : World} {P Q : Nat} {x x' y0 y1 y2 z0 z1 z2 : Value} (X : Ext none' w W6) (hP : W6.heap[P]? = some (.cells #[y0, y1, y2] 33 (0, 0))) (hQ : W6.heap[Q]? = some (.cells #[z0, z1, z2] 33 (0, 0))) (hne : P ≠ Q) (hPw : w.heap.size ≤ P) (hQw : w.heap.size ≤ Q)
    (hx : IsSl 3 IsTy (avo bv P Q) W6 x p.args) (hx' : IsSl 3 IsTy (avo bv P Q) W6 x' t.args) :
    FdMid bv p t w (.pointer (some ⟨P, 0, none⟩)) (.pointer (some ⟨Q, 0, none⟩)) (.bool (p.kind != 0 && t.kind != 0))
      ((((((W6.setCell ⟨P, 0, none⟩ (.int .i64 p.kind)).setCell ⟨P, 1, none⟩ (.string ⟨p.name.toArray⟩)).setCell ⟨P, 2, none⟩ x).setCell ⟨Q, 0, none⟩ (.int .i64 t.kind)).setCell ⟨Q, 1, none⟩ (.string ⟨t.name.toArray⟩)).setCell ⟨Q, 2, none⟩ x') := by
  have X1 := Ext.self3 W6 P (.int .i64 p.kind) (.string ⟨p.name.toArray⟩) x
  have X2 := Ext.self3 (((W6.setCell ⟨P, 0, none⟩ (.int .i64 p.kind)).setCell ⟨P, 1, none⟩ (.string ⟨p.name.toArray⟩)).setCell ⟨P, 2, none⟩ x) Q (.int .i64 t.kind) (.string ⟨t.name.toArray⟩) x'
  have f1 : ∀ b, one P b → avo bv P Q b := fun b h => .inr (.inl h)
  have f2 : ∀ b, one Q b → avo bv P Q b := fun b h => .inr (.inr h)
  have tr : ∀ {v : Value} {l : List Ty}, IsSl 3 IsTy (avo bv P Q) W6 v l → IsSl 3 IsTy (plus none' bv) _ v l := fun h => ((h.ext isTy_good X1 fun b _ q => f1 b q).ext isTy_good X2 fun b _ q => f2 b q).mono isTy_good fun b _ q => .inl q
  exact ⟨⟨P, x, rfl, X2.heap (set3 hP _ _ _) (by unfold one; omega), tr hx⟩, ⟨Q, x', rfl, set3 (X1.heap hQ (by unfold one; omega)) _ _ _, tr hx'⟩, rfl, (X.set3 (.inr hPw) _ _ _).set3 (.inr hQw) _ _ _⟩
/-- Trees behind a fresh block. -/
theorem IsSl.fresh {A : Nat → Prop} {w : World} {v : Value} {l : List Ty} (h : IsSl 3 IsTy A w v l) (o : Obj) : IsSl 3 IsTy (and1 A w.heap.size) (w.alloc o) v l :=
  (h.mono isTy_good (and1.down (Nat.le_refl _))).ext isTy_good ((Ext.refl none' w).alloc o) fun _ _ h => h.elim
end Go.Proofs.Ytmlhkgocilpobaa
