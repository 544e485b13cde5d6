/-
  A region that draws its order, in worlds in which some blocks may have turned; small laws on what the call owns.
-/
import Derived.Test.YtmlhkgocilpobaaAppend
import Derived.Test.YtmlhkgocilpobaaRegion
import Derived.Test.YtmlhkgocilpobaaRow
namespace Go.Proofs.Ytmlhkgocilpobaa
open Go.RowKit Go.Lib Go.BigFrame
/-- A world in which of w0's blocks only those of F may have turned. -/
structure LaterF (F : Nat → Prop) (w0 : World) where
  w : World
  x : Ext F w0 w
instance (F : Nat → Prop) (w0 : World) : Nonempty (LaterF F w0) := ⟨⟨w0, Ext.refl _ _⟩⟩
def In (F : Nat → Prop) (w0 : World) (w : World) : Prop := ∃ t : LaterF F w0, w = t.w
theorem In.of {F : Nat → Prop} {w0 w : World} (h : Ext F w0 w) : In F w0 w := ⟨⟨w, h⟩, rfl⟩
theorem region_in {P : Program} {id : Nat} {Q : Exit → Act → World → Prop} {a : Act} {w : World} {l : List Oper} (F : Nat → Prop) (w0 : World) (lA : List Nat) (lB : List (Nat × Bool)) (hm : P.follows .mixedOrders = true) (hB : mixedB l.toArray lA lB = true)
    (hQ : ∀ (dst : Option Tmp) v c a w, Q (.panic c) (a.put dst v) w → Q (.panic c) a w) (hC : Ext F w0 w)
    (h : wpQuiet P l.toArray (fun w' => ∃ t : LaterF F w0, w' = t.w) (fun a' => wpChain P l Q (In F w0) lB a' w.drew) (sel l lA) a) : (Code.region id l.toArray true).wp P Q a w :=
  region_mixed (In F w0) lA lB hm hB hQ (In.of hC.drew) h
def up (base : Nat) : Nat → Prop := fun i => base ≤ i
theorem extract_eq (s : List UInt8) (i j : Nat) : (⟨s.toArray⟩ : ByteArray).extract i j = ⟨((s.drop i).take (j - i)).toArray⟩ := by
  apply ByteArray.ext
  simp [ByteArray.data_extract]
theorem ownsRow_ext {w w' : World} {F : Nat → Prop} {base : Nat} {e : TypeId} {size : Nat} {v : Value} {n : Nat} {xs : List Value} (h : w.ownsRow base e size v n xs) (x : Ext F w w') (hF : ∀ g, v.ownBlock = some g → ¬ F g) : w'.ownsRow base e size v n xs := by
  refine ⟨h.1, ?_⟩
  rcases h.2 with hn | ⟨g, cap, cur, rfl, hb, hgg, rest⟩
  · exact .inl hn
  · exact .inr ⟨g, cap, cur, rfl, hb, x.heap hgg (hF g rfl), rest⟩
theorem own_slice {w : World} {base : Nat} {e : TypeId} {size : Nat} {v : Value} {n : Nat} {xs : List Value} (h : w.ownsRow base e size v n xs) : ∃ a c, v = .slice a n c := by
  rcases h.2 with ⟨rfl, rfl⟩ | ⟨g', cap, cur, rfl, _⟩
  · exact ⟨none, 0, rfl⟩
  · exact ⟨_, _, rfl⟩
theorem Src.str {P : Program} {tx : TypeId} (hk : P.underlying tx = some .string) (s : List UInt8) (w : World) : Src P 1 tx (.string ⟨s.toArray⟩) s.length (byteVals s) w := by
  have h := Src.ofString (P := P) w hk ⟨s.toArray⟩
  rw [bsize] at h
  exact h
/-- The byte at a place of a text. -/
theorem byte_at (s : List UInt8) (i : Nat) (h : i < s.length) : ((⟨s.toArray⟩ : ByteArray)[i]'(by rw [bsize]; exact h)).toNat = (s[i]'h).toNat := by
  show ((s.toArray)[i]'_).toNat = _
  simp
theorem u8n {c k : UInt8} (h : c ≠ k) : c.toNat ≠ k.toNat := fun e => h (UInt8.toNat_inj.1 e)
def IntPost' (z : Int) (w : World) (e : Ending) (w' : World) : Prop := e = .returned (.int .i64 z) ∧ w' = w
def StrPost (s : List UInt8) (w : World) (e : Ending) (w' : World) : Prop := e = .returned (.string ⟨s.toArray⟩) ∧ Ext none' w w'
def BoolPost' (b : Bool) (w : World) (e : Ending) (w' : World) : Prop := e = .returned (.bool b) ∧ w' = w
end Go.Proofs.Ytmlhkgocilpobaa
