import Derived.Test.YteomiafndjcmiaaDoorPlaceMid
import Derived.Test.YteomiafndjcmiaaDoorPlaceSign
import Derived.Shelf.Bytes.SlCountOne
namespace Go.Proofs.YteomiafndjcmiaaDoor
open Go.RowKit Go.Lib
theorem bytesOf_map (s : List UInt8) : Lib.bytesOf (s.map fun c => ((c.toNat : Nat) : Int)) = s := by
  unfold Lib.bytesOf
  rw [List.map_map]
  conv => rhs; rw [← List.map_id s]
  apply List.map_congr_left
  intro c _
  simp
theorem count_bytes {P : Program} {B : Nat} {w : World} {v : Value} {s : List UInt8} (hv : Bytes B w v s) (c : Int) :
    (Extern.BytealgCount.count #[v, .int .u8 c]).run P w = .ok (.int .i64 (s.count c.toNat.toUInt8 : Nat)) w := by
  obtain ⟨a, cap, rfl, h1, h2, h3, h4⟩ := hv
  by_cases hs : s = []
  · subst hs
    cases a with
    | none => rw [List.length_nil, run_countNil]; rfl
    | some a =>
      rw [List.length_nil, run_countAt w a 0 cap [] rfl (fun i hi => by omega)]; rfl
  · obtain ⟨b, off, rfl, _, _, hc⟩ := h4 hs
    rw [run_countSlice w b off s.length cap (s.map fun c => ((c.toNat : Nat) : Int)) (by simp) ?_ c, bytesOf_map]
    · rfl
    · intro i hi
      rw [hc i hi]
      simp [List.getD, hi]
theorem lines_any (B : Nat) (s : List UInt8) (v : Value) (w : World) (hv : Bytes B w v s) (_hs : s.length ≤ 1000000) :
    Calls Tryd.prog 6 #[v] w (IntPost ((s.count 10 : Nat) + 1) w) := by
  have HV := hid hv
  obtain ⟨aa, cap, rfl, h1, h2, h3, h4⟩ := hv
  have H4 := hid h4
  clear h3 h4
  have hcl : s.count 10 ≤ s.length := List.count_le_length
  go_enter Tryd.func6, Tryd.ntmps6
  go_wp2
  rw [run_callFunc_extern Tryd.func15 (by kernel_rfl) (by kernel_rfl) (by kernel_rfl) (e := Extern.BytealgCount.count) (by kernel_rfl), count_bytes (HV.out.keep ((Ext.refl _ _).alloc _))]
  simp only [Result.andThen]
  rw [Oper.upon_value]
  go_wp2
  go_ret
  exact ⟨rfl, (Ext.refl _ _).alloc _⟩
def signL (s : List UInt8) : Int × Int := if decodeL s = (65533, 1) then (1, -1) else (((decodeL s).2 : Int), ((decodeL s).1 : Int))
theorem sign_bytes (B : Nat) (s : List UInt8) (v : Value) (k : Nat) (w : World) (hv : Bytes B w v s) (hk : k < s.length) (hs : s.length ≤ 1000000) :
    Calls Tryd.prog 10 #[v, .int .i64 k] w (RetPair (signL (s.drop k)) w) := by
  have hne : s ≠ [] := by intro e; subst e; simp at hk
  obtain ⟨aa, cap, rfl, h1, h2, h3, h4⟩ := hv
  obtain ⟨b, off, rfl, _, _, hc⟩ := h4 hne
  have gd : ∀ j, j < s.length → w.cell? ⟨b, off + j, none⟩ = some (.int .u8 (((s.getD j 0).toNat : Nat) : Int)) := fun j hj => by
    rw [hc j hj]; simp [List.getD, hj]
  have hlt : ∀ j, (s.getD j 0).toNat < 256 := fun j => UInt8.toNat_lt _
  refine sign_core b off s.length cap k (s.getD k 0).toNat (s.getD (k + 1) 0).toNat (s.getD (k + 2) 0).toNat (s.getD (k + 3) 0).toNat w _ ?_ (by omega) hk (hlt _) (hlt _) (hlt _) (hlt _) (gd _ hk) (gd _) (gd _) (gd _)
  refine hid ?_
  rw [sgn_eq _ _ _ _ _ (hlt _) (hlt _) (hlt _) (by omega) (hlt _)]
  unfold signL signN
  rw [decodeL_N, List.length_drop, getD_dropU, getD_dropU, getD_dropU, getD_dropU, Nat.add_zero]
theorem signL_10 (s : List UInt8) : (signL s).2 = 10 ↔ (decodeL s).1 = 10 := by
  unfold signL
  split
  · rename_i h; rw [h]; simp
  · simp only; omega
theorem signL_w (s : List UInt8) : (signL s).1 = (decodeL s).2 := by
  unfold signL
  split
  · rename_i h; rw [h]; simp
  · rfl
end Go.Proofs.YteomiafndjcmiaaDoor
