/-
  A slice of bytes that came in, as the proof's shell tells it, reads some bytes.
-/
import Derived.Test.YtmlhkgocilpobaaKit
import Derived.OpenShut
namespace Go.Proofs.Ytmlhkgocilpobaa
open Go.RowKit Go.Lib
theorem bytes_of_row {w : World} {a : Option Addr} {len cap : Nat} {zs : List Int} (h : (a = none ∧ len = 0 ∧ cap = 0 ∧ zs = []) ∨
    ∃ x, a = some x ∧ len ≤ cap ∧ cap ≤ maxLen ∧ zs.length = cap ∧ (∀ i, i < zs.length → w.cell? (x.add i) = some (.int .u8 (zs.getD i 0))) ∧ ∀ n ∈ zs, (Lit.int .u8 n).wf = true) :
    ∃ s : List UInt8, s.length = len ∧ Bytes w.heap.size w (.slice a len cap) s := by
  rcases h with ⟨rfl, rfl, rfl, rfl⟩ | ⟨x, rfl, hl, hm, hz, hc, hw⟩
  · exact ⟨[], rfl, none, 0, rfl, Nat.le_refl _, by omega, fun _ => rfl, fun h => absurd rfl h⟩
  · have hlen : ((zs.take len).map fun n => UInt8.ofNat n.toNat).length = len := by rw [List.length_map, List.length_take]; omega
    refine ⟨(zs.take len).map fun n => UInt8.ofNat n.toNat, hlen, ⟨some x, cap, by rw [hlen], by rw [hlen]; exact hl, by unfold maxLen at hm; omega, (fun h => by cases h), fun hne => ?_⟩⟩
    have hpos : 0 < len := by
      rcases Nat.eq_zero_or_pos len with h | h
      · subst h; simp at hne
      · exact h
    obtain ⟨b, off, spot⟩ := x
    have h0 := hc 0 (by omega)
    have hspot : spot = none := by simpa [Addr.add] using World.cell?_spot h0
    subst hspot
    have hadd : ∀ j, (⟨b, off, none⟩ : Addr).add j = ⟨b, off + j, none⟩ := fun j => by unfold Addr.add; split <;> simp_all
    have hlt : b < w.heap.size := World.block_lt_of_cell? w _ h0
    refine ⟨b, off, rfl, hlt, hlt, fun j hj => ?_⟩
    have hjl : j < len := by rw [hlen] at hj; exact hj
    have hjz : j < zs.length := by omega
    have := hc j hjz
    rw [hadd] at this
    rw [this]
    have hwj := hw (zs[j]) (List.getElem_mem hjz)
    have hb : 0 ≤ zs[j] ∧ zs[j] ≤ 255 := by
      have := Go.bounds_u8 hwj
      omega
    simp only [List.getElem_map, List.getElem_take, List.getD_eq_getElem?_getD, List.getElem?_eq_getElem hjz, Option.getD_some]
    congr 2
    simp [UInt8.toNat_ofNat']
    omega
end Go.Proofs.Ytmlhkgocilpobaa
