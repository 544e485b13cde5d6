import Derived.Test.YtokjnalmjdighaaDoorTokTop
import Derived.Lib.SlBytesConst
namespace Go.Proofs.YtokjnalmjdighaaDoor
open Go.RowKit Go.Lib Go.BigFrame
def exT : List UInt8 := [97, 10, 43, 98]
def exL : List Tok := [⟨1, [97], 0⟩, ⟨6, [10], 1⟩, ⟨6, [43], 2⟩, ⟨1, [98], 3⟩, ⟨6, [10], 4⟩]
theorem exT_scan : scanR exT = .good exL [] := by kernel_rfl
set_option maxHeartbeats 800000 in
theorem awake_any (w : World) (hT : Tabs w) (hm : MaxL w) : Calls Tryd.prog 11 #[] w (TruePost w) := by
  have kc := fun (w : World) (C : Array Value) (n c : Nat) => Lib.run_convert_bytes_const (P := Tryd.prog) w 22 5 C n c Tryd.underlying22 Tryd.underlying5
  obtain ⟨w0, hw0⟩ : ∃ w0, w.alloc (.cells #[.int .u8 97, .int .u8 10, .int .u8 43, .int .u8 98] 5 (4, 5)) = w0 := ⟨_, rfl⟩
  have E0 : Ext none' w w0 := by rw [← hw0]; exact (Ext.refl _ _).alloc _
  have hsz : w0.heap.size = w.heap.size + 1 := by rw [← hw0]; simp
  have hh : w0.heap[w.heap.size]? = some (.cells #[.int .u8 97, .int .u8 10, .int .u8 43, .int .u8 98] 5 (4, 5)) := by rw [← hw0]; exact heap_alloc_at rfl _
  have hb : Bytes (w.heap.size + 1) w0 (.slice (some ⟨w.heap.size, 0, none⟩) 4 4) exT := by
    refine ⟨_, 4, rfl, Nat.le_refl 4, by omega, (fun h => by cases h), fun _ => ⟨_, _, rfl, by omega, by omega, fun j hj => ?_⟩⟩
    rw [cell_at hh]
    match j, hj with
    | 0, _ => rfl
    | 1, _ => rfl
    | 2, _ => rfl
    | 3, _ => rfl
  have C := Scan_any _ exT _ w0 hb (hT.ext E0) (hm.ext E0 (fun h => h)) (by decide)
  rw [exT_scan] at C
  have HC := hid C
  have HE := hid E0
  have H0 := hid hw0
  clear C hb hh hw0 hsz E0 hT hm
  go_enter Tryd.func11, Tryd.ntmps11
  go_wp2_with fail
  rw [H0.out]
  refine HC.out.mono ?_
  rintro e w1 ⟨v, rfl, ⟨a, c, rfl, hT⟩, X1⟩
  obtain ⟨g, rfl, _, _, hc⟩ := hT (by decide)
  have c0 := (hc 0 (by decide)).2.1
  have c1 := (hc 1 (by decide)).2.1
  have c1' := (hc 1 (by decide)).2.2
  have c2 := (hc 2 (by decide)).2.1
  have c4 := (hc 4 (by decide)).2.2
  have X1 := hid X1
  clear hc hT
  simp [ScR.toks, exL] at c0 c1 c1' c2 c4
  go_wp2_with fail
  go_ret
  exact ⟨rfl, HE.out.trans X1.out⟩
end Go.Proofs.YtokjnalmjdighaaDoor
