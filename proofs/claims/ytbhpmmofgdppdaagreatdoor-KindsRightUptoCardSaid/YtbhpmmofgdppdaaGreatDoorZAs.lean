import Derived.Test.YtbhpmmofgdppdaaGreatDoorZAr
namespace Go.Proofs.YtbhpmmofgdppdaaGreatDoor
open Go.RowKit Go.Lib Go.BigFrame
theorem field_kind (a b c : Value) (W : World) : (Instr.field 32 (.agg #[a, b, c]) 0).run Tryz.prog W = .ok a W := by
  kernel_rfl
set_option maxRecDepth 100000 in
theorem Comparable_any (ds : List Df) (hds : DefsFit ds) (t : Ty) (ht : t.size ≤ bigD) (A : Nat → Prop) (dv v : Value) (w : World) (hd : IsSl 6 IsDf A w dv ds) (hv : TyV A w t v) (hA : ∀ b, A b → b < w.heap.size) :
    Calls Tryz.prog 25 #[dv, v] w (BoolP ((behindP ds t).kind == 1) w) := by
  have CB := hid fun o => Behind_any ds hds t ht A dv v (w.alloc o) (hd.ext isDf_good ((Ext.refl none' w).alloc o) fun _ _ h => h.elim) (hv.ext ((Ext.refl none' w).alloc o) fun _ _ h => h.elim) (fun b hb => by rw [World.size_alloc]; have := hA b hb; omega)
  obtain ⟨x, rfl, hx⟩ := hv
  obtain ⟨a0, cap0, rfl, _⟩ := hx
  obtain ⟨ad, capd, rfl, _⟩ := hd
  go_enter Tryz.func25, Tryz.ntmps25
  go_wp2_with fail
  refine (CB.out _).mono ?_
  rintro e W1 ⟨u, rfl, ⟨y, rfl, hy⟩, X1⟩
  have X1 := hid (((Ext.refl none' w).alloc _).trans X1)
  obtain ⟨a3, cap3, rfl, _⟩ := hy
  have hfl := field_kind
  go_wp2_with fail
  go_ret
  exact ⟨rfl, X1.out⟩
end Go.Proofs.YtbhpmmofgdppdaaGreatDoor
