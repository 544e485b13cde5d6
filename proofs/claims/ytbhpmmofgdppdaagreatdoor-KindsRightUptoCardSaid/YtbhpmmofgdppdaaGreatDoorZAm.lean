import Derived.Test.YtbhpmmofgdppdaaGreatDoorZAl
import Derived.Deep.Cut
/-
  kinds.Tree: names and rows.
-/
namespace Go.Proofs.YtbhpmmofgdppdaaGreatDoor
open Go.RowKit Go.Lib Go.BigFrame
abbrev TreeStep (args : List Ty) (rs : List Nd) : Prop := ∀ (i : Nat) (h1 : i < args.length) (h2 : i < rs.length) (B : Nat → Prop) (W : World) (x : Value), (∀ b, B b → b < W.heap.size) → TyV none' W args[i] x → Calls Tryz.prog 29 #[x] W (NdPA B W rs[i])
set_option maxRecDepth 100000 in
set_option maxHeartbeats 1600000 in
theorem tree_name (tk : Int) (htk : tk = 1 ∨ tk = 4 ∨ tk = 3) (name : List UInt8) (args : List Ty) (rs : List Nd) (hrs : rs.length = args.length) (hl : args.length ≤ bigD) (hst : TreeStep args rs) (hne : ∀ r ∈ rs, r.kind ≠ 0) (A : Nat → Prop) (v : Value) (w : World) (hA : ∀ b, A b → b < w.heap.size)
    (hv : TyV none' w (.mk tk name args) v) : Calls Tryz.prog 29 #[v] w (NdPA A w (.mk 10 name rs 0)) := by
  obtain ⟨x, rfl, hx⟩ := hv
  have hx : IsSl 3 IsTy none' w x args := hx
  have HX := hid hx
  have CT := hid fun W (X : Ext none' w W) (A' : Nat → Prop) (hA' : ∀ b, A' b → b < W.heap.size) => turnedN_any 29 A' args rs x W hrs hl hA' (hx.ext isTy_good X fun _ _ h => h) hst enter_tree
  have HNE : Hid ((rs.any fun t => t.kind == 0) = false) := hid (by rw [List.any_eq_false]; intro r hr; simpa using hne r hr)
  have CL := hid fun W u (hu : IsSl 4 IsNd none' W u rs) => con_any (fun t => t.kind == 0) rs (Nd.sizeL rs) u _ W (by rw [hrs]; exact hl) hu (fun i hi => Nd.sizeL_mem (List.getElem_mem hi)) (lost_ask _ W)
  rw [HNE.out] at CL
  have hlr : rs.length ≤ bigD := by rw [hrs]; exact hl
  obtain ⟨a1, cap1, rfl, _⟩ := hx
  show Calls Tryz.prog 29 #[.agg #[.int .i64 tk, .string ⟨name.toArray⟩, .slice a1 args.length cap1]] w _
  clear hst hne hrs
  go_enter Tryz.func29, Tryz.ntmps29
  go_wp2_with fail
  obtain ⟨B, hB⟩ : ∃ B, B = w.heap.size := ⟨_, rfl⟩
  obtain ⟨W0, hW0⟩ : ∃ W0, W0 = (w.alloc (.cells #[.int .i64 tk, .string ⟨name.toArray⟩, .slice a1 args.length cap1] 32)).alloc (.cells #[.int .i64 0, .string ⟨#[]⟩, .slice none 0 0, .int .i64 0] 49) := ⟨_, rfl⟩
  rw [← hW0, ← hB]
  have BX : TkBox A B #[.int .i64 tk, .string ⟨name.toArray⟩, .slice a1 args.length cap1] w W0 := ⟨by rw [hW0]; exact heap_alloc_keep (heap_alloc_at hB _) _, by rw [hW0]; exact heap_alloc_at (by rw [hB]; simp) _, by rw [hW0]; exact ((Ext.refl _ _).alloc _).alloc _, by omega⟩
  refine (CT.out W0 BX.x (and1 A (B + 1)) (and1.lt hA BX.x.size (heap_lt BX.g1))).mono ?_
  rintro e W1 ⟨u, rfl, hu, X1⟩
  have BX := hid (BX.ext X1)
  have HU := hid hu
  have CC := hid (CL.out W1 u (hu.mono isNd_good fun _ _ h => h.elim))
  obtain ⟨a2, cap2, rfl, _⟩ := hu
  have c0 := cell_at BX.out.g0 0
  have c1 := cell_at BX.out.g0 1
  have f0 := free_at BX.out.g1 0
  have f1 := free_at BX.out.g1 1
  have f2 := free_at BX.out.g1 2
  have f3 := free_at BX.out.g1 3
  have e0 := cell_at BX.out.g1 0
  have e1 := cell_at BX.out.g1 1
  have e2 := cell_at BX.out.g1 2
  have e3 := cell_at BX.out.g1 3
  simp only [List.getElem?_toArray, List.getElem?_cons_zero, List.getElem?_cons_succ] at c0 c1 e0 e1 e2 e3
  clear hW0 hB X1
  rcases htk with rfl | rfl | rfl
  · go_wp2_with fail
    refine ret_nd rfl rfl (set4n BX.out.g1 _ _ _ _) rfl ?_
    exact ⟨_, rfl, NdV.stored (t := .mk 10 name rs 0) HU.out _ _ _ _, BX.out.x.set4 (b := B + 1) (.inr (by have := BX.out.lt; omega)) _ _ _ _⟩
  · go_wp2_with fail
    refine ret_nd rfl rfl (set4n BX.out.g1 _ _ _ _) rfl ?_
    exact ⟨_, rfl, NdV.stored (t := .mk 10 name rs 0) HU.out _ _ _ _, BX.out.x.set4 (b := B + 1) (.inr (by have := BX.out.lt; omega)) _ _ _ _⟩
  · go_wp2_with fail
    refine CC.out.mono ?_
    rintro e W2 ⟨rfl, X2⟩
    have BX := hid (BX.out.ext X2)
    have HU := hid (HU.out.ext isNd_good X2 fun _ _ h => h.elim)
    have c1 := cell_at BX.out.g0 1
    have f0 := free_at BX.out.g1 0
    have f1 := free_at BX.out.g1 1
    have f2 := free_at BX.out.g1 2
    have f3 := free_at BX.out.g1 3
    have e0 := cell_at BX.out.g1 0
    have e1 := cell_at BX.out.g1 1
    have e2 := cell_at BX.out.g1 2
    have e3 := cell_at BX.out.g1 3
    simp only [List.getElem?_toArray, List.getElem?_cons_zero, List.getElem?_cons_succ] at c1 e0 e1 e2 e3
    clear X2
    go_wp2_with fail
    refine ret_nd rfl rfl (set4n BX.out.g1 _ _ _ _) rfl ?_
    exact ⟨_, rfl, NdV.stored (t := .mk 10 name rs 0) HU.out _ _ _ _, BX.out.x.set4 (b := B + 1) (.inr (by have := BX.out.lt; omega)) _ _ _ _⟩
set_option maxRecDepth 100000 in
set_option maxHeartbeats 1600000 in
theorem tree_slice (arg : Ty) (r : Nd) (hst : TreeStep [arg] [r]) (hne : r.kind ≠ 0) (A : Nat → Prop) (v : Value) (w : World) (hA : ∀ b, A b → b < w.heap.size)
    (hv : TyV none' w (.mk 5 [] [arg]) v) : Calls Tryz.prog 29 #[v] w (NdPA A w (.mk 11 [] [r] 0)) := by
  obtain ⟨x, rfl, hx⟩ := hv
  have hx : IsSl 3 IsTy none' w x [arg] := hx
  have HX := hid hx
  have CT := hid fun W (X : Ext none' w W) (A' : Nat → Prop) (hA' : ∀ b, A' b → b < W.heap.size) => turnedN_any 29 A' [arg] [r] x W rfl (by simp [bigD]) hA' (hx.ext isTy_good X fun _ _ h => h) hst enter_tree
  have HNE : Hid ((r.kind == 0) = false) := hid (by simpa using hne)
  have CL := hid fun W u (hu : NdV none' W r u) => lost_any r u W hu
  rw [HNE.out] at CL
  obtain ⟨a1, cap1, rfl, _⟩ := hx
  show Calls Tryz.prog 29 #[.agg #[.int .i64 5, .string ⟨#[]⟩, .slice a1 1 cap1]] w _
  clear hst hne
  go_enter Tryz.func29, Tryz.ntmps29
  go_wp2_with fail
  obtain ⟨B, hB⟩ : ∃ B, B = w.heap.size := ⟨_, rfl⟩
  obtain ⟨W0, hW0⟩ : ∃ W0, W0 = (w.alloc (.cells #[.int .i64 5, .string ⟨#[]⟩, .slice a1 1 cap1] 32)).alloc (.cells #[.int .i64 0, .string ⟨#[]⟩, .slice none 0 0, .int .i64 0] 49) := ⟨_, rfl⟩
  rw [← hW0, ← hB]
  have BX : TkBox A B #[.int .i64 5, .string ⟨#[]⟩, .slice a1 1 cap1] w W0 := ⟨by rw [hW0]; exact heap_alloc_keep (heap_alloc_at hB _) _, by rw [hW0]; exact heap_alloc_at (by rw [hB]; simp) _, by rw [hW0]; exact ((Ext.refl _ _).alloc _).alloc _, by omega⟩
  refine (CT.out W0 BX.x (and1 A (B + 1)) (and1.lt hA BX.x.size (heap_lt BX.g1))).mono ?_
  rintro e W1 ⟨u, rfl, hu, X1⟩
  have BX := hid (BX.ext X1)
  have HU := hid hu
  obtain ⟨a2, cap2, rfl, _⟩ := hu
  obtain ⟨b3, off3, cs3, rfl, _, hbw3, hcc, hty⟩ := HU.out.at 0 (by simp)
  obtain ⟨y, rfl, hy⟩ := hty.parts
  have k0 := hcc 0 _ rfl
  have k1 := hcc 1 _ rfl
  have k2 := hcc 2 _ rfl
  have k3 := hcc 3 _ rfl
  simp only [Nat.zero_mul, Nat.add_zero, List.getElem_cons_zero] at k0 k1 k2 k3 hy
  have HY := hid hy
  obtain ⟨a4, cap4, rfl, _⟩ := hy
  have CC := hid (CL.out W1 (.agg #[.int .i64 r.kind, .string ⟨r.text.toArray⟩, .slice a4 r.kids.length cap4, .int .i64 r.pos]) ⟨_, rfl, HY.out.mono isNd_good fun _ _ h => h.elim⟩)
  have c0 := cell_at BX.out.g0 0
  simp only [List.getElem?_toArray, List.getElem?_cons_zero] at c0
  clear hW0 hB X1 hcc hty
  go_wp2_with fail
  refine CC.out.mono ?_
  rintro e W2 ⟨rfl, X2⟩
  have BX := hid (BX.out.ext X2)
  have HU := hid (HU.out.ext isNd_good X2 fun _ _ h => h.elim)
  have f0 := free_at BX.out.g1 0
  have f1 := free_at BX.out.g1 1
  have f2 := free_at BX.out.g1 2
  have f3 := free_at BX.out.g1 3
  have e0 := cell_at BX.out.g1 0
  have e1 := cell_at BX.out.g1 1
  have e2 := cell_at BX.out.g1 2
  have e3 := cell_at BX.out.g1 3
  simp only [List.getElem?_toArray, List.getElem?_cons_zero, List.getElem?_cons_succ] at e0 e1 e2 e3
  clear X2 k0 k1 k2 k3 c0
  go_wp2_with fail
  refine ret_nd rfl rfl (set4n BX.out.g1 _ _ _ _) rfl ?_
  exact ⟨_, rfl, NdV.stored (t := .mk 11 [] [r] 0) HU.out _ _ _ _, BX.out.x.set4 (b := B + 1) (.inr (by have := BX.out.lt; omega)) _ _ _ _⟩
end Go.Proofs.YtbhpmmofgdppdaaGreatDoor
/-
  kinds.Tree: a type of functions.
-/
namespace Go.Proofs.YtbhpmmofgdppdaaGreatDoor
open Go.RowKit Go.Lib Go.BigFrame
theorem isSl_lit {α : Type} {sz : Nat} {R : Lay α} {A : Nat → Prop} {w : World} {b cap : Nat} {cs : Array Value} {t : TypeId} {fz : Nat × Nat} (h : w.heap[b]? = some (.cells cs t fz)) (xs : List α) (hA : ¬ A b) (hc : xs.length ≤ cap)
    (hx : ∀ i (h : i < xs.length), R A w xs[i] ((cs.toList.drop (i * sz)).take sz)) : IsSl sz R A w (.slice (some ⟨b, 0, none⟩) xs.length cap) xs :=
  ⟨_, cap, rfl, hc, (fun h => by cases h), fun _ => ⟨b, 0, rfl, hA, heap_lt h, fun i hi => ⟨_, fun j v hj => by
    have hjs : j < sz := by
      have := (List.getElem?_eq_some_iff.1 hj).1
      rw [List.length_take] at this
      omega
    rw [List.getElem?_take_of_lt hjs, List.getElem?_drop] at hj
    rw [cell_at h, Nat.zero_add, ← hj]
    simp, hx i hi⟩⟩⟩
/-- A parameter without a name, of a type's tree. -/
def parN (r : Nd) : Nd := .mk 8 [] [r] 0
structure TfRel (A : Nat → Prop) (LB : Nat) (W wr : World) (o : Value) (done : List Nd) : Prop where
  g : wr.heap[LB]? = some (.cells #[.int .i64 6, .string ⟨#[]⟩, o, .int .i64 0] 49 (0, 0))
  row : RowOf 4 49 IsNd (and1 A LB) wr (LB + 1) o done
  x : Ext none' W wr
set_option maxRecDepth 100000 in
set_option maxHeartbeats 3200000 in
theorem tree_func (as0 : List Ty) (al : Ty) (rs0 : List Nd) (r : Nd) (hrs : rs0.length = as0.length) (hl : as0.length + 1 ≤ bigD) (hst : TreeStep (as0 ++ [al]) (rs0 ++ [r])) (hne : ∀ r ∈ rs0, r.kind ≠ 0) (hr7 : r.kind = 0 → al.kind = 7) (A : Nat → Prop) (v : Value) (w : World) (hA : ∀ b, A b → b < w.heap.size)
    (hv : TyV none' w (.mk 6 [] (as0 ++ [al])) v) : Calls Tryz.prog 29 #[v] w (NdPA A w (.mk 12 [] [.mk 6 [] (rs0.map parN) 0, r] 0)) := by
  obtain ⟨n, hn⟩ : ∃ n, n = rs0.length := ⟨_, rfl⟩
  have hla : (as0 ++ [al]).length = n + 1 := by rw [List.length_append, List.length_singleton]; omega
  have hlr : (rs0 ++ [r]).length = n + 1 := by rw [List.length_append, List.length_singleton]; omega
  have hnb : n ≤ 20000000000 := by unfold bigD at hl; omega
  obtain ⟨x, rfl, hx⟩ := hv
  have hx : IsSl 3 IsTy none' w x (as0 ++ [al]) := hx
  have HX := hid hx
  have CT := hid fun W (X : Ext none' w W) (A' : Nat → Prop) (hA' : ∀ b, A' b → b < W.heap.size) => turnedN_any 29 A' (as0 ++ [al]) (rs0 ++ [r]) x W (by omega) (by unfold bigD at hl ⊢; omega) hA' (hx.ext isTy_good X fun _ _ h => h) hst enter_tree
  have HNE : Hid ((rs0.any fun t => t.kind == 0) = false) := hid (by rw [List.any_eq_false]; intro r hr; simpa using hne r hr)
  have CL := hid fun W u (hu : IsSl 4 IsNd none' W u rs0) => con_any (fun t => t.kind == 0) rs0 (Nd.sizeL rs0) u _ W (by unfold bigD; omega) hu (fun i hi => Nd.sizeL_mem (List.getElem_mem hi)) (lost_ask _ W)
  have CK := hid fun W u (hu : NdV none' W r u) => lost_any r u W hu
  rw [HNE.out] at CL
  have HR7 := hid hr7
  obtain ⟨a1, cap1, rfl, _⟩ := hx
  rw [hla] at HX CT
  show Calls Tryz.prog 29 #[.agg #[.int .i64 6, .string ⟨#[]⟩, .slice a1 (as0 ++ [al]).length cap1]] w _
  rw [hla]
  have HN := hid hn
  have HLR := hid hlr
  have HLA := hid hla
  have HAA := hid hA
  clear hst hne hrs hr7 hla hlr hn hl hA
  go_enter Tryz.func29, Tryz.ntmps29
  go_wp2_with fail
  obtain ⟨B, hB⟩ : ∃ B, B = w.heap.size := ⟨_, rfl⟩
  obtain ⟨W0, hW0⟩ : ∃ W0, W0 = (w.alloc (.cells #[.int .i64 6, .string ⟨#[]⟩, .slice a1 (n + 1) cap1] 32)).alloc (.cells #[.int .i64 0, .string ⟨#[]⟩, .slice none 0 0, .int .i64 0] 49) := ⟨_, rfl⟩
  rw [← hW0, ← hB]
  have BX : TkBox A B #[.int .i64 6, .string ⟨#[]⟩, .slice a1 (n + 1) cap1] w W0 := ⟨by rw [hW0]; exact heap_alloc_keep (heap_alloc_at hB _) _, by rw [hW0]; exact heap_alloc_at (by rw [hB]; simp) _, by rw [hW0]; exact ((Ext.refl _ _).alloc _).alloc _, by omega⟩
  refine (CT.out W0 BX.x (and1 A (B + 1)) (and1.lt HAA.out BX.x.size (heap_lt BX.g1))).mono ?_
  rintro e W1 ⟨u, rfl, hu, X1⟩
  have HA1 : Hid (∀ b, and1 A (B + 1) b → b < W1.heap.size) := hid fun b h => Nat.lt_of_lt_of_le (and1.lt HAA.out BX.x.size (heap_lt BX.g1) b h) X1.size
  have BX := hid (BX.ext X1)
  have HU := hid hu
  obtain ⟨a2, cap2, rfl, hcap2, _⟩ := hu
  rw [HLR.out] at HU hcap2 ⊢
  have HU0 := hid (HU.out.take n (by have := HLR.out; omega))
  rw [show (rs0 ++ [r]).take n = rs0 from by rw [HN.out, List.take_left]] at HU0
  have CC := hid (CL.out W1 _ (HU0.out.mono isNd_good fun _ _ h => h.elim))
  have en : ∀ h, (rs0 ++ [r])[n]'h = r := fun h => by
    have hn := HN.out
    subst hn
    simp
  obtain ⟨b3, off3, cs3, rfl, _, hbw3, hcc, hty⟩ := HU.out.at n (by have := HLR.out; omega)
  rw [en] at hty
  obtain ⟨y, rfl, hy⟩ := hty.parts
  have k0 := hid (hcc 0 _ rfl)
  have k1 := hid (hcc 1 _ rfl)
  have k2 := hid (hcc 2 _ rfl)
  have k3 := hid (hcc 3 _ rfl)
  simp only [Nat.add_zero] at k0
  have HY := hid hy
  obtain ⟨a4, cap4, rfl, _⟩ := hy
  have CK := hid fun W (X : Ext none' W1 W) => CK.out W (.agg #[.int .i64 r.kind, .string ⟨r.text.toArray⟩, .slice a4 r.kids.length cap4, .int .i64 r.pos]) ⟨_, rfl, (HY.out.mono isNd_good fun _ _ h => h.elim).ext isNd_good X fun _ _ h => h⟩
  have ea : ∀ h, (as0 ++ [al])[n]'h = al := fun h => by
    have hl := HLA.out
    rw [List.length_append, List.length_singleton] at hl
    have hn : n = as0.length := by omega
    subst hn
    simp
  obtain ⟨b5, off5, cs5, rfl, _, hbw5, hcc5, hty5⟩ := HX.out.at n (by have := HLA.out; omega)
  rw [ea] at hty5
  obtain ⟨y5, rfl, _⟩ := hty5.parts
  have m0 := hid (hcc5 0 _ rfl)
  simp only [Nat.add_zero] at m0
  have HB5 := hid hbw5
  have HB3 := hid hbw3
  have c0 := cell_at BX.out.g0 0
  simp only [List.getElem?_toArray, List.getElem?_cons_zero] at c0
  have h1 : ((n : Int) + 1 - 1) = (n : Int) := by omega
  have h2 : (0 : Int) < (n : Int) + 1 := by omega
  have h2' : decide ((0 : Int) < (n : Int) + 1) = true := decide_eq_true h2
  have h3 : ((n + 1 : Nat) : Int) - 1 = (n : Int) := by omega
  have h4 : (0 : Int) < ((n + 1 : Nat) : Int) := by omega
  clear hW0 hB X1 hcc hcc5 hty hty5 en ea hbw3 hbw5
  have hcap3 : n ≤ cap2 := by omega
  go_wp2_with fail
  refine CC.out.mono ?_
  rintro e W2 ⟨rfl, X2⟩
  have BX := hid (BX.out.ext X2)
  have k0' := (X2.cell (p := ⟨b3, off3 + n * 4, none⟩) HB3.out fun h => h).trans k0.out
  have k1' := (X2.cell (p := ⟨b3, off3 + n * 4 + 1, none⟩) HB3.out fun h => h).trans k1.out
  have k2' := (X2.cell (p := ⟨b3, off3 + n * 4 + 2, none⟩) HB3.out fun h => h).trans k2.out
  have k3' := (X2.cell (p := ⟨b3, off3 + n * 4 + 3, none⟩) HB3.out fun h => h).trans k3.out
  have X2 := hid X2
  clear c0
  go_wp2_with fail
  refine (CK.out _ X2.out).mono ?_
  rintro e W3 ⟨rfl, X3⟩
  have BX := hid (BX.out.ext X3)
  have X3 := hid (X2.out.trans X3)
  clear k0' k1' k2' k3'
  have c2 := cell_at BX.out.g0 2
  have m0' := ((BX.out.x).cell (p := ⟨b5, off5 + n * 3, none⟩) HB5.out fun h => h).trans m0.out
  simp only [List.getElem?_toArray, List.getElem?_cons_zero, List.getElem?_cons_succ] at c2
  obtain ⟨q, hq⟩ : ∃ q, (r.kind == 0) = q := ⟨_, rfl⟩
  rw [hq]
  have he : q = true → al.kind = 7 := fun h => HR7.out (by rw [h] at hq; simpa using hq)
  obtain ⟨ak, hak⟩ : ∃ ak, al.kind = ak := ⟨_, rfl⟩
  rw [hak] at m0' he
  obtain ⟨i0, hi0, hz0, hz1, hz2⟩ := info_parts infoNd
  have I0 := hid hi0
  have I1 := hid hz0
  have I2 := hid hz1
  have I3 := hid hz2
  clear hi0 hz0 hz1 hz2
  obtain ⟨LB, hLB⟩ : ∃ LB, LB = W3.heap.size := ⟨_, rfl⟩
  have XL : Ext none' W3 (W3.alloc (.cells #[.int .i64 6, .string ⟨#[]⟩, .slice none 0 0, .int .i64 0] 49)) := (Ext.refl _ _).alloc _
  have R0 : Hid (TfRel (and1 A (B + 1)) LB W3 (W3.alloc (.cells #[.int .i64 6, .string ⟨#[]⟩, .slice none 0 0, .int .i64 0] 49)) (.slice none 0 0) ((rs0.take 0).map parN)) := hid ⟨heap_alloc_at hLB _, RowOf.nil _ _ _ _ _ _, XL⟩
  have HLB : Hid (LB = W3.heap.size) := hid hLB
  have HAL : Hid (∀ b, and1 (and1 A (B + 1)) LB b → b < LB + 1) := hid fun b h => by
    have := X3.out.size
    rcases h with h | h
    · have := HA1.out b h; rw [hLB]; omega
    · omega
  clear hq hak XL
  rcases q with _ | _
  all_goals first | (obtain rfl := he rfl; clear he) | (clear he m0')
  all_goals go_wp2_with (fail)
  all_goals rw [← hLB]
  all_goals clear hLB
  all_goals
    go_loopw [8, 95] (fun _ z wr => ∃ (i : Nat), z = .int .i64 (i : Nat) ∧ i ≤ n ∧ Hid (∃ o, TfRel (and1 A (B + 1)) LB W3 wr o ((rs0.take i).map parN))) (fun _ z _ => n - (RowKit.intOf z).toNat)
    case atStart => exact ⟨0, rfl, by omega, hid ⟨_, R0.out⟩⟩
    case round =>
      clear R0
      obtain ⟨i, rfl, hle, RR⟩ := hrel
      obtain ⟨o, R⟩ := RR.out
      clear RR
      have hlen : ((rs0.take i).map parN).length = i := by have := HN.out; rw [List.length_map, List.length_take]; omega
      have hsh := R.row.shape
      obtain ⟨a6, cap6, e6⟩ := hsh
      rw [hlen] at e6
      subst e6
      have hLw := heap_lt R.g
      by_cases hi : i < n
      · have hri : i < rs0.length := by have := HN.out; omega
        have HK0 := hid (HU0.out.ext isNd_good (X3.out.trans R.x) fun _ _ h => h.elim)
        obtain ⟨b7, off7, cs7, e7, hA7, hw7, hcc, hty⟩ := HK0.out.at i hri
        injection e7 with e7
        injection e7 with e7 e8
        subst e7 e8
        obtain ⟨y, rfl, hy⟩ := hty.parts
        have d0 := hcc 0 _ rfl
        have d1 := hcc 1 _ rfl
        have d2 := hcc 2 _ rfl
        have d3 := hcc 3 _ rfl
        simp only [Nat.add_zero] at d0
        have HYY := hid hy
        obtain ⟨a8, cap8, rfl, _⟩ := hy
        have htk : (rs0.take (i + 1)).map parN = (rs0.take i).map parN ++ [parN rs0[i]] := by rw [List.take_add_one, List.getElem?_eq_getElem hri, List.map_append]; rfl
        obtain ⟨t, ht⟩ : ∃ t, rs0[i] = t := ⟨_, rfl⟩
        rw [ht] at d0 d1 d2 d3 HYY htk
        have HTK := hid htk
        have HLEN := hid hlen
        obtain ⟨cells, ho, hr⟩ := R.row
        rw [hlen] at ho
        have HO := hid ho
        have HRR := hid hr
        have HG := hid R.g
        have HX3 := hid R.x
        have hW0 : W3.heap.size ≤ wr.heap.size := R.x.size
        obtain ⟨wc, hwc⟩ : ∃ wc, wc = ((wr.alloc (.cells #[.int .i64 t.kind, .string ⟨t.text.toArray⟩, .slice a8 t.kids.length cap8, .int .i64 t.pos] 49)).alloc (.cells #[.int .i64 t.kind, .string ⟨t.text.toArray⟩, .slice a8 t.kids.length cap8, .int .i64 t.pos] 49)).alloc (.cells #[.int .i64 8, .string ⟨#[]⟩, .slice (some ⟨wr.heap.size + 1, 0, none⟩) 1 1, .int .i64 0] 49) := ⟨_, rfl⟩
        have XC : Hid (Ext none' wr wc) := hid (by rw [hwc]; exact (((Ext.refl _ _).alloc _).alloc _).alloc _)
        have S2 : Hid (Src Tryz.prog 4 47 (.slice (some ⟨wr.heap.size + 1 + 1, 0, none⟩) 1 1) 1 [.int .i64 8, .string ⟨#[]⟩, .slice (some ⟨wr.heap.size + 1, 0, none⟩) 1 1, .int .i64 0] wc) := hid (by
          have h := four_src (P := Tryz.prog) Tryz.underlying47 ((wr.alloc (.cells #[.int .i64 t.kind, .string ⟨t.text.toArray⟩, .slice a8 t.kids.length cap8, .int .i64 t.pos] 49)).alloc (.cells #[.int .i64 t.kind, .string ⟨t.text.toArray⟩, .slice a8 t.kids.length cap8, .int .i64 t.pos] 49)) (.int .i64 8) (.string ⟨#[]⟩) (.slice (some ⟨wr.heap.size + 1, 0, none⟩) 1 1) (.int .i64 0) 49 rfl rfl rfl rfl
          rw [← hwc, World.size_alloc, World.size_alloc] at h
          exact h)
        have GZ : wc.heap[wr.heap.size + 1]? = some (.cells #[.int .i64 t.kind, .string ⟨t.text.toArray⟩, .slice a8 t.kids.length cap8, .int .i64 t.pos] 49 (0, 0)) := by rw [hwc]; exact heap_alloc_keep (heap_alloc_at (by simp) _) _
        have hoL : ∀ g, (Value.slice a6 i cap6).ownBlock = some g → LB + 1 ≤ g ∧ g < wr.heap.size := fun g hg => ho.lt g hg
        -- the new element
        have hnew : Hid (IsNd (plus (and1 (and1 A (B + 1)) LB) (.slice a6 i cap6)) wc (parN t) [.int .i64 8, .string ⟨#[]⟩, .slice (some ⟨wr.heap.size + 1, 0, none⟩) 1 1, .int .i64 0]) := hid (by
          have hz : ∀ b, plus (and1 (and1 A (B + 1)) LB) (.slice a6 i cap6) b → b < wr.heap.size := fun b h => by
            rcases h with h | h
            · have := HAL.out b h; omega
            · exact (hoL b h).2
          refine IsNd.of (k := 8) (n := []) (l := [t]) (p := 0) (isSl_lit (xs := [t]) GZ (fun h => by have := hz _ h; omega) (Nat.le_refl _) fun j hj => ?_)
          have hj' : j < 1 := hj
          obtain rfl : j = 0 := by omega
          -- where the element's own cells lie is older than the row
          have hk := HU0.out.at i hri
          obtain ⟨_, _, cs9, e9, _, _, hc9, ht9⟩ := hk
          rw [ht] at ht9
          injection e9 with e9
          injection e9 with e9 e10
          subst e9 e10
          have hx9 : cs9 = [.int .i64 t.kind, .string ⟨t.text.toArray⟩, .slice a8 t.kids.length cap8, .int .i64 t.pos] := by
            obtain ⟨y9, rfl, hy9⟩ := ht9.parts
            have := ((X3.out.trans HX3.out).cell (p := ⟨b3, off3 + i * 4 + 2, none⟩) HB3.out fun h => h).trans (hc9 2 _ rfl)
            rw [d2] at this
            injection this with this
            rw [this]
          rw [hx9] at ht9
          have h3 : IsNd (plus (and1 (and1 A (B + 1)) LB) (.slice a6 i cap6)) W1 t _ := isNd_good.mono ht9 fun b hb h => by
            have := X3.out.size
            rcases h with (h | h) | h
            · exact h
            · exact absurd hb (by rw [h, HLB.out]; omega)
            · exact absurd hb (by have := (hoL b h).1; rw [HLB.out] at this; omega)
          exact isNd_good.ext h3 ((X3.out.trans HX3.out).trans XC.out) fun _ _ h => h.elim)
        have O2 := hid (ownsRow_ext HO.out XC.out fun _ _ h => h)
        have HW := hid hwc
        have kL := cell_at (heap_alloc_keep HG.out (.cells #[.int .i64 t.kind, .string ⟨t.text.toArray⟩, .slice a8 t.kids.length cap8, .int .i64 t.pos] 49)) 2
        simp only [List.getElem?_toArray, List.getElem?_cons_zero, List.getElem?_cons_succ] at kL
        have HSZ : Hid (LB + 1 ≤ wc.heap.size) := hid (by have := XC.out.size; omega)
        clear hcc hty htk ht hlen R ho hr hwc GZ hoL hW0
        go_wp2_with (at_builtin; rw [← HW.out]; refine wpList_app _ rfl (.tmp 100) (.tmp 104) 47 47 rfl (LB + 1) 49 i0 _ 4 56 Tryz.underlying47 I0.out I1.out I2.out I3.out rfl _ i cells rfl O2.out _ 1 _ rfl S2.out ?_ ?_ ?_ ?_)
        · unfold maxLen; omega
        · omega
        · exact HSZ.out
        intro v4 w4 own4 grow4 blk4 _
        have XF : Ext (fun b => (Value.slice a6 i cap6).ownBlock = some b) wc w4 := (Ext.refl _ wc).grown grow4 fun g hg => .inl hg
        have gw4 : w4.heap[LB]? = some (.cells #[.int .i64 6, .string ⟨#[]⟩, .slice a6 i cap6, .int .i64 0] 49 (0, 0)) := XF.heap (XC.out.heap HG.out fun h => h) fun h => by have := (HO.out.lt LB h).1; omega
        have X4 : Ext none' W3 w4 := (HX3.out.trans XC.out).grown grow4 fun g hg => .inr (by have := (HO.out.lt g hg).1; rw [HLB.out] at this; omega)
        have R4 : RowOf 4 49 IsNd (and1 (and1 A (B + 1)) LB) w4 (LB + 1) v4 ((rs0.take i).map parN ++ [parN t]) :=
          RowOf.snoc isNd_good (by rw [HLEN.out]; exact O2.out) (fun j hj => isNd_good.ext (HRR.out j hj) XC.out fun _ _ q => q.elim) hnew.out (by rw [HLEN.out]; exact own4) grow4 (by
            rcases blk4 with h | h
            · exact .inl h
            · exact .inr h)
        have hs4 := own_slice own4
        obtain ⟨a9, cap9, rfl⟩ := hs4
        have N : Hid (∃ o, TfRel (and1 A (B + 1)) LB W3 (w4.setCell ⟨LB, 2, none⟩ (.slice a9 (i + 1) cap9)) o ((rs0.take (i + 1)).map parN)) := hid (by
          refine ⟨.slice a9 (i + 1) cap9, ?_, ?_, ?_⟩
          · exact heap_setCell_same gw4 2 _
          · rw [HTK.out]
            refine R4.ext isNd_good ((Ext.refl (one LB) w4).set 2 _) (fun b _ h => .inr h) fun g hg h => ?_
            have h1 := (R4.lt g hg).1
            have h2 : g = LB := h
            omega
          · exact X4.setCell (p := ⟨LB, 2, none⟩) (.inr (by rw [HLB.out]; exact Nat.le_refl _)) _)
        have z2 := cell_at gw4 2
        have y2 := free_at gw4 2
        simp only [List.getElem?_toArray, List.getElem?_cons_zero, List.getElem?_cons_succ] at z2
        clear XF gw4 X4 R4 own4 grow4 blk4 kL d0 d1 d2 d3 HW
        go_wp2_with (fail)
        go_roundw
        case rel => exact ⟨i + 1, by go_num, by omega, N⟩
        case measure => simp [RowKit.intOf]; omega
      · obtain rfl : i = n := by omega
        rw [show rs0.take i = rs0 from by have := HN.out; rw [List.take_of_length_le (by omega)]] at R hlen
        have HR := hid R
        have XR := hid (X3.out.trans R.x)
        have BX := hid (BX.out.ext R.x)
        have HU := hid (HU.out.ext isNd_good XR.out fun _ _ h => h.elim)
        have k0' := fun t' : LaterF none' wr => ((XR.out.trans t'.x).cell (p := ⟨b3, off3 + i * 4, none⟩) HB3.out fun h => h).trans k0.out
        have k1' := fun t' : LaterF none' wr => ((XR.out.trans t'.x).cell (p := ⟨b3, off3 + i * 4 + 1, none⟩) HB3.out fun h => h).trans k1.out
        have k2' := fun t' : LaterF none' wr => ((XR.out.trans t'.x).cell (p := ⟨b3, off3 + i * 4 + 2, none⟩) HB3.out fun h => h).trans k2.out
        have k3' := fun t' : LaterF none' wr => ((XR.out.trans t'.x).cell (p := ⟨b3, off3 + i * 4 + 3, none⟩) HB3.out fun h => h).trans k3.out
        have l0 := fun t' : LaterF none' wr => cell_at (t'.x.heap HR.out.g fun h => h) 0
        have l1 := fun t' : LaterF none' wr => cell_at (t'.x.heap HR.out.g fun h => h) 1
        have l2 := fun t' : LaterF none' wr => cell_at (t'.x.heap HR.out.g fun h => h) 2
        have l3 := fun t' : LaterF none' wr => cell_at (t'.x.heap HR.out.g fun h => h) 3
        simp only [List.getElem?_toArray, List.getElem?_cons_zero, List.getElem?_cons_succ] at l0 l1 l2 l3
        have HLEN := hid hlen
        clear R hlen
        go_upto_region 17 with (fail)
        refine region_q none' wr (.qs [0, 1, 2, 3, 4] (.one 5 true (.one 6 false (.one 7 false .fin)))) (by kernel_rfl) (by kernel_rfl) (fun dst v c a w h => by cases dst <;> exact h) ?_
        refine ⟨In.of (Ext.refl _ _).drew, ?_⟩
        change wpQuiet _ _ (fun w' => ∃ t : LaterF none' wr, w' = t.w) _ _ _
        simp only [sel, List.getElem?_cons_succ, List.getElem?_cons_zero]
        repeat (go_big_quiet_step (fail))
        refine wpQuiet_nil ?_
        simp only [wpTreeQ, stepT, sel, List.getElem?_cons_succ, List.getElem?_cons_zero]
        have D1 := hid (Ext.refl none' wr).drew
        clear k0' k1' k2' k3' l0 l1 l2 l3
        go_wp2_with (fail)
        obtain ⟨WZ, hWZ⟩ : ∃ WZ, WZ = (wr.alloc (.cells #[.int .i64 6, .string ⟨#[]⟩, .slice a6 i cap6, .int .i64 0, .int .i64 r.kind, .string ⟨r.text.toArray⟩, .slice a4 r.kids.length cap4, .int .i64 r.pos] 49)).drew := ⟨_, rfl⟩
        have XZ : Hid (Ext none' wr WZ) := hid (by rw [hWZ]; exact ((Ext.refl _ _).alloc _).drew)
        have GZ : Hid (WZ.heap[wr.heap.size]? = some (.cells #[.int .i64 6, .string ⟨#[]⟩, .slice a6 i cap6, .int .i64 0, .int .i64 r.kind, .string ⟨r.text.toArray⟩, .slice a4 r.kids.length cap4, .int .i64 r.pos] 49 (0, 0))) := hid (by rw [hWZ]; exact heap_alloc_at rfl _)
        refine ⟨by rw [← hWZ]; exact In.of XZ.out, ?_⟩
        rw [← hWZ]
        have B1 := hid (BX.out.ext XZ.out)
        have f0 := free_at B1.out.g1 0
        have f1 := free_at B1.out.g1 1
        have f2 := free_at B1.out.g1 2
        have f3 := free_at B1.out.g1 3
        have e0 := cell_at B1.out.g1 0
        have e1 := cell_at B1.out.g1 1
        have e2 := cell_at B1.out.g1 2
        have e3 := cell_at B1.out.g1 3
        simp only [List.getElem?_toArray, List.getElem?_cons_zero, List.getElem?_cons_succ] at e0 e1 e2 e3
        clear hWZ
        go_wp2_with (fail)
        refine ret_nd rfl rfl (set4n B1.out.g1 _ _ _ _) rfl ?_
        have hB1 := heap_lt BX.out.g1
        have SR : IsSl 4 IsNd (and1 A (B + 1)) WZ (.slice a6 i cap6) (rs0.map parN) := by
          have h1 := (HR.out.row.sl isNd_good fun b hb h => by have := HAL.out b h; omega).ext isNd_good XZ.out fun _ _ h => h.elim
          exact h1.mono isNd_good fun b _ h => .inl h
        have SK : IsNd (and1 A (B + 1)) WZ r [.int .i64 r.kind, .string ⟨r.text.toArray⟩, .slice a4 r.kids.length cap4, .int .i64 r.pos] := NdV.nd ((HY.out.ext isNd_good (XR.out.trans XZ.out) fun _ _ h => h.elim))
        have SL := IsNd.of (k := 6) (n := []) (p := 0) SR
        have SA : IsSl 4 IsNd (and1 A (B + 1)) WZ (.slice (some ⟨wr.heap.size, 0, none⟩) 2 2) [.mk 6 [] (rs0.map parN) 0, r] := isSl_lit (xs := [.mk 6 [] (rs0.map parN) 0, r]) GZ.out (fun h => by
          have h1 := HA1.out _ h
          have h2 := XR.out.size
          omega) (Nat.le_refl _) fun j hj => by
          have hj' : j < 2 := hj
          have : j = 0 ∨ j = 1 := by omega
          rcases this with rfl | rfl
          · exact SL
          · exact SK
        exact ⟨_, rfl, NdV.stored (t := .mk 12 [] [.mk 6 [] (rs0.map parN) 0, r] 0) SA _ _ _ _, B1.out.x.set4 (b := B + 1) (.inr (by have := B1.out.lt; omega)) _ _ _ _⟩
end Go.Proofs.YtbhpmmofgdppdaaGreatDoor
