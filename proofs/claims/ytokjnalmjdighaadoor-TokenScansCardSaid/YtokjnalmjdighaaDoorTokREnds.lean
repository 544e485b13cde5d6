import Derived.Test.YtokjnalmjdighaaDoorTokTop
namespace Go.Proofs.YtokjnalmjdighaaDoor
open Go.RowKit Go.Lib Go.BigFrame
set_option maxHeartbeats 1600000 in
theorem rends_any (lo : Nat) (l : List Tok) (v : Value) (w : World) (hv : Toks lo w v l) (hl : l.length ≤ 1000000) (hk : ∀ t ∈ l, 1 ≤ t.kind ∧ t.kind ≤ 6) (hx : ∀ t ∈ l, t.text.length ≤ 1000000) :
    Calls Tryd.prog 21 #[v] w (BoolPost (endsP l) w) := by
  obtain ⟨a, c, rfl, h⟩ := hv
  rcases List.eq_nil_or_concat l with rfl | ⟨l', t, rfl⟩
  · clear h
    go_enter Tryd.func21, Tryd.ntmps21
    go_wp2_with fail
    go_ret
    exact ⟨rfl, Ext.refl _ _⟩
  · rw [List.concat_eq_append] at *
    obtain ⟨g, rfl, _, hgs, hc⟩ := h (by simp)
    have hj : l'.length < (l' ++ [t]).length := by simp
    obtain ⟨c0, c1, c2⟩ := hc l'.length hj
    have hlast : (l' ++ [t])[l'.length] = t := by simp
    rw [hlast] at c0 c1 c2
    have hkt := hk t (by simp)
    have hxt := hx t (by simp)
    rw [List.length_append, List.length_singleton] at hl ⊢
    have hE : endsP (l' ++ [t]) = endsT t := by simp [endsP]
    rw [hE]
    obtain ⟨kd, tx, ps⟩ := t
    have hk6 : kd = 1 ∨ kd = 4 ∨ kd = 5 ∨ kd = 2 ∨ kd = 3 ∨ kd = 6 := by have := hkt.1; have := hkt.2; simp only at *; omega
    simp only at hxt c0 c1 c2
    have C1 : ∀ w2 b2 cap, Hid (Texts w2 b2 keeps) → Calls Tryd.prog 29 #[.string ⟨tx.toArray⟩, .slice (some ⟨b2, 0, none⟩) 4 cap] w2 (RetBool (decide (tx ∈ keeps)) w2) := fun w2 b2 cap h => in_any tx b2 keeps cap w2 h.out (by decide)
    have C2 : ∀ w2 b2 cap, Hid (Texts w2 b2 shuts) → Calls Tryd.prog 29 #[.string ⟨tx.toArray⟩, .slice (some ⟨b2, 0, none⟩) 5 cap] w2 (RetBool (decide (tx ∈ shuts)) w2) := fun w2 b2 cap h => in_any tx b2 shuts cap w2 h.out (by decide)
    have H1 := hid C1
    have H2 := hid C2
    clear C1 C2 hc hj hlast hk hx hkt hE h
    rcases hk6 with rfl | rfl | rfl | rfl | rfl | rfl
    · go_enter Tryd.func21, Tryd.ntmps21
      go_wp2_with fail
      go_ret
      exact ⟨rfl, (Ext.refl _ _).alloc _⟩
    · go_enter Tryd.func21, Tryd.ntmps21
      go_wp2_with fail
      go_ret
      exact ⟨rfl, (Ext.refl _ _).alloc _⟩
    · go_enter Tryd.func21, Tryd.ntmps21
      go_wp2_with fail
      go_ret
      exact ⟨rfl, (Ext.refl _ _).alloc _⟩
    · have HV : Hid (endsT ⟨2, tx, ps⟩ = decide (tx ∈ keeps)) := hid (by simp [endsT])
      go_enter Tryd.func21, Tryd.ntmps21
      go_wp2_with fail
      refine (H1.out _ _ _ (hid (texts_of (heap_alloc_at (by simp) _) rfl))).mono ?_
      rintro e w1 ⟨rfl, rfl⟩
      go_wp2_with fail
      go_ret
      exact ⟨by rw [HV.out]; rfl, ((Ext.refl _ _).alloc _).alloc _⟩
    · have HV : Hid (endsT ⟨3, tx, ps⟩ = decide (tx ∈ keeps)) := hid (by simp [endsT])
      go_enter Tryd.func21, Tryd.ntmps21
      go_wp2_with fail
      refine (H1.out _ _ _ (hid (texts_of (heap_alloc_at (by simp) _) rfl))).mono ?_
      rintro e w1 ⟨rfl, rfl⟩
      go_wp2_with fail
      go_ret
      exact ⟨by rw [HV.out]; rfl, ((Ext.refl _ _).alloc _).alloc _⟩
    · have HV : Hid (endsT ⟨6, tx, ps⟩ = decide (tx ∈ shuts)) := hid (by simp [endsT])
      go_enter Tryd.func21, Tryd.ntmps21
      go_wp2_with fail
      refine (H2.out _ _ _ (hid (texts_of (heap_alloc_at (by simp) _) rfl))).mono ?_
      rintro e w1 ⟨rfl, rfl⟩
      go_wp2_with fail
      go_ret
      exact ⟨by rw [HV.out]; rfl, ((Ext.refl _ _).alloc _).alloc _⟩
end Go.Proofs.YtokjnalmjdighaaDoor
