import Derived.Test.YtmlhkgocilpobaaTy
import Derived.Test.YtmlhkgocilpobaaProg
namespace Go.Proofs.Ytmlhkgocilpobaa
open Go.RowKit Go.Lib Go.BigFrame
/-- Where the first one is of which p holds; -1: of none. -/
def fstI {α : Type} (p : α → Bool) (l : List α) : Int := match l.findIdx? p with
  | some i => (i : Nat)
  | none => -1
theorem fstI_at {α : Type} {p : α → Bool} {l : List α} {i : Nat} (hi : i < l.length) (hp : p l[i] = true) (hn : ∀ j (h : j < l.length), j < i → p l[j] = false) : fstI p l = (i : Nat) := by
  have e : l.findIdx? p = some i := by
    rw [List.findIdx?_eq_some_iff_getElem]
    exact ⟨hi, hp, fun j hj => by rw [hn j (by omega) hj]; simp⟩
  unfold fstI; rw [e]
theorem fstI_none {α : Type} {p : α → Bool} {l : List α} (hn : ∀ j (h : j < l.length), p l[j] = false) : fstI p l = -1 := by
  have e : l.findIdx? p = none := by
    rw [List.findIdx?_eq_none_iff]
    intro x hx
    obtain ⟨j, hj, rfl⟩ := List.mem_iff_getElem.1 hx
    rw [hn j hj]
  unfold fstI; rw [e]
theorem fstI_cases {α : Type} (p : α → Bool) (l : List α) : (fstI p l = -1 ∧ ∀ x ∈ l, p x = false) ∨ ∃ i, ∃ h : i < l.length, fstI p l = (i : Nat) ∧ p l[i] = true := by
  unfold fstI
  cases h : l.findIdx? p with
  | none => left; rw [List.findIdx?_eq_none_iff] at h; exact ⟨rfl, fun x hx => by simpa using h x hx⟩
  | some i =>
    right
    rw [List.findIdx?_eq_some_iff_getElem] at h
    obtain ⟨h1, h2, _⟩ := h
    exact ⟨i, h1, rfl, h2⟩
def IntP (z : Int) (w : World) (e : Ending) (w' : World) : Prop := e = .returned (.int .i64 z) ∧ Ext none' w w'
def BoolP (b : Bool) (w : World) (e : Ending) (w' : World) : Prop := e = .returned (.bool b) ∧ Ext none' w w'
set_option maxRecDepth 100000 in
theorem index_any (A : Nat → Prop) (l : List (List UInt8)) (x : List UInt8) (v : Value) (w : World) (hv : IsStrs A w v l) (hl : l.length ≤ 9223372036854775807) : Calls Try.prog 32 #[v, .string ⟨x.toArray⟩] w (IntP (fstI (· == x) l) w) := by
  obtain ⟨p, hp⟩ : ∃ p, p = fstI (· == x) l := ⟨_, rfl⟩
  rw [← hp]
  have HP := hid hp
  have HV := hid hv
  obtain ⟨a, cap, rfl, hc, hn, _⟩ := hv
  clear hp hn
  go_enter Try.func32, Try.ntmps32
  go_wp2_with fail
  go_loop [5, 8] (fun _ z => ∃ (i : Nat), z = .int .i64 i ∧ i ≤ l.length ∧ Hid (∀ j (h : j < l.length), j < i → (l[j] == x) = false)) (fun _ z => l.length - (RowKit.intOf z).toNat)
  case atStart => exact ⟨0, rfl, by omega, hid (fun j _ h => by omega)⟩
  case round =>
    obtain ⟨i, rfl, hle, HF⟩ := hrel
    by_cases hi : i < l.length
    · obtain ⟨b, off, rfl, g⟩ := HV.out.cell i hi
      obtain ⟨t, ht⟩ : ∃ t, l[i] = t := ⟨_, rfl⟩
      rw [ht] at g
      have HTT := hid ht
      clear ht
      by_cases e : t = x
      · have E : Hid (p = (i : Nat)) := hid (by rw [HP.out]; exact fstI_at hi (by rw [HTT.out, e]; simp) HF.out)
        have e' : (x == t) = true := by rw [e]; simp
        clear e
        go_wp2
        go_ret
        exact ⟨by rw [E.out]; rfl, Ext.refl _ _⟩
      · have e' : (x == t) = false := by simpa using Ne.symm e
        have E : Hid ((t == x) = false) := hid (by simpa using e)
        clear e
        go_wp2
        go_round
        case rel => exact ⟨i + 1, by go_num, by omega, hid (fun j hj hji => by
            by_cases q : j = i
            · subst q; rw [HTT.out]; exact E.out
            · exact HF.out j hj (by omega))⟩
        case measure => simp [RowKit.intOf]; omega
    · obtain rfl : i = l.length := by omega
      have E : Hid (p = -1) := hid (by rw [HP.out]; exact fstI_none fun j hj => HF.out j hj hj)
      go_wp2
      go_ret
      exact ⟨by rw [E.out]; rfl, Ext.refl _ _⟩
end Go.Proofs.Ytmlhkgocilpobaa
