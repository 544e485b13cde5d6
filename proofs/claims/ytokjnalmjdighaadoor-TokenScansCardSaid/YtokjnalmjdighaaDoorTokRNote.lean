import Derived.Test.YtokjnalmjdighaaDoorTokRQuo
import Derived.Test.YtokjnalmjdighaaDoorTokNoteP
namespace Go.Proofs.YtokjnalmjdighaaDoor
open Go.RowKit Go.Lib Go.BigFrame
def noteN (k : Nat) : NoteR → Int
  | .none => 0
  | .bad => -1
  | .len m => ((k + m : Nat) : Int)
theorem noteP_cons (a b : UInt8) (t : List UInt8) : noteP (a :: b :: t) = if a = 47 ∧ b = 47 then .len ((a :: b :: t).takeWhile fun c => c != 10).length else if a = 47 ∧ b = 42 then (match star t with | some k => .len (k + 4) | none => .bad) else .none := by
  unfold noteP
  simp only [List.take_succ_cons, List.take_zero, List.cons.injEq, and_true, List.drop_succ_cons, List.drop_zero]
  by_cases h1 : a = 47 ∧ b = 47
  · rw [if_pos h1, if_pos h1]
  · rw [if_neg h1, if_neg h1]
    by_cases h2 : a = 47 ∧ b = 42
    · rw [if_pos h2, if_pos h2]
      cases star t <;> rfl
    · rw [if_neg h2, if_neg h2]
theorem noteP_short {r : List UInt8} (h : r.length < 2) : noteP r = .none := by
  match r, h with
  | [], _ => rfl
  | [a], _ => simp [noteP]
theorem takeWhile_at' {p : UInt8 → Bool} : ∀ (r : List UInt8) (j : Nat), j ≤ r.length → (∀ c ∈ r.take j, p c = true) → (∀ c, r[j]? = some c → p c = false) → (r.takeWhile p).length = j
  | [], j, h, _, _ => by simp at h; subst h; rfl
  | c :: r, 0, _, _, h2 => by
    have := h2 c rfl
    rw [List.takeWhile_cons, this]; rfl
  | c :: r, j + 1, h, h1, h2 => by
    have hc := h1 c (by simp)
    rw [List.takeWhile_cons, hc]
    simp only [if_true, List.length_cons]
    rw [takeWhile_at' r j (by simpa using h) (fun d hd => h1 d (by simp [hd])) (fun d hd => h2 d (by simpa using hd))]
theorem star_short {t : List UInt8} (h : t.length < 2) : star t = none := by
  match t, h with
  | [], _ => rfl
  | [a], _ => simp [star]
theorem star_cons (a b : UInt8) (t : List UInt8) : star (a :: b :: t) = if a = 42 ∧ b = 47 then some 0 else (star (b :: t)).map (· + 1) := by
  conv => lhs; unfold star
  simp
def RInt (z : Int) (w : World) (e : Ending) (w' : World) : Prop := e = .returned (.int .i64 z) ∧ w = w'
theorem u8ne {y : UInt8} {n : UInt8} (h : y ≠ n) : y.toNat ≠ n.toNat := fun e => h (UInt8.toNat_inj.1 e)
set_option maxHeartbeats 3200000 in
theorem rnote_any (B : Nat) (s : List UInt8) (v : Value) (k : Nat) (w : World) (hv : Bytes B w v s) (hk : k < s.length) (hs : s.length ≤ 1000000) :
    Calls Tryd.prog 22 #[v, .int .i64 k] w (RInt (noteN k (noteP (s.drop k))) w) := by
  obtain ⟨r, hr⟩ : ∃ r, r = s.drop k := ⟨_, rfl⟩
  rw [← hr]
  obtain ⟨p, hp⟩ : ∃ p, p = noteN k (noteP r) := ⟨_, rfl⟩
  rw [← hp]
  obtain ⟨aa, cap, rfl, h1, h2, h3, h4⟩ := hv
  have hne : s ≠ [] := by intro e; subst e; simp at hk
  obtain ⟨b, off, rfl, hbB, hbw, hcell⟩ := h4 hne
  have HC := hid hcell
  clear hcell h3 h4 hne
  have c0 := HC.out k hk
  by_cases hl2 : k + 2 ≤ s.length
  · have c1 := HC.out (k + 1) (by omega)
    have hcons : r = s[k] :: s[k + 1] :: s.drop (k + 2) := by rw [hr, drop_at hk, drop_at (show k + 1 < s.length by omega)]
    have hrl : r.length = s.length - k := by rw [hr, List.length_drop]
    obtain ⟨t, ht⟩ : ∃ t, t = s.drop (k + 2) := ⟨_, rfl⟩
    have htl : t.length = s.length - (k + 2) := by rw [ht, List.length_drop]
    rw [← ht] at hcons
    have hn := noteP_cons s[k] s[k + 1] t
    rw [← hcons] at hn
    obtain ⟨x, hx⟩ : ∃ x, s[k] = x := ⟨_, rfl⟩
    obtain ⟨y, hy⟩ : ∃ y, s[k + 1] = y := ⟨_, rfl⟩
    rw [hx, hy] at hn
    simp only [hx] at c0
    simp only [hy] at c1
    have HN := hid (hp.trans (congrArg (noteN k) hn))
    have HR := hid hr
    have HT := hid ht
    have HRL := hid hrl
    have HTL := hid htl
    clear hn hx hy hcons hp hr hrl ht htl
    by_cases hx : x = 47
    · subst hx
      by_cases hy : y = 47
      · subst hy
        have HP : Hid (p = ((k + (r.takeWhile fun c => c != 10).length : Nat) : Int)) := hid (by rw [HN.out, if_pos ⟨rfl, rfl⟩]; rfl)
        go_enter Tryd.func22, Tryd.ntmps22
        go_wp2_with fail
        go_loop [5] (fun z => ∃ i : Nat, z = .int .i64 ((k + i : Nat) : Int) ∧ k + i ≤ s.length ∧ Hid (∀ c ∈ r.take i, (c != 10) = true)) (fun z => s.length - (RowKit.intOf z).toNat)
        case atStart => exact ⟨0, rfl, by omega, hid (by simp)⟩
        case round =>
          obtain ⟨i, rfl, hle, HA⟩ := hrel
          by_cases hi : k + i < s.length
          · have ci := HC.out (k + i) hi
            have hri : r[i]? = some s[k + i] := by rw [HR.out, List.getElem?_drop, List.getElem?_eq_getElem hi]
            obtain ⟨z, hz⟩ : ∃ z, s[k + i] = z := ⟨_, rfl⟩
            rw [hz] at hri
            simp only [hz] at ci
            have HRI := hid hri
            clear hz hri
            by_cases z10 : z = 10
            · subst z10
              have hlen : Hid ((r.takeWhile fun c => c != 10).length = i) := hid (takeWhile_at' r i (by rw [HRL.out]; omega) HA.out (fun c hc => by rw [HRI.out] at hc; cases hc; decide))
              go_wp2_with fail
              go_ret
              exact ⟨by rw [HP.out, hlen.out]; push_cast; rfl, rfl⟩
            · have ez : ((z.toNat : Int) != 10) = true := by have := u8ne z10; simp at this ⊢; omega
              have HZ := hid z10
              clear z10
              go_wp2_with fail
              go_round
              case rel =>
                refine ⟨i + 1, by go_num, by omega, hid ?_⟩
                rw [List.take_add_one, HRI.out]
                intro c hc
                simp only [Option.toList_some, List.mem_append, List.mem_singleton] at hc
                rcases hc with hc | rfl
                · exact HA.out c hc
                · simpa using HZ.out
              case measure => simp [RowKit.intOf]; omega
          · have hlen : Hid ((r.takeWhile fun c => c != 10).length = i) := hid (takeWhile_at' r i (by rw [HRL.out]; omega) HA.out (fun c hc => by rw [List.getElem?_eq_none (by rw [HRL.out]; omega)] at hc; cases hc))
            go_wp2_with fail
            go_ret
            exact ⟨by rw [HP.out, hlen.out]; push_cast; rfl, rfl⟩
      · have ey : ((y.toNat : Int) == 47) = false := by have := u8ne hy; simp at this ⊢; omega
        by_cases hy2 : y = 42
        · subst hy2
          have HP : Hid (p = noteN k (match star t with | some j => .len (j + 4) | none => .bad)) := hid (by rw [HN.out, if_neg (by decide), if_pos ⟨rfl, rfl⟩])
          clear hy
          go_enter Tryd.func22, Tryd.ntmps22
          go_wp2_with fail
          go_loop [6] (fun z => ∃ n : Nat, z = .int .i64 ((n + 2 : Nat) : Int) ∧ k + 2 ≤ n ∧ n ≤ s.length ∧ Hid (star t = (star (s.drop n)).map (· + (n - (k + 2))))) (fun z => s.length + 2 - (RowKit.intOf z).toNat)
          case atStart => exact ⟨k + 2, by go_num, by omega, by omega, hid (by rw [← HT.out]; simp)⟩
          case round =>
            obtain ⟨n, rfl, hkn, hle, HA⟩ := hrel
            by_cases hi : n + 2 ≤ s.length
            · have ci := HC.out n (by omega)
              have cj := HC.out (n + 1) (by omega)
              have hsc := star_cons s[n] s[n + 1] (s.drop (n + 2))
              rw [← drop_at (show n + 1 < s.length by omega), ← drop_at (show n < s.length by omega)] at hsc
              obtain ⟨z, hz⟩ : ∃ z, s[n] = z := ⟨_, rfl⟩
              obtain ⟨u, hu⟩ : ∃ u, s[n + 1] = u := ⟨_, rfl⟩
              rw [hz, hu] at hsc
              simp only [hz] at ci
              simp only [hu] at cj
              have HS := hid (HA.out.trans (congrArg (Option.map (· + (n - (k + 2)))) hsc))
              clear hsc hz hu
              by_cases hzz : z = 42
              · subst hzz
                by_cases huu : u = 47
                · subst huu
                  have HF : Hid (p = ((n + 2 : Nat) : Int)) := hid (by
                    have h1 : star t = some (n - (k + 2)) := by rw [HS.out, if_pos ⟨rfl, rfl⟩]; simp
                    rw [HP.out, h1]
                    show (((k + (n - (k + 2) + 4) : Nat)) : Int) = _
                    omega)
                  go_wp2_with fail
                  go_ret
                  exact ⟨by rw [HF.out]; push_cast; rfl, rfl⟩
                · have eu : ((u.toNat : Int) == 47) = false := by have := u8ne huu; simp at this ⊢; omega
                  have N : Hid (star t = (star (s.drop (n + 1))).map (· + (n + 1 - (k + 2)))) := hid (by rw [HS.out, if_neg (fun h => huu h.2), map_map_add]; congr 1; funext j; omega)
                  clear huu
                  go_wp2_with fail
                  go_round
                  case rel => exact ⟨n + 1, by go_num, by omega, by omega, N⟩
                  case measure => simp [RowKit.intOf]; omega
              · have ez : ((z.toNat : Int) == 42) = false := by have := u8ne hzz; simp at this ⊢; omega
                have N : Hid (star t = (star (s.drop (n + 1))).map (· + (n + 1 - (k + 2)))) := hid (by rw [HS.out, if_neg (fun h => hzz h.1), map_map_add]; congr 1; funext j; omega)
                clear hzz
                go_wp2_with fail
                go_round
                case rel => exact ⟨n + 1, by go_num, by omega, by omega, N⟩
                case measure => simp [RowKit.intOf]; omega
            · have HF : Hid (p = -1) := hid (by
                rw [HP.out, HA.out, star_short (by rw [List.length_drop]; omega)]
                rfl)
              go_wp2_with fail
              go_ret
              exact ⟨by rw [HF.out]; rfl, rfl⟩
        · have ey2 : ((y.toNat : Int) != 42) = true := by have := u8ne hy2; simp at this ⊢; omega
          have HP : Hid (p = 0) := hid (by rw [HN.out, if_neg (fun h => hy h.2), if_neg (fun h => hy2 h.2)]; rfl)
          clear hy hy2
          go_enter Tryd.func22, Tryd.ntmps22
          go_wp2_with fail
          go_ret
          exact ⟨by rw [HP.out]; rfl, rfl⟩
    · have ex : ((x.toNat : Int) != 47) = true := by have := u8ne hx; simp at this ⊢; omega
      have HP : Hid (p = 0) := hid (by rw [HN.out, if_neg (fun h => hx h.1), if_neg (fun h => hx h.1)]; rfl)
      clear hx
      go_enter Tryd.func22, Tryd.ntmps22
      go_wp2_with fail
      go_ret
      exact ⟨by rw [HP.out]; rfl, rfl⟩
  · have HP : Hid (p = 0) := hid (by rw [hp, noteP_short (by rw [hr, List.length_drop]; omega)]; rfl)
    clear hp hr
    go_enter Tryd.func22, Tryd.ntmps22
    go_wp2_with fail
    go_ret
    exact ⟨by rw [HP.out]; rfl, rfl⟩
end Go.Proofs.YtokjnalmjdighaaDoor
