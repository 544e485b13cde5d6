import Derived.Test.YtielcpnalepkfaaDoorTokQuo
namespace Go.Proofs.YtielcpnalepkfaaDoor
open Go.RowKit Go.Lib Go.BigFrame
theorem need_is (v : Value) (b : Bool) (p : Nat) (w : World) (hb : b = true) : Calls Tryd.prog 76 #[v, .bool b, .int .i64 p] w fun e w' => e = .returned (.tuple #[]) ∧ w = w' := by
  subst hb; exact need_yes v p w
/-- What 'quoted' leaves. -/
def QPost (base sb : Nat) (s : List UInt8) (k : Nat) (l n : List Tok) (w : World) (p : Option Nat) (e : Ending) (w' : World) : Prop :=
  match p with
  | some m => StPost base sb s (k + 1 + m) (l ++ [⟨5, (s.drop k).take (m + 1), k⟩]) n w e w'
  | none => e = .panicked [{ v := gave k, recovered := false }] ∧ Ext (up base) w w'
set_option maxHeartbeats 1600000 in
theorem quoted_34 (base sb k : Nat) (s : List UInt8) (l n : List Tok) (w : World) (st : St base sb w s k l n) (hk : k < s.length) (hq : s[k] = 34) (hs : s.length ≤ 1000000) (hl : l.length ≤ 900000) :
    Calls Tryd.prog 66 #[.pointer (some ⟨sb, 0, none⟩)] w (QPost base sb s k l n w (quo 34 false (s.drop (k + 1)))) := by
  obtain ⟨p, hp⟩ : ∃ p, p = quo 34 false (s.drop (k + 1)) := ⟨_, rfl⟩
  rw [← hp]
  have HP := hid hp
  clear hp
  have ST := hid st
  obtain ⟨vl, vn, hh, rl, rn, hne, hb⟩ := st
  have p0 := cell_at hh 0
  have p1 := cell_at hh 1
  simp only [List.getElem?_toArray, List.getElem?_cons_zero, List.getElem?_cons_succ] at p0 p1
  have HH := hid hh
  have RL := hid rl
  have RN := hid rn
  have HQ := hid hq
  clear hh rl rn hq
  go_enter Tryd.func66, Tryd.ntmps66
  have hix : ((⟨s.toArray⟩ : ByteArray)[k]'(by rw [bsize]; exact hk)).toNat = 34 := by
    have : ((⟨s.toArray⟩ : ByteArray)[k]'(by rw [bsize]; exact hk)) = s[k] := by
      show (s.toArray)[k]'_ = s[k]
      simp
    rw [this, HQ.out]; rfl
  go_wp2_with fail
  rw [extract_eq s (k + 1) s.length]
  obtain ⟨r, hr⟩ : ∃ r, r = s.drop (k + 1) := ⟨_, rfl⟩
  have hrt : (s.drop (k + 1)).take (s.length - (k + 1)) = r := by rw [hr, List.take_of_length_le (by rw [List.length_drop]; omega)]
  rw [hrt]
  have hrl : r.length = s.length - (k + 1) := by rw [hr, List.length_drop]
  have HR := hid hr
  rw [← hr] at HP
  clear hrt hr
  go_loopw [4] (fun z wr => ∃ pos sl, z = .bool sl ∧ QuRel w.heap.size 34 r p w wr pos sl) (fun _ wr => r.length - wr.iterPos w.heap.size)
  case atStart =>
    refine ⟨0, false, rfl, ⟨by omega, ?_, ?_, ?_⟩⟩
    · exact heap_alloc_at rfl _
    · exact ((Ext.refl _ _).alloc _)
    · rw [HP.out]; simp
  case round =>
    obtain ⟨pos, sl, rfl, R⟩ := hrel
    have hle := R.le
    by_cases hp : pos < r.length
    · obtain ⟨d, hd⟩ : ∃ d, Utf8.decode ⟨r.toArray⟩ pos = d := ⟨_, rfl⟩
      have hnx : ∀ ty, (Instr.next (.pointer (some ⟨w.heap.size, 0, none⟩)) true ty).run Tryd.prog wr = .ok (.tuple #[.bool true, .int .i64 pos, .int .i32 d.1]) (wr.iterAt w.heap.size ⟨r.toArray⟩ (pos + d.2)) :=
        fun ty => by rw [← hd]; exact run_next_any_at wr w.heap.size ⟨r.toArray⟩ pos ty R.hit (by rw [bsize]; exact hp)
      have Hd := hid ((decode_dropL r pos).symm.trans hd)
      clear hd
      have w1 := dw1 (r.drop pos)
      have w2 := dwle (r.drop pos) (by intro e; have := congrArg List.length e; rw [List.length_drop] at this; simp at this; omega)
      rw [List.length_drop] at w2
      rw [Hd.out] at w1 w2
      have X1 : Ext none' w (wr.iterAt w.heap.size ⟨r.toArray⟩ (pos + d.2)) := R.hx.iterAt (.inr (Nat.le_refl _)) _ _
      have h2 := X1.heap HH.out (fun h => h)
      have p1 := cell_at h2 1
      have pf := free_at h2 1
      simp only [List.getElem?_toArray, List.getElem?_cons_zero, List.getElem?_cons_succ] at p1
      have hit2 : (wr.iterAt w.heap.size ⟨r.toArray⟩ (pos + d.2)).heap[w.heap.size]? = some (.stringIter ⟨r.toArray⟩ (pos + d.2)) := iterAt_heap _ _ _ _ _ R.hit
      have hit := hid (iterPos_of R.hit)
      have RR := hid R
      have HX1 := hid X1
      have HI2 := hid hit2
      have HH2 := hid h2
      clear R X1 hit2 h2
      have NX : ∀ sl', Hid (p = (quo 34 sl' (r.drop (pos + d.2))).map (· + (pos + d.2)) → (∃ ps sx, (Value.bool sl' : Value) = .bool sx ∧ QuRel w.heap.size 34 r p w (wr.iterAt w.heap.size ⟨r.toArray⟩ (pos + d.2)) ps sx) ∧ r.length - (wr.iterAt w.heap.size ⟨r.toArray⟩ (pos + d.2)).iterPos w.heap.size < r.length - wr.iterPos w.heap.size) := fun sl' => hid fun hpp => by
        refine ⟨⟨pos + d.2, sl', rfl, ⟨by omega, HI2.out, HX1.out, hpp⟩⟩, ?_⟩
        rw [iterPos_of HI2.out, hit.out]; omega
      have hne' : r.drop pos ≠ [] := by intro e; have := congrArg List.length e; rw [List.length_drop] at this; simp at this; omega
      have qt := quo_true 34 (.inl rfl) (r.drop pos) hne'
      have qf := quo_false 34 (.inl rfl) (r.drop pos) hne'
      rw [Hd.out, List.drop_drop] at qt qf
      have QT := hid qt
      have QF := hid qf
      clear qt qf hne'
      have HP1 : Hid (p = (quo 34 sl (r.drop pos)).map (· + pos)) := hid RR.out.hf
      have sw : pos + d.2 = d.2 + pos := Nat.add_comm _ _
      have SW := hid sw
      clear sw
      obtain ⟨d1, d2⟩ := d
      simp only at *
      by_cases a10 : d1 = 10
      · subst a10
        have hpn : Hid (p = none) := hid (by
          rw [HP1.out]
          cases sl
          · rw [QF.out]; simp
          · rw [QT.out]; simp)
        clear NX
        cases sl
        · go_wp2_with (go_at_call 76; refine (need_no _ k _).mono ?_; rintro e w1 ⟨rfl, rfl⟩)
          rw [hpn.out]
          exact ⟨rfl, ⟨rfl, HX1.out.mono fun i _ h => h.elim⟩⟩
        · go_wp2_with (go_at_call 76; refine (need_no _ k _).mono ?_; rintro e w1 ⟨rfl, rfl⟩)
          rw [hpn.out]
          exact ⟨rfl, ⟨rfl, HX1.out.mono fun i _ h => h.elim⟩⟩
      · by_cases a92 : d1 = 92
        · subst a92
          cases sl
          · have HN : Hid (p = (quo 34 true (r.drop (pos + d2))).map (· + (pos + d2))) := hid (by rw [HP1.out, QF.out, if_pos ⟨rfl, trivial⟩, map_map_add, SW.out])
            have N := (NX true).out HN.out
            clear NX
            go_wp2_with fail
            exact N
          · have HN : Hid (p = (quo 34 false (r.drop (pos + d2))).map (· + (pos + d2))) := hid (by rw [HP1.out, QT.out, if_neg (by decide), map_map_add, SW.out])
            have N := hid ((NX false).out HN.out)
            clear NX
            go_wp2_with (go_at_call 76; refine (need_yes _ k _).mono ?_; rintro e w1 ⟨rfl, rfl⟩)
            exact N.out
        · have e10 : ((d1 : Int) == 10) = false := by simp; omega
          have e92 : ((d1 : Int) == 92) = false := by simp; omega
          cases sl
          · by_cases a34 : d1 = 34
            · subst a34
              have HN : Hid (p = some (1 + pos)) := hid (by rw [HP1.out, QF.out, if_neg (by decide), if_pos (by decide)]; rfl)
              have fin := St.go HH.out hb RL.out RN.out hne HX1.out (k + pos + 2) (z := k + pos + 2) (by push_cast; rfl)
              have CA := hid (add_any base sb 5 k (k + pos + 2) s l n _ fin.1 (by omega) (by omega) (by omega))
              have FX := hid fin.2
              clear NX a10 a92 e10 e92 fin
              go_wp2_with fail
              refine CA.out.mono ?_
              rintro e w1 ⟨rfl, st1, x1⟩
              have S1 := hid st1
              have Y1 := hid (FX.out.trans x1)
              clear st1 x1
              go_wp2_with fail
              rw [HN.out]
              refine bodyPost_ret (results_none rfl _ _ _) rfl ⟨rfl, ?_, Y1.out⟩
              have e1 : k + 1 + (1 + pos) = k + pos + 2 := by omega
              have e2 : 1 + pos + 1 = k + pos + 2 - k := by omega
              rw [e1, e2]
              exact S1.out
            · have e34 : ((d1 : Int) == 34) = false := by simp; omega
              have HN : Hid (p = (quo 34 false (r.drop (pos + d2))).map (· + (pos + d2))) := hid (by rw [HP1.out, QF.out, if_neg (by omega), if_neg (by simpa using a34), if_neg (by omega), map_map_add, SW.out])
              have N := hid ((NX false).out HN.out)
              clear NX a10 a92 a34
              go_wp2_with fail
              exact N.out
          · have HN : Hid (p = (quo 34 false (r.drop (pos + d2))).map (· + (pos + d2))) := hid (by rw [HP1.out, QT.out, if_neg (by omega), map_map_add, SW.out])
            have N := hid ((NX false).out HN.out)
            have A10 := hid a10
            clear NX a10 a92 e92 e10
            go_wp2_with fail
            refine (need_is _ _ k _ (by have := A10.out; simp; omega)).mono ?_
            rintro e w1 ⟨rfl, rfl⟩
            go_wp2_with fail
            exact N.out
    · have hnx : ∀ ty, (Instr.next (.pointer (some ⟨w.heap.size, 0, none⟩)) true ty).run Tryd.prog wr = _ := fun ty => run_next_end_at wr w.heap.size ⟨r.toArray⟩ pos ty R.hit (by rw [bsize]; exact hp)
      have hpn : Hid (p = none) := hid (by rw [R.hf, show pos = r.length by omega, List.drop_length]; cases sl <;> rfl)
      have RR := hid R
      clear R
      go_wp2_with (go_at_call 76; refine (need_no _ k _).mono ?_; rintro e w1 ⟨rfl, rfl⟩)
      rw [hpn.out]
      exact ⟨rfl, ⟨rfl, RR.out.hx.mono fun i _ h => h.elim⟩⟩
end Go.Proofs.YtielcpnalepkfaaDoor
