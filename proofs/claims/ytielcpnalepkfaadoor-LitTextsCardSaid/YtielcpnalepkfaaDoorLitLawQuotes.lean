import Derived.Test.YtielcpnalepkfaaDoorLitAwake
namespace Go.Proofs.YtielcpnalepkfaaDoor
open Go.RowKit Go.Lib Go.BigFrame
set_option maxRecDepth 100000 in
theorem law_quotes_long (a b : List UInt8) (w : World) (ha : a.length ≤ 9223372036854775807) (hb : b.length ≤ 9223372036854775807) (h : 300 < a.length ∨ 300 < b.length) : Calls Tryd.prog 7 #[.string ⟨a.toArray⟩, .string ⟨b.toArray⟩] w (TruePost w) := by
  by_cases h1 : 300 < a.length
  · clear h
    go_enter Tryd.func7, Tryd.ntmps7
    go_wp2
    go_ret
    exact ⟨rfl, Ext.refl _ _⟩
  · have h2 : 300 < b.length := h.resolve_left h1
    have h1' : a.length ≤ 300 := by omega
    clear h h1
    go_enter Tryd.func7, Tryd.ntmps7
    go_wp2
    go_ret
    exact ⟨rfl, Ext.refl _ _⟩
theorem str_cat (a b : List UInt8) : (⟨a.toArray⟩ : ByteArray) ++ ⟨b.toArray⟩ = ⟨(a ++ b).toArray⟩ := by
  apply ByteArray.ext
  simp
set_option maxRecDepth 100000 in
set_option maxHeartbeats 1600000 in
theorem law_quotes (a b : List UInt8) (w : World) (hT : Tabs w) (hm : MaxL w) (ha : a.length ≤ 300) (hb : b.length ≤ 300) : Calls Tryd.prog 7 #[.string ⟨a.toArray⟩, .string ⟨b.toArray⟩] w (TruePost w) := by
  have CA := hid fun W => quote_any a W (by omega)
  have CB := hid fun W => quote_any b W (by omega)
  have CC := hid fun W => quote_any (a ++ b) W (by rw [List.length_append]; omega)
  have AW := hid fun w' (x : Ext none' w w') => lawake_any w' (hT.ext x) (hm.ext x (fun h => h))
  have hz := quoteP_append a b
  have lx := quoteP_len a
  have ly := quoteP_len b
  have CAT := hid (str_cat a b)
  obtain ⟨x, hx⟩ : ∃ x, quoteP a = x := ⟨_, rfl⟩
  obtain ⟨y, hy⟩ : ∃ y, quoteP b = y := ⟨_, rfl⟩
  obtain ⟨z, hzz⟩ : ∃ z, quoteP (a ++ b) = z := ⟨_, rfl⟩
  rw [hx] at lx CA
  rw [hy] at ly CB
  rw [hx, hy, hzz] at hz
  rw [hzz] at CC
  obtain ⟨lx1, lx2⟩ := lx
  obtain ⟨ly1, ly2⟩ := ly
  have HZ := hid hz
  clear hx hy hzz hz hT hm
  go_enter Tryd.func7, Tryd.ntmps7
  go_wp2_with fail
  refine (CA.out _).mono ?_
  rintro e w1 ⟨rfl, X1⟩
  have X1 := hid X1
  go_wp2_with fail
  refine (CB.out _).mono ?_
  rintro e w2 ⟨rfl, X2⟩
  have X2 := hid (X1.out.trans X2)
  go_wp2_with fail
  rw [CAT.out]
  refine (CC.out _).mono ?_
  rintro e w3 ⟨rfl, X3⟩
  have X3 := hid (X2.out.trans X3)
  have hsx : ∀ W, (Instr.slice 9 (.string ⟨x.toArray⟩) none (some (.int .i64 ((x.length : Int) - 1))) none).run Tryd.prog W = .ok (.string ⟨(x.take (x.length - 1)).toArray⟩) W := fun W => by
    rw [show (x.length : Int) - 1 = ((x.length - 1 : Nat) : Int) by omega, run_slice_string_h W _ _ Tryd.underlying9 _ _ (by omega) (by rw [bsize]; omega), Int.toNat_natCast, extract_eq]
    rfl
  have hsy : ∀ W, (Instr.slice 9 (.string ⟨y.toArray⟩) (some (.int .i64 1)) none none).run Tryd.prog W = .ok (.string ⟨(y.drop 1).toArray⟩) W := fun W => by
    rw [run_slice_string_l W _ _ Tryd.underlying9 _ _ (by omega) (by rw [bsize]; omega)]
    have := drop_str y 1
    rw [bsize]
    show Result.ok (Value.string ((⟨y.toArray⟩ : ByteArray).extract 1 y.length)) W = _
    rw [this]
  have hcat := str_cat (x.take (x.length - 1)) (y.drop 1)
  rw [← HZ.out] at hcat
  obtain ⟨p, hp⟩ : ∃ p, x.take (x.length - 1) = p := ⟨_, rfl⟩
  obtain ⟨q, hq⟩ : ∃ q, y.drop 1 = q := ⟨_, rfl⟩
  rw [hp, hq] at hcat
  simp only [hp] at hsx
  simp only [hq] at hsy
  have d1 : decide (2 ≤ (x.length : Int)) = true := by simp; omega
  have d2 : decide (2 ≤ (y.length : Int)) = true := by simp; omega
  have hpq : p.length + q.length ≤ 3000 := by rw [← hp, ← hq, List.length_take, List.length_drop]; omega
  clear hp hq
  go_wp2_with fail
  refine region_in3 none' w3 [0, 1, 2, 3, 4, 5, 6, 7, 8, 9, 10, 11, 12, 13, 14, 15, 16, 17, 18, 19, 20] [21] [22, 23] (by kernel_rfl) (by kernel_rfl) (fun dst v c a w h => by cases dst <;> exact h) (Ext.refl _ _) ?_
  simp only [sel, List.getElem?_cons_succ, List.getElem?_cons_zero]
  repeat (go_big_quiet_step (fail))
  refine wpQuiet_nil ?_
  simp only [wpChainK, sel, List.getElem?_cons_succ, List.getElem?_cons_zero]
  clear hsx hsy hcat d1 d2
  have XD := hid X3.out.drew
  have XE := hid (Ext.refl none' w3).drew
  go_wp2_with fail
  refine (AW.out _ XD.out).mono ?_
  rintro e w4 ⟨rfl, X4⟩
  have XE := hid (XE.out.trans X4)
  have X4 := hid (XD.out.trans X4)
  go_wp2_with fail
  refine ⟨In.of XE.out, ?_⟩
  repeat (go_big_quiet_step (fail))
  refine wpQuiet_nil ?_
  go_wp2_with fail
  go_ret
  exact ⟨rfl, X4.out⟩
end Go.Proofs.YtielcpnalepkfaaDoor
