/-
  The walks of the laws IsaRound and IsaWords.
-/
import Derived.Test.YtchmhnodcjidkaaA2
namespace Go.Proofs.Ytchmhnodcjidkaa
open Go.RowKit Go.Maps

set_option maxRecDepth 100000 in
set_option maxHeartbeats 2000000 in
theorem walk_IsaRound (op a b c m : Int) (w : World) (h0 : 0 ≤ op) (h1 : op ≤ 255) :
    Calls Try.prog 5 #[.agg #[.int .u8 op, .int .i64 a, .int .i64 b, .int .i64 c, .int .i64 m]] w fun e w' => e = .returned (.bool true) ∧ Below w.heap.size w w' := by
  have hI0 := holds_new w 23 (insCells op a b c m)
  have hB0 := (Below.refl w.heap.size w).alloc (Nat.le_refl _) (.cells (insCells op a b c m) 23)
  by_cases hv : validV op a b c m = true
  · obtain ⟨x0, x1, xo⟩ := renc_word h0 hv
    have hop := valid_op hv
    have HV := Lib.hid hv
    have he := enc_eq op a b c m h0 hv
    obtain ⟨x, hx⟩ : ∃ x, x = rencV op a b c m := ⟨_, rfl⟩
    rw [← hx] at x0 x1 xo he
    have HX := Lib.hid hx
    have HO := Lib.hid xo
    have HE := Lib.hid he
    clear hv hx xo he
    go_enter Try.func5, Try.ntmps5
    go_wp2_with fail
    refine (awake4 _).mono ?_
    rintro e w1 ⟨rfl, hb⟩
    have hI1 := hI0.after hb
    have hB1 := on hB0 hb
    clear hI0 hB0 hb
    obtain ⟨i0, i1, i2, i3, i4⟩ := ins_cells hI1
    go_wp2_with fail
    refine (encode_yes op a b c m _ h0 hop HV.out).mono ?_
    rintro e w2 ⟨rfl, hb⟩
    rw [HE.out]
    have hI2 := hI1.after hb
    have hB2 := on hB1 hb
    clear hI1 hB1 hb i0 i1 i2 i3 i4
    go_wp2_with fail
    refine (decode_spec x _ x0 x1).mono ?_
    rintro e w3 ⟨⟨a', b', c', m', rfl, hv', he'⟩ | ⟨rfl, hno⟩, hb⟩
    · rw [HO.out] at hv' he' ⊢
      obtain ⟨e1, e2, e3, e4⟩ := renc_unique (x := x) x0 x1 (by rw [HO.out]; exact hv'.out) (by rw [HO.out]; exact he'.out) (by rw [HO.out]; exact HV.out) (by rw [HO.out]; exact HX.out.symm)
      subst e1 e2 e3 e4
      have hI3 := hI2.after hb
      have hB3 := on hB2 hb
      have hsz : w.heap.size < w3.heap.size := hI3.lt
      clear hI2 hB2 hb hv' he'
      obtain ⟨i0, i1, i2, i3, i4⟩ := ins_cells hI3
      go_wp2_with fail
      go_ret
      exact ⟨rfl, hB3.alloc hB3.size _⟩
    · exact absurd (show rencV (x / 67108864) a b c m = x by rw [HO.out]; exact HX.out.symm) (hno.out a b c m (by rw [HO.out]; exact HV.out))
  · have hv' : validV op a b c m = false := (Bool.not_eq_true _).mp hv
    have HV := Lib.hid hv'
    clear hv hv'
    go_enter Try.func5, Try.ntmps5
    go_wp2_with fail
    refine (awake4 _).mono ?_
    rintro e w1 ⟨rfl, hb⟩
    have hI1 := hI0.after hb
    have hB1 := on hB0 hb
    clear hI0 hB0 hb
    obtain ⟨i0, i1, i2, i3, i4⟩ := ins_cells hI1
    go_wp2_with fail
    refine (encode_no op a b c m _ h0 h1 HV.out).mono ?_
    rintro e w2 ⟨rfl, hb⟩
    have hI2 := hI1.after hb
    have hB2 := on hB1 hb
    clear hI1 hB1 hb i0 i1 i2 i3 i4
    obtain ⟨i0, i1, i2, i3, i4⟩ := ins_cells hI2
    go_wp2_with fail
    refine (valid_any op a b c m _ h0 h1).mono ?_
    rintro e w4 ⟨rfl, hb⟩
    rw [HV.out]
    have hB4 := on hB2 hb
    clear hI2 hB2 hb i0 i1 i2 i3 i4
    go_wp2_with fail
    go_ret
    exact ⟨rfl, hB4⟩

set_option maxRecDepth 100000 in
set_option maxHeartbeats 2000000 in
theorem walk_IsaWords (x : Int) (w : World) (h0 : 0 ≤ x) (h1 : x ≤ 4294967295) :
    Calls Try.prog 6 #[.int .u32 x] w fun e w' => e = .returned (.bool true) ∧ Below w.heap.size w w' := by
  go_enter Try.func6, Try.ntmps6
  go_wp2_with fail
  refine (awake4 _).mono ?_
  rintro e w1 ⟨rfl, hB1⟩
  go_wp2_with fail
  refine (decode_spec x _ h0 h1).mono ?_
  rintro e w2 ⟨⟨a, b, c, m, rfl, hv, he⟩ | ⟨rfl, hno⟩, hb⟩
  · have hB2 := on hB1 hb
    clear hB1 hb
    obtain ⟨hop, _⟩ := valid_ranges (show 0 ≤ x / 67108864 by omega) hv.out
    have HE : Hid (encV (x / 67108864) a b c m = x) := (enc_eq _ a b c m (by omega) hv.out).trans he.out
    go_wp2_with fail
    refine (encode_yes _ a b c m _ (by omega) hop hv.out).mono ?_
    rintro e w3 ⟨rfl, hb⟩
    rw [HE.out]
    obtain ⟨hI, hsz, hb3⟩ := box_after hb
    have hB3 := on hB2 hb3
    obtain ⟨i0, i1, i2, i3, i4⟩ := ins_cells hI
    clear hb hb3 hB2
    go_wp2_with fail
    refine (valid_any _ a b c m _ (by omega) (by omega)).mono ?_
    rintro e w4 ⟨rfl, hb⟩
    rw [hv.out]
    have hB4 := on hB3 hb
    clear hI hb hB3 i0 i1 i2 i3 i4
    go_wp2_with fail
    go_ret
    exact ⟨rfl, hB4⟩
  · have hB2 := on hB1 hb
    clear hB1 hb hno
    go_wp2_with fail
    go_ret
    exact ⟨rfl, hB2.alloc hB2.size _⟩
end Go.Proofs.Ytchmhnodcjidkaa
