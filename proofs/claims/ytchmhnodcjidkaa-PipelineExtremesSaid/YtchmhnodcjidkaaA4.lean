/-
  The walk of the law IsaDistinct.
-/
import Derived.Test.YtchmhnodcjidkaaA3
namespace Go.Proofs.Ytchmhnodcjidkaa
open Go.RowKit Go.Maps

/-- Different valid instructions have different encodings. -/
theorem enc_inj {op a b c m op' a' b' c' m' : Int} (h0 : 0 ≤ op) (h0' : 0 ≤ op') (hv : validV op a b c m = true) (hv' : validV op' a' b' c' m' = true) (he : encV op a b c m = encV op' a' b' c' m') :
    op = op' ∧ a = a' ∧ b = b' ∧ c = c' ∧ m = m' := by
  rw [enc_eq _ _ _ _ _ h0 hv, enc_eq _ _ _ _ _ h0' hv'] at he
  obtain ⟨x0, x1, xo⟩ := renc_word h0 hv
  obtain ⟨_, _, xo'⟩ := renc_word h0' hv'
  rw [← he] at xo'
  have e := xo.symm.trans xo'
  obtain ⟨e1, e2, e3, e4⟩ := renc_unique (x := rencV op a b c m) x0 x1 (by rw [xo]; exact hv) (by rw [xo]) (by rw [xo']; exact hv') (by rw [xo']; exact he.symm)
  exact ⟨e, e1, e2, e3, e4⟩

theorem two_boxes (w : World) (o o' : Int) (a b c m a' b' c' m' : Int) :
    Holds ((w.alloc (.cells (insCells o a b c m) 23)).alloc (.cells (insCells o' a' b' c' m') 23)) w.heap.size 23 (insCells o a b c m) ∧
    Holds ((w.alloc (.cells (insCells o a b c m) 23)).alloc (.cells (insCells o' a' b' c' m') 23)) (w.heap.size + 1) 23 (insCells o' a' b' c' m') ∧
    Below w.heap.size w ((w.alloc (.cells (insCells o a b c m) 23)).alloc (.cells (insCells o' a' b' c' m') 23)) := by
  refine ⟨(holds_new _ _ _).alloc _, ?_, ((Below.refl _ _).alloc (Nat.le_refl _) _).alloc (by simp) _⟩
  have := holds_new (w.alloc (.cells (insCells o a b c m) 23)) 23 (insCells o' a' b' c' m')
  simpa using this

set_option maxRecDepth 100000 in
set_option maxHeartbeats 4000000 in
theorem walk_IsaDistinct (op a b c m op' a' b' c' m' : Int) (w : World) (h0 : 0 ≤ op) (h1 : op ≤ 255) (h0' : 0 ≤ op') (h1' : op' ≤ 255) :
    Calls Try.prog 7 #[.agg #[.int .u8 op, .int .i64 a, .int .i64 b, .int .i64 c, .int .i64 m], .agg #[.int .u8 op', .int .i64 a', .int .i64 b', .int .i64 c', .int .i64 m']] w fun e w' => e = .returned (.bool true) ∧ Below w.heap.size w w' := by
  obtain ⟨hI0, hJ0, hB0⟩ := two_boxes w op op' a b c m a' b' c' m'
  go_enter Try.func7, Try.ntmps7
  go_wp2_with fail
  refine (awake4 _).mono ?_
  rintro e w1 ⟨rfl, hb⟩
  have hI1 := hI0.after hb
  have hJ1 := hJ0.after hb
  have hB1 := on hB0 hb
  clear hI0 hJ0 hB0 hb
  obtain ⟨i0, i1, i2, i3, i4⟩ := ins_cells hI1
  by_cases hv : validV op a b c m = true
  · by_cases hv' : validV op' a' b' c' m' = true
    · have HV := Lib.hid hv
      have HV' := Lib.hid hv'
      have hop := valid_op hv
      have hop' := valid_op hv'
      clear hv hv'
      go_wp2_with fail
      refine (encode_yes op a b c m _ h0 hop HV.out).mono ?_
      rintro e w2 ⟨rfl, hb⟩
      have hI2 := hI1.after hb
      have hJ2 := hJ1.after hb
      have hB2 := on hB1 hb
      clear hI1 hJ1 hB1 hb i0 i1 i2 i3 i4
      obtain ⟨j0, j1, j2, j3, j4⟩ := ins_cells hJ2
      go_wp2_with fail
      refine (encode_yes op' a' b' c' m' _ h0' hop' HV'.out).mono ?_
      rintro e w3 ⟨rfl, hb⟩
      have hI3 := hI2.after hb
      have hJ3 := hJ2.after hb
      have hB3 := on hB2 hb
      clear hI2 hJ2 hB2 hb j0 j1 j2 j3 j4
      obtain ⟨i0, i1, i2, i3, i4⟩ := ins_cells hI3
      obtain ⟨j0, j1, j2, j3, j4⟩ := ins_cells hJ3
      clear hI3 hJ3
      by_cases hs : op = op' ∧ a = a' ∧ b = b' ∧ c = c' ∧ m = m'
      · obtain ⟨rfl, rfl, rfl, rfl, rfl⟩ := hs
        go_wp2_with fail
        go_ret
        exact ⟨by first | rfl | simp, hB3⟩
      · have hne : (encV op a b c m == encV op' a' b' c' m') = false := beq_eq_false_iff_ne.2 fun e => hs (enc_inj h0 h0' HV.out HV'.out e)
        have HS := Lib.hid hs
        clear hs
        go_wp2_with fail
        all_goals first
          | exact absurd ⟨by assumption, by assumption, by assumption, by assumption, by assumption⟩ HS.out
          | (go_ret; exact ⟨rfl, hB3⟩)
    · have hv1 := (Bool.not_eq_true _).mp hv'
      have HV := Lib.hid hv
      have HV' := Lib.hid hv1
      have hop := valid_op hv
      clear hv hv' hv1
      go_wp2_with fail
      refine (encode_yes op a b c m _ h0 hop HV.out).mono ?_
      rintro e w2 ⟨rfl, hb⟩
      have hJ2 := hJ1.after hb
      have hB2 := on hB1 hb
      clear hI1 hJ1 hB1 hb i0 i1 i2 i3 i4
      obtain ⟨j0, j1, j2, j3, j4⟩ := ins_cells hJ2
      go_wp2_with fail
      refine (encode_no op' a' b' c' m' _ h0' h1' HV'.out).mono ?_
      rintro e w3 ⟨rfl, hb⟩
      have hB3 := on hB2 hb
      clear hJ2 hB2 hb j0 j1 j2 j3 j4
      go_wp2_with fail
      go_ret
      exact ⟨rfl, hB3⟩
  · have hv1 := (Bool.not_eq_true _).mp hv
    have HV := Lib.hid hv1
    clear hv hv1
    go_wp2_with fail
    refine (encode_no op a b c m _ h0 h1 HV.out).mono ?_
    rintro e w2 ⟨rfl, hb⟩
    have hJ2 := hJ1.after hb
    have hB2 := on hB1 hb
    clear hI1 hJ1 hB1 hb i0 i1 i2 i3 i4
    obtain ⟨j0, j1, j2, j3, j4⟩ := ins_cells hJ2
    go_wp2_with fail
    refine (encode_any op' a' b' c' m' _ h0' h1').mono ?_
    rintro e w3 ⟨rfl, hb⟩
    have hB3 := on hB2 hb
    clear hJ2 hB2 hb j0 j1 j2 j3 j4
    go_wp2_with fail
    go_ret
    exact ⟨rfl, hB3⟩
end Go.Proofs.Ytchmhnodcjidkaa
