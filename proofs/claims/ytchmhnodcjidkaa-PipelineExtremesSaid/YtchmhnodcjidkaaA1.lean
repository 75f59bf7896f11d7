/-
  The walk of the law IsaValid: for every instruction it returns true and writes nothing that was there.
-/
import Derived.Test.YtchmhnodcjidkaaW8
import Derived.Test.YtchmhnodcjidkaaL1
namespace Go.Proofs.Ytchmhnodcjidkaa
open Go.RowKit Go.Maps

/-- One call more. -/
theorem on {w wr w' : World} (h : Below w.heap.size w wr) (hb : Below wr.heap.size wr w') : Below w.heap.size w w' := h.trans (hb.mono h.size)
theorem ins_cells {w : World} {g : Nat} {op a b c m : Int} (h : Holds w g 23 (insCells op a b c m)) :
    w.cell? ⟨g, 0, none⟩ = some (.int .u8 op) ∧ w.cell? ⟨g, 1, none⟩ = some (.int .i64 a) ∧ w.cell? ⟨g, 2, none⟩ = some (.int .i64 b) ∧ w.cell? ⟨g, 3, none⟩ = some (.int .i64 c) ∧ w.cell? ⟨g, 4, none⟩ = some (.int .i64 m) :=
  ⟨h.cell 0, h.cell 1, h.cell 2, h.cell 3, h.cell 4⟩

set_option maxRecDepth 100000 in
set_option maxHeartbeats 1000000 in
theorem walk_IsaValid (op a b c m : Int) (w : World) (h0 : 0 ≤ op) (h1 : op ≤ 255) :
    Calls Try.prog 3 #[.agg #[.int .u8 op, .int .i64 a, .int .i64 b, .int .i64 c, .int .i64 m]] w fun e w' => e = .returned (.bool true) ∧ Below w.heap.size w w' := by
  have hI0 := holds_new w 23 (insCells op a b c m)
  have hB0 := (Below.refl w.heap.size w).alloc (Nat.le_refl _) (.cells (insCells op a b c m) 23)
  by_cases hv : validV op a b c m = true
  · obtain ⟨hop, a0, a1, b0, b1, c0, c1, m0, m1, _⟩ := valid_ranges h0 hv
    have HV := Lib.hid hv
    have hr := rvalid_eq op a b c m h0 h1
    rw [hv] at hr
    have HR := Lib.hid hr
    have HE := Lib.hid (enc_eq op a b c m h0 hv)
    clear hr hv
    go_enter Try.func3, Try.ntmps3
    go_wp2_with fail
    refine (awake4 _).mono ?_
    rintro e w1 ⟨rfl, hb⟩
    have hI1 := hI0.after hb
    have hB1 := on hB0 hb
    clear hI0 hB0 hb
    obtain ⟨i0, i1, i2, i3, i4⟩ := ins_cells hI1
    go_wp2_with fail
    refine (encode_yes op a b c m _ h0 hop HV.out).mono ?_
    rintro e w2 ⟨rfl, hb⟩
    have hI2 := hI1.after hb
    have hB2 := on hB1 hb
    clear hI1 hB1 hb i0 i1 i2 i3 i4
    obtain ⟨i0, i1, i2, i3, i4⟩ := ins_cells hI2
    go_wp2_with fail
    refine (rvalid_any op a b c m _ h0 h1).mono ?_
    rintro e w3 ⟨rfl, hb⟩
    rw [HR.out]
    have hI3 := hI2.after hb
    have hB3 := on hB2 hb
    clear hI2 hB2 hb i0 i1 i2 i3 i4
    obtain ⟨i0, i1, i2, i3, i4⟩ := ins_cells hI3
    go_wp2_with fail
    refine (valid_any op a b c m _ h0 h1).mono ?_
    rintro e w4 ⟨rfl, hb⟩
    rw [HV.out]
    have hI4 := hI3.after hb
    have hB4 := on hB3 hb
    clear hI3 hB3 hb i0 i1 i2 i3 i4
    obtain ⟨i0, i1, i2, i3, i4⟩ := ins_cells hI4
    go_wp2_with fail
    refine (rencode_any op a b c m _ h0 hop m0 m1 a0 a1 b0 b1 c0 c1).mono ?_
    rintro e w5 ⟨rfl, hb⟩
    rw [← HE.out]
    have hB5 := on hB4 hb
    clear hI4 hB4 hb i0 i1 i2 i3 i4
    go_wp2_with fail
    go_ret
    exact ⟨by first | rfl | simp, hB5⟩
  · have hv' : validV op a b c m = false := (Bool.not_eq_true _).mp hv
    have HV := Lib.hid hv'
    have hr := rvalid_eq op a b c m h0 h1
    rw [hv'] at hr
    have HR := Lib.hid hr
    clear hr hv hv'
    go_enter Try.func3, Try.ntmps3
    go_wp2_with fail
    refine (awake4 _).mono ?_
    rintro e w1 ⟨rfl, hb⟩
    have hI1 := hI0.after hb
    have hB1 := on hB0 hb
    clear hI0 hB0 hb
    obtain ⟨i0, i1, i2, i3, i4⟩ := ins_cells hI1
    go_wp2_with fail
    refine (encode_no op a b c m _ h0 h1 HV.out).mono ?_
    rintro e w2 ⟨rfl, hb⟩
    have hI2 := hI1.after hb
    have hB2 := on hB1 hb
    clear hI1 hB1 hb i0 i1 i2 i3 i4
    obtain ⟨i0, i1, i2, i3, i4⟩ := ins_cells hI2
    go_wp2_with fail
    refine (rvalid_any op a b c m _ h0 h1).mono ?_
    rintro e w3 ⟨rfl, hb⟩
    rw [HR.out]
    have hI3 := hI2.after hb
    have hB3 := on hB2 hb
    clear hI2 hB2 hb i0 i1 i2 i3 i4
    obtain ⟨i0, i1, i2, i3, i4⟩ := ins_cells hI3
    go_wp2_with fail
    refine (valid_any op a b c m _ h0 h1).mono ?_
    rintro e w4 ⟨rfl, hb⟩
    rw [HV.out]
    have hB4 := on hB3 hb
    clear hI3 hB3 hb i0 i1 i2 i3 i4
    go_wp2_with fail
    go_ret
    exact ⟨rfl, hB4⟩
end Go.Proofs.Ytchmhnodcjidkaa
