/-
  The walks of isa.IsBranch, isa.Target and of the law IsaTargets.
-/
import Derived.Test.YtchmhnodcjidkaaA4
namespace Go.Proofs.Ytchmhnodcjidkaa
open Go.RowKit Go.Maps

def brB (op : Int) : Bool := decide (22 ≤ op ∧ op ≤ 24)
set_option maxHeartbeats 400000 in
theorem isbranch_any (op : Int) (w : World) : Calls Try.prog 28 #[.int .u8 op] w fun e w' => e = .returned (.bool (brB op)) ∧ w = w' := by
  by_cases h1 : 22 ≤ op
  · by_cases h2 : op ≤ 24
    · have hE : Hid (brB op = true) := decide_eq_true ⟨h1, h2⟩
      go_enter Try.func28, Try.ntmps28
      go_wp2
      go_ret
      exact ⟨by rw [hE.out]; first | rfl | simp [h2], rfl⟩
    · have hE : Hid (brB op = false) := decide_eq_false (fun e => h2 e.2)
      go_enter Try.func28, Try.ntmps28
      go_wp2
      go_ret
      exact ⟨by rw [hE.out]; first | rfl | simp; omega, rfl⟩
  · have hE : Hid (brB op = false) := decide_eq_false (fun e => h1 e.1)
    go_enter Try.func28, Try.ntmps28
    go_wp2
    go_ret
    exact ⟨by rw [hE.out]; rfl, rfl⟩

set_option maxHeartbeats 400000 in
theorem target_br (op a b c m pc : Int) (w : World) (hp0 : 0 ≤ pc) (hp1 : pc ≤ 65535) (h : brB op = true) :
    Calls Try.prog 27 #[.agg #[.int .u8 op, .int .i64 a, .int .i64 b, .int .i64 c, .int .i64 m], .int .i64 pc] w fun e w' => e = .returned (.tuple #[.int .i64 (wrap64 (pc + 1 + m)), .bool true]) ∧ Below w.heap.size w w' := by
  have HB := Lib.hid h
  clear h
  go_enter Try.func27, Try.ntmps27
  go_wp2_with fail
  refine (isbranch_any op _).mono ?_
  rintro e w1 ⟨rfl, rfl⟩
  rw [HB.out]
  go_wp2_with fail
  go_ret2
  exact ⟨rfl, (Below.refl _ _).alloc (Nat.le_refl _) _⟩
set_option maxHeartbeats 400000 in
theorem target_no (op a b c m pc : Int) (w : World) (h : brB op = false) :
    Calls Try.prog 27 #[.agg #[.int .u8 op, .int .i64 a, .int .i64 b, .int .i64 c, .int .i64 m], .int .i64 pc] w fun e w' => e = .returned (.tuple #[.int .i64 0, .bool false]) ∧ Below w.heap.size w w' := by
  have HB := Lib.hid h
  clear h
  go_enter Try.func27, Try.ntmps27
  go_wp2_with fail
  refine (isbranch_any op _).mono ?_
  rintro e w1 ⟨rfl, rfl⟩
  rw [HB.out]
  go_wp2_with fail
  go_ret2
  exact ⟨rfl, (Below.refl _ _).alloc (Nat.le_refl _) _⟩

/-- A branch whose target lies in the code is valid where its other operands are zero and it has no register: a jump; else only A may stand. -/
theorem branch_valid (op m : Int) (hb : brB op = true) (h0 : -4096 ≤ m) (h1 : m ≤ 4096) : validV op 0 0 0 m = true := by
  have hop : 22 ≤ op ∧ op ≤ 24 := by simpa [brB] using hb
  have hr : rvalidV op 0 0 0 m = true := by
    have hs : fmtLo op = -131072 ∧ fmtHi op = 131071 := by
      unfold fmtLo fmtHi
      constructor
      · rw [if_neg (by omega), if_neg (by omega), if_neg (by omega)]
      · rw [if_neg (by omega), if_neg (by omega), if_neg (by omega), if_neg (by omega), if_neg (by omega), if_neg (by omega)]
    unfold rvalidV regB fmtOk
    rw [hs.1, hs.2, decide_eq_true (show op < 30 by omega)]
    simp
    omega
  rw [← rvalid_eq op 0 0 0 m (by omega) (by omega)]
  exact hr

set_option maxRecDepth 100000 in
set_option maxHeartbeats 4000000 in
theorem walk_IsaTargets (op a b c m pc to : Int) (w : World) (h0 : 0 ≤ op) (_h1 : op ≤ 255) (hp0 : 0 ≤ pc) (hp1 : pc ≤ 65535) (ht0 : 0 ≤ to) (ht1 : to ≤ 65535) :
    Calls Try.prog 8 #[.agg #[.int .u8 op, .int .i64 a, .int .i64 b, .int .i64 c, .int .i64 m], .int .u16 pc, .int .u16 to] w fun e w' => e = .returned (.bool true) ∧ Below w.heap.size w w' := by
  have hI0 := holds_new w 23 (insCells op a b c m)
  have hB0 := (Below.refl w.heap.size w).alloc (Nat.le_refl _) (.cells (insCells op a b c m) 23)
  by_cases hbr : brB op = true
  · have HBr := Lib.hid hbr
    clear hbr
    go_enter Try.func8, Try.ntmps8
    go_wp2_with fail
    refine (awake4 _).mono ?_
    rintro e w1 ⟨rfl, hb⟩
    have hI1 := hI0.after hb
    have hB1 := on hB0 hb
    clear hI0 hB0 hb
    obtain ⟨i0, i1, i2, i3, i4⟩ := ins_cells hI1
    go_wp2_with fail
    refine (target_br op a b c m pc _ hp0 hp1 HBr.out).mono ?_
    rintro e w2 ⟨rfl, hb⟩
    have hI2 := hI1.after hb
    have hB2 := on hB1 hb
    clear hI1 hB1 hb i0 i1 i2 i3 i4
    obtain ⟨i0, i1, i2, i3, i4⟩ := ins_cells hI2
    go_wp2_with fail
    refine (isbranch_any op _).mono ?_
    rintro e w1 ⟨rfl, rfl⟩
    rw [HBr.out]
    go_wp2_with fail
    clear i0 i1 i2 i3 i4
    obtain ⟨d, hd⟩ : ∃ d, d = to % 4096 - pc % 4096 - 1 := ⟨_, rfl⟩
    have hv := branch_valid op d HBr.out (by omega) (by omega)
    obtain ⟨x0, x1, xo⟩ := renc_word h0 hv
    have hop := valid_op hv
    have HV := Lib.hid hv
    have he := enc_eq op 0 0 0 d h0 hv
    obtain ⟨x, hx⟩ : ∃ x, x = rencV op 0 0 0 d := ⟨_, rfl⟩
    rw [← hx] at x0 x1 xo he
    have HX := Lib.hid hx
    have HO := Lib.hid xo
    have HE := Lib.hid he
    rw [← hd]
    have HT : Hid (wrap64 (pc % 4096 + 1 + d) = to % 4096) := by
      show wrap64 _ = _
      rw [hd, wrap64_mid _ (by omega) (by omega)]
      omega
    clear hv hx xo he hd
    refine (encode_yes op 0 0 0 d _ h0 hop HV.out).mono ?_
    rintro e w3 ⟨rfl, hb⟩
    rw [HE.out]
    obtain ⟨_, _, hb3⟩ := box_after hb
    have hB3 := on hB2 hb3
    clear hI2 hB2 hb hb3
    go_wp2_with fail
    refine (decode_spec x _ x0 x1).mono ?_
    rintro e w4 ⟨⟨a', b', c', m', rfl, hv', he'⟩ | ⟨rfl, hno⟩, hb⟩
    · rw [HO.out] at hv' he' ⊢
      obtain ⟨e1, e2, e3, e4⟩ := renc_unique (x := x) x0 x1 (by rw [HO.out]; exact hv'.out) (by rw [HO.out]; exact he'.out) (by rw [HO.out]; exact HV.out) (by rw [HO.out]; exact HX.out.symm)
      subst e1 e2 e3 e4
      have hB4 := on hB3 hb
      clear hB3 hb hv' he'
      go_wp2_with fail
      refine (target_br op 0 0 0 m' (pc % 4096) _ (by omega) (by omega) HBr.out).mono ?_
      rintro e w5 ⟨rfl, hb⟩
      rw [HT.out]
      obtain ⟨_, _, hb5⟩ := box_after hb
      have hB5 := on hB4 hb5
      clear hB4 hb hb5
      go_wp2_with fail
      go_ret
      exact ⟨by first | rfl | simp, hB5⟩
    · exact absurd (show rencV (x / 67108864) 0 0 0 d = x by rw [HO.out]; exact HX.out.symm) (hno.out 0 0 0 d (by rw [HO.out]; exact HV.out))
  · have HBr := Lib.hid ((Bool.not_eq_true _).mp hbr)
    clear hbr
    go_enter Try.func8, Try.ntmps8
    go_wp2_with fail
    refine (awake4 _).mono ?_
    rintro e w1 ⟨rfl, hb⟩
    have hI1 := hI0.after hb
    have hB1 := on hB0 hb
    clear hI0 hB0 hb
    obtain ⟨i0, i1, i2, i3, i4⟩ := ins_cells hI1
    go_wp2_with fail
    refine (target_no op a b c m pc _ HBr.out).mono ?_
    rintro e w2 ⟨rfl, hb⟩
    have hI2 := hI1.after hb
    have hB2 := on hB1 hb
    clear hI1 hB1 hb i0 i1 i2 i3 i4
    obtain ⟨i0, i1, i2, i3, i4⟩ := ins_cells hI2
    go_wp2_with fail
    refine (isbranch_any op _).mono ?_
    rintro e w1 ⟨rfl, rfl⟩
    rw [HBr.out]
    go_wp2_with fail
    go_ret
    exact ⟨rfl, hB2⟩
end Go.Proofs.Ytchmhnodcjidkaa
