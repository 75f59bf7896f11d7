/-
  The walk of the reference's Decode: it returns the valid instruction with the encoding, or false where there is none.
-/
import Derived.Test.YtchmhnodcjidkaaL1
namespace Go.Proofs.Ytchmhnodcjidkaa
open Go.RowKit Go.Maps

def RDec (x : Int) (w : World) (e : Ending) (w' : World) : Prop :=
  ((∃ a b c m : Int, e = .returned (.tuple #[.agg #[.int .u8 (x / 67108864), .int .i64 a, .int .i64 b, .int .i64 c, .int .i64 m], .bool true]) ∧ validV (x / 67108864) a b c m = true ∧ rencV (x / 67108864) a b c m = x) ∨
   (e = .returned (.tuple #[.agg #[.int .u8 0, .int .i64 0, .int .i64 0, .int .i64 0, .int .i64 0], .bool false]) ∧ ∀ a b c m : Int, validV (x / 67108864) a b c m = true → rencV (x / 67108864) a b c m ≠ x)) ∧ Below w.heap.size w w'

theorem rvalid_cases (op a b c m : Int) (w : World) (h0 : 0 ≤ op) (h1 : op ≤ 255) :
    Calls Try.prog 22 #[.agg #[.int .u8 op, .int .i64 a, .int .i64 b, .int .i64 c, .int .i64 m]] w fun e w' => ((e = .returned (.bool true) ∧ Hid (validV op a b c m = true)) ∨ (e = .returned (.bool false) ∧ Hid (validV op a b c m = false))) ∧ Below w.heap.size w w' := by
  refine (rvalid_any op a b c m w h0 h1).mono ?_
  rintro e w' ⟨rfl, hb⟩
  rw [rvalid_eq op a b c m h0 h1]
  refine ⟨?_, hb⟩
  cases h : validV op a b c m
  · exact .inr ⟨rfl, rfl⟩
  · exact .inl ⟨rfl, rfl⟩

theorem DW.called {op a b c m : Int} {w w3 : World} (hb : Below ((w.alloc (.cells (insCells 0 0 0 0 0) 23)).alloc (.cells (insCells op a b c m) 23)).heap.size ((w.alloc (.cells (insCells 0 0 0 0 0) 23)).alloc (.cells (insCells op a b c m) 23)) w3) : DW op a b c m w w3 := by
  refine DW.after (wr := (w.alloc (.cells (insCells 0 0 0 0 0) 23)).alloc (.cells (insCells op a b c m) 23)) ?_ hb
  refine ⟨(holds_new _ _ _).alloc _, ?_, ((Below.refl _ _).alloc (Nat.le_refl _) _).alloc (by simp) _⟩
  have := holds_new (w.alloc (.cells (insCells 0 0 0 0 0) 23)) 23 (insCells op a b c m)
  simpa using this

/-- The fields of a valid instruction, out of its encoding. -/
theorem renc_fields {x a b c m : Int} (h0 : 0 ≤ x) (hv : validV (x / 67108864) a b c m = true) (he : rencV (x / 67108864) a b c m = x) :
    a = x / 4194304 % 16 ∧ (1 < (fmtS (x / 67108864)).size → b = x / 262144 % 16) ∧ (¬ 1 < (fmtS (x / 67108864)).size → b = 0) ∧ (2 < (fmtS (x / 67108864)).size → c = x / 16384 % 16) ∧ (¬ 2 < (fmtS (x / 67108864)).size → c = 0) ∧
    (fmtLo (x / 67108864) ≤ fmtHi (x / 67108864) → m = if 131071 < x % 262144 then x % 262144 - 262144 else x % 262144) ∧ (¬ fmtLo (x / 67108864) ≤ fmtHi (x / 67108864) → m = 0) := by
  obtain ⟨hop, a0, a1, b0, b1, c0, c1, m0, m1, za, zb, zc, hi, hn⟩ := valid_ranges (by omega) hv
  have h30 : 0 ≤ x / 67108864 := by omega
  obtain ⟨i, hii⟩ := Int.eq_ofNat_of_zero_le h30
  obtain ⟨_, _, _, _, _, _, t7, _⟩ := tab_facts i (by omega)
  generalize hO : x / 67108864 = O at *
  subst hii
  unfold rencV at he
  by_cases hI : fmtLo i ≤ fmtHi i
  · rw [if_neg (by omega)] at he
    have hc : ¬ 2 < (fmtS i).size := fun e => by
      have := t7 e
      simp [immB] at this
      omega
    have zc' := zc hc
    subst zc'
    have hmm : (if m < 0 then m + 262144 else m) = x % 262144 := by split at he <;> split <;> omega
    refine ⟨by split at he <;> omega, fun _ => by split at he <;> omega, zb, fun e => absurd e hc, fun _ => rfl, fun _ => ?_, fun e => absurd hI e⟩
    split at hmm <;> split <;> omega
  · have hm0 : m = 0 := hn (by simp [immB]; omega)
    rw [if_pos (by omega)] at he
    subst hm0
    exact ⟨by omega, fun _ => by omega, zb, fun _ => by omega, zc, fun e => absurd e hI, fun _ => rfl⟩

set_option maxRecDepth 100000 in
set_option maxHeartbeats 1000000 in
theorem rdecode_no (x : Int) (w : World) (h0 : 0 ≤ x) (h1 : x ≤ 4294967295) (hop : 30 ≤ x / 67108864) : Calls Try.prog 26 #[.int .u32 x] w (RDec x w) := by
  have hn : Hid (∀ a b c m : Int, validV (x / 67108864) a b c m = true → rencV (x / 67108864) a b c m ≠ x) := fun a b c m hv => absurd (valid_op hv) (by omega)
  go_enter Try.func26, Try.ntmps26
  go_wp2_with fail
  refine bodyPost_ret (v := .tuple #[.agg #[.int .u8 0, .int .i64 0, .int .i64 0, .int .i64 0, .int .i64 0], .bool false]) ?_ rfl ⟨.inr ⟨rfl, hn.out⟩, (Below.refl _ _).alloc (Nat.le_refl _) _⟩
  simp [results, Try.results26, go_sem]

theorem rdec_ok {x a b c m : Int} {w w' w4 : World} (_ : DW (x / 67108864) a b c m w w4) (hv : Hid (validV (x / 67108864) a b c m = true)) (he : (rencV (x / 67108864) a b c m != x) = false) (hb : Below w.heap.size w w') :
    RDec x w (.returned (.tuple #[.agg #[.int .u8 (x / 67108864), .int .i64 a, .int .i64 b, .int .i64 c, .int .i64 m], .bool true])) w' :=
  ⟨.inl ⟨a, b, c, m, rfl, hv, by simpa using he⟩, hb⟩
theorem rdec_none {x a b c m : Int} {w w' w4 : World} (_ : DW (x / 67108864) a b c m w w4) (h0 : 0 ≤ x) (hx : Hid (validV (x / 67108864) a b c m = false) ∨ (rencV (x / 67108864) a b c m != x) = true) (ea : a = x / 4194304 % 16)
    (eb : 1 < (fmtS (x / 67108864)).size → b = x / 262144 % 16) (eb' : ¬ 1 < (fmtS (x / 67108864)).size → b = 0) (ec : 2 < (fmtS (x / 67108864)).size → c = x / 16384 % 16) (ec' : ¬ 2 < (fmtS (x / 67108864)).size → c = 0)
    (em : fmtLo (x / 67108864) ≤ fmtHi (x / 67108864) → m = if 131071 < x % 262144 then x % 262144 - 262144 else x % 262144) (em' : ¬ fmtLo (x / 67108864) ≤ fmtHi (x / 67108864) → m = 0) (hb : Below w.heap.size w w') :
    RDec x w (.returned (.tuple #[.agg #[.int .u8 0, .int .i64 0, .int .i64 0, .int .i64 0, .int .i64 0], .bool false])) w' := by
  have hx' : ¬ (validV (x / 67108864) a b c m = true ∧ rencV (x / 67108864) a b c m = x) := by
    rintro ⟨e1, e2⟩
    rcases hx with h | h
    · rw [h.out] at e1; cases e1
    · rw [e2] at h; simp at h
  refine ⟨.inr ⟨rfl, fun a' b' c' m' hv he => hx' ?_⟩, hb⟩
  obtain ⟨ga, gb, gb', gc, gc', gm, gm'⟩ := renc_fields h0 hv he
  have e1 : a' = a := by rw [ga, ea]
  have e2 : b' = b := by
    by_cases h : 1 < (fmtS (x / 67108864)).size
    · rw [gb h, eb h]
    · rw [gb' h, eb' h]
  have e3 : c' = c := by
    by_cases h : 2 < (fmtS (x / 67108864)).size
    · rw [gc h, ec h]
    · rw [gc' h, ec' h]
  have e4 : m' = m := by
    by_cases h : fmtLo (x / 67108864) ≤ fmtHi (x / 67108864)
    · rw [gm h, em h]
    · rw [gm' h, em' h]
  subst e1 e2 e3 e4
  exact ⟨hv, he⟩

set_option maxRecDepth 100000 in
set_option maxHeartbeats 4000000 in
theorem rdecode_yes (x : Int) (w : World) (h0 : 0 ≤ x) (h1 : x ≤ 4294967295) (hop : x / 67108864 < 30) : Calls Try.prog 26 #[.int .u32 x] w (RDec x w) := by
  go_enter Try.func26, Try.ntmps26
  go_wp2_with fail
  refine (format_any _ _ (by omega) (by omega)).mono ?_
  rintro e w1 ⟨rfl, rfl⟩
  go_wp2_with fail
  all_goals
    refine (rvalid_cases _ _ _ _ _ _ (by omega) (by omega)).mono ?_
    rintro e w3 ⟨⟨rfl, hv⟩ | ⟨rfl, hv⟩, hb⟩
    · have hD := DW.called hb
      clear hb
      obtain ⟨i0, i1, i2, i3, i4⟩ := hD.icells
      obtain ⟨_, a0, a1, b0, b1, c0, c1, m0, m1, -⟩ := valid_ranges (by omega) hv.out
      go_wp2_with fail
      refine (rencode_any _ _ _ _ _ _ (by omega) (by omega) m0 m1 a0 a1 b0 b1 c0 c1).mono ?_
      rintro e w4 ⟨rfl, hb⟩
      have hE := hD.after hb
      clear hb i0 i1 i2 i3 i4 hD
      obtain ⟨i0, i1, i2, i3, i4⟩ := hE.icells
      obtain ⟨r0, r1, r2, r3, r4⟩ := hE.rcells
      have rf := hE.rfree
      go_wp2_with fail
      · refine bodyPost_ret ?_ rfl (rdec_none hE h0 (.inr (by assumption)) rfl (by intro _; first | rfl | omega) (by intro _; first | rfl | omega) (by intro _; first | rfl | omega) (by intro _; first | rfl | omega) (by intro _; first | (split <;> omega) | omega) (by intro _; omega) (below_five hE.below _ _ _ _ _))
        simp [results, Try.results26, go_sem, r0, r1, r2, r3, r4]
      · refine bodyPost_ret ?_ rfl (rdec_ok hE hv (by assumption) (below_five hE.below _ _ _ _ _))
        simp [results, Try.results26, go_sem, r0, r1, r2, r3, r4]
    · have hD := DW.called hb
      clear hb
      obtain ⟨r0, r1, r2, r3, r4⟩ := hD.rcells
      have rf := hD.rfree
      go_wp2_with fail
      refine bodyPost_ret ?_ rfl (rdec_none hD h0 (.inl hv) rfl (by intro _; first | rfl | omega) (by intro _; first | rfl | omega) (by intro _; first | rfl | omega) (by intro _; first | rfl | omega) (by intro _; first | (split <;> omega) | omega) (by intro _; omega) (below_five hD.below _ _ _ _ _))
      simp [results, Try.results26, go_sem, r0, r1, r2, r3, r4]

theorem rdecode_any (x : Int) (w : World) (h0 : 0 ≤ x) (h1 : x ≤ 4294967295) : Calls Try.prog 26 #[.int .u32 x] w (RDec x w) := by
  by_cases h : x / 67108864 < 30
  · exact rdecode_yes x w h0 h1 h
  · exact rdecode_no x w h0 h1 (by omega)
end Go.Proofs.Ytchmhnodcjidkaa
