/-
  Plain laws of layer 4: what isa.Decode computes is the valid instruction with the encoding, or there is none.
-/
import Derived.Test.YtchmhnodcjidkaaW9
namespace Go.Proofs.Ytchmhnodcjidkaa
open Go.RowKit

theorem wrap64_small (n : Int) (h0 : 0 ≤ n) (h1 : n ≤ 4294967295) : wrap64 n = n := IntWalk.wrap64_in n ⟨by omega, by omega⟩
theorem wrap64_mid (n : Int) (h0 : -4294967296 ≤ n) (h1 : n ≤ 4294967295) : wrap64 n = n := IntWalk.wrap64_in n ⟨by omega, by omega⟩

theorem decX_reg (x ch : Int) (h0 : 0 ≤ x) (h1 : x ≤ 4294967295) (hc : ch ≠ 105) : decX x ch = x / 2 ^ (posOf ch).toNat % 16 := by
  unfold decX
  rw [if_neg hc]
  have hp : (0 : Int) < 2 ^ (posOf ch).toNat := Int.pow_pos (by decide)
  have d0 : 0 ≤ x / 2 ^ (posOf ch).toNat := Int.ediv_nonneg h0 (by omega)
  have d1 : x / 2 ^ (posOf ch).toNat ≤ x := Int.ediv_le_self _ h0
  rw [and_15 _ d0 (by omega), wrap64_small _ (by omega) (by omega)]
theorem wrap32_def (n : Int) : wrap32 n = (n + 2147483648) % 4294967296 - 2147483648 := by
  unfold wrap32
  omega
theorem decX_imm (x : Int) : decX x 105 = if 131071 < x % 262144 then x % 262144 - 262144 else x % 262144 := by
  unfold decX
  rw [if_pos rfl, wrap32_def, wrap64_mid _ (by omega) (by omega)]
  split <;> omega

theorem decG_at (x ch : Int) : decG x ch = if ch ∈ nums (opsS (x / 67108864)) then decX x ch else 0 := by
  unfold decG decF
  rw [List.take_of_length_le (by rw [nums_length]; exact Nat.le_refl _)]

/-- Where there is a valid instruction with the encoding, the letters give it. -/
theorem dec_fields {x a b c m : Int} (h0 : 0 ≤ x) (h1 : x ≤ 4294967295) (hv : validV (x / 67108864) a b c m = true) (he : rencV (x / 67108864) a b c m = x) :
    decG x 97 = a ∧ decG x 98 = b ∧ decG x 99 = c ∧ decG x 105 = m := by
  obtain ⟨ga, gb, gb', gc, gc', gm, gm'⟩ := renc_fields h0 hv he
  obtain ⟨hop, _, _, _, _, _, _, _, _, za, _, _, _, _⟩ := valid_ranges (by omega) hv
  have h30 : 0 ≤ x / 67108864 := by omega
  obtain ⟨i, hii⟩ := Int.eq_ofNat_of_zero_le h30
  obtain ⟨_, _, _, _, _, t6, t7, _⟩ := tab_facts i (by omega)
  rw [← hii] at t6 t7
  have p97 : (posOf 97).toNat = 22 := by decide
  have p98 : (posOf 98).toNat = 18 := by decide
  have p99 : (posOf 99).toNat = 14 := by decide
  have mem : ∀ ch : Int, ch ∈ nums (opsS (x / 67108864)) ↔ (ch = 97 ∧ 0 < (fmtS (x / 67108864)).size) ∨ (ch = 98 ∧ 1 < (fmtS (x / 67108864)).size) ∨ (ch = 99 ∧ 2 < (fmtS (x / 67108864)).size) ∨ (ch = 105 ∧ immB (x / 67108864) = true) := by
    intro ch
    rw [t6]
    simp only [List.mem_append]
    have h : ∀ (p : Prop) [Decidable p] (n : Int), ch ∈ (if p then [n] else []) ↔ ch = n ∧ p := by
      intro p _ n
      by_cases hp : p <;> simp [hp]
    rw [h, h, h, h]
    constructor
    · rintro (((h | h) | h) | h)
      · exact .inl h
      · exact .inr (.inl h)
      · exact .inr (.inr (.inl h))
      · exact .inr (.inr (.inr h))
    · rintro (h | h | h | h)
      · exact .inl (.inl (.inl h))
      · exact .inl (.inl (.inr h))
      · exact .inl (.inr h)
      · exact .inr h
  refine ⟨?_, ?_, ?_, ?_⟩
  · rw [decG_at]
    by_cases h : 0 < (fmtS (x / 67108864)).size
    · rw [if_pos ((mem 97).2 (.inl ⟨rfl, h⟩)), decX_reg x 97 h0 h1 (by decide), p97, ga]
      omega
    · rw [if_neg (fun e => by have := (mem 97).1 e; simp at this; omega), za h]
  · rw [decG_at]
    by_cases h : 1 < (fmtS (x / 67108864)).size
    · rw [if_pos ((mem 98).2 (.inr (.inl ⟨rfl, h⟩))), decX_reg x 98 h0 h1 (by decide), p98, gb h]
      omega
    · rw [if_neg (fun e => by have := (mem 98).1 e; simp at this; omega), gb' h]
  · rw [decG_at]
    by_cases h : 2 < (fmtS (x / 67108864)).size
    · rw [if_pos ((mem 99).2 (.inr (.inr (.inl ⟨rfl, h⟩)))), decX_reg x 99 h0 h1 (by decide), p99, gc h]
      omega
    · rw [if_neg (fun e => by have := (mem 99).1 e; simp at this; omega), gc' h]
  · rw [decG_at]
    by_cases h : fmtLo (x / 67108864) ≤ fmtHi (x / 67108864)
    · rw [if_pos ((mem 105).2 (.inr (.inr (.inr ⟨rfl, by simpa [immB] using h⟩)))), decX_imm x, gm h]
    · rw [if_neg (fun e => by have := (mem 105).1 e; simp [immB] at this; omega), gm' h]

/-- What Decode leaves: the valid instruction with the encoding, or that there is none. -/
def IDec (x : Int) (w : World) (e : Ending) (w' : World) : Prop :=
  ((∃ a b c m : Int, e = .returned (.tuple #[.agg #[.int .u8 (x / 67108864), .int .i64 a, .int .i64 b, .int .i64 c, .int .i64 m], .int .i64 0]) ∧ Hid (validV (x / 67108864) a b c m = true) ∧ Hid (rencV (x / 67108864) a b c m = x)) ∨
   (e = .returned (.tuple #[.agg #[.int .u8 0, .int .i64 0, .int .i64 0, .int .i64 0, .int .i64 0], .int .i64 3]) ∧ Hid (∀ a b c m : Int, validV (x / 67108864) a b c m = true → rencV (x / 67108864) a b c m ≠ x))) ∧ Below w.heap.size w w'

theorem decode_spec (x : Int) (w : World) (h0 : 0 ≤ x) (h1 : x ≤ 4294967295) : Calls Try.prog 25 #[.int .u32 x] w (IDec x w) := by
  refine (decode_any x w h0 h1).mono ?_
  rintro e w' ⟨rfl, hb⟩
  refine ⟨?_, hb⟩
  by_cases h : decOk x = true
  · refine .inl ⟨decG x 97, decG x 98, decG x 99, decG x 105, by simp [dOp, dA, dB, dC, dM, dE, h], ?_⟩
    unfold decOk at h
    simp only [Bool.and_eq_true, decide_eq_true_eq, beq_iff_eq] at h
    obtain ⟨⟨_, he⟩, hw⟩ := h
    have hv : validV (x / 67108864) (decG x 97) (decG x 98) (decG x 99) (decG x 105) = true := by
      unfold encE at he
      by_cases hv : validV (x / 67108864) (decG x 97) (decG x 98) (decG x 99) (decG x 105) = true
      · exact hv
      · rw [if_neg hv] at he; cases he
    refine ⟨hv, ?_⟩
    unfold encW at hw
    rw [if_pos hv] at hw
    show rencV _ _ _ _ _ = x
    rw [← enc_eq _ _ _ _ _ (by omega) hv]
    exact hw
  · refine .inr ⟨by simp [dOp, dA, dB, dC, dM, dE, h], fun a b c m hv he => h ?_⟩
    obtain ⟨e1, e2, e3, e4⟩ := dec_fields h0 h1 hv he
    unfold decOk encE encW
    rw [e1, e2, e3, e4, if_pos hv, if_pos hv, enc_eq _ _ _ _ _ (by omega) hv, he, decide_eq_true (valid_op hv)]
    simp

theorem renc_unique {x a b c m a' b' c' m' : Int} (h0 : 0 ≤ x) (h1 : x ≤ 4294967295) (hv : validV (x / 67108864) a b c m = true) (he : rencV (x / 67108864) a b c m = x) (hv' : validV (x / 67108864) a' b' c' m' = true) (he' : rencV (x / 67108864) a' b' c' m' = x) :
    a = a' ∧ b = b' ∧ c = c' ∧ m = m' := by
  obtain ⟨e1, e2, e3, e4⟩ := dec_fields h0 h1 hv he
  obtain ⟨f1, f2, f3, f4⟩ := dec_fields h0 h1 hv' he'
  exact ⟨e1.symm.trans f1, e2.symm.trans f2, e3.symm.trans f3, e4.symm.trans f4⟩

/-- A valid instruction's encoding: a word, with the opcode at its head. -/
theorem renc_word {op a b c m : Int} (h0 : 0 ≤ op) (hv : validV op a b c m = true) : 0 ≤ rencV op a b c m ∧ rencV op a b c m ≤ 4294967295 ∧ rencV op a b c m / 67108864 = op := by
  obtain ⟨hop, a0, a1, b0, b1, c0, c1, m0, m1, za, zb, zc, hi, hn⟩ := valid_ranges h0 hv
  obtain ⟨i, hii⟩ := Int.eq_ofNat_of_zero_le h0
  obtain ⟨_, _, _, _, _, _, t7, _⟩ := tab_facts i (by omega)
  rw [← hii] at t7
  unfold rencV
  by_cases hI : fmtHi op < fmtLo op
  · rw [if_pos hI]
    omega
  · rw [if_neg hI]
    have hc : ¬ 2 < (fmtS op).size := fun e => by
      have := t7 e
      simp [immB] at this
      omega
    have := zc hc
    split <;> omega
end Go.Proofs.Ytchmhnodcjidkaa
