/-
  Plain laws of layer 4: the table agrees with the reference's formats; Valid and Encode agree with the reference's.
-/
import Derived.Test.YtchmhnodcjidkaaW6
import Derived.Test.YtchmhnodcjidkaaW7
import Derived.Laws.BitsLemmas
namespace Go.Proofs.Ytchmhnodcjidkaa
open Go.RowKit

def immB (op : Int) : Bool := decide (fmtLo op ≤ fmtHi op)
theorem tab_facts : ∀ i : Nat, i < 30 → hasB (opsS i) 97 = decide (0 < (fmtS i).size) ∧ hasB (opsS i) 98 = decide ((1 : Int) < ((fmtS i).size : Int)) ∧ hasB (opsS i) 99 = decide ((2 : Int) < ((fmtS i).size : Int)) ∧ hasB (opsS i) 105 = immB i ∧
    (immB i = true → lowI i = fmtLo i ∧ highI i = fmtHi i) ∧
    nums (opsS i) = (if 0 < (fmtS i).size then [97] else []) ++ (if 1 < (fmtS i).size then [98] else []) ++ (if 2 < (fmtS i).size then [99] else []) ++ (if immB i = true then [105] else []) ∧ (2 < (fmtS i).size → immB i = false) ∧ -131072 ≤ fmtLo i ∧ fmtHi i ≤ 131071 := by decide +kernel

theorem rvalid_eq (op a b c m : Int) (h0 : 0 ≤ op) (h1 : op ≤ 255) : rvalidV op a b c m = validV op a b c m := by
  by_cases h : op < 30
  · obtain ⟨i, rfl⟩ := Int.eq_ofNat_of_zero_le h0
    obtain ⟨t1, t2, t3, t4, t5, _⟩ := tab_facts i (by omega)
    unfold rvalidV validV
    rw [← t1, ← t2, ← t3]
    simp only [lets, List.all_cons, List.all_nil, Bool.and_true, fmtOk, decide_eq_true h, Bool.true_and]
    have e1 : ∀ (x ch : Int), ch ≠ 105 → fldV a b c m ch = x → okV i a b c m ch = regB x (hasB (opsS i) ch) := by
      intro x ch hc hx
      unfold okV lowV highV regB
      rw [hx, if_neg (fun e => hc e.2)]
      cases hasB (opsS i) ch
      · rw [Bool.eq_iff_iff]
        simp
        omega
      · rw [Bool.eq_iff_iff]
        simp [hc]
        omega
    rw [e1 a 97 (by decide) rfl, e1 b 98 (by decide) rfl, e1 c 99 (by decide) rfl]
    have e2 : okV i a b c m 105 = if fmtHi i < fmtLo i then decide (m = 0) else decide (fmtLo i ≤ m ∧ m ≤ fmtHi i) := by
      unfold okV lowV highV
      rw [t4]
      have hx : fldV a b c m 105 = m := rfl
      rw [hx]
      cases hi : immB i
      · have : fmtHi i < fmtLo i := by simpa [immB] using hi
        rw [if_pos this, Bool.eq_iff_iff]
        simp
        omega
      · have : ¬ fmtHi i < fmtLo i := by
          have : fmtLo i ≤ fmtHi i := by simpa [immB] using hi
          omega
        rw [if_neg this, (t5 hi).1, (t5 hi).2]
        simp
    rw [e2]
    simp only [Bool.and_assoc]
  · unfold rvalidV validV fmtOk
    rw [decide_eq_false h]
    simp

theorem okV_reg {i : Nat} {a b c m ch : Int} (h : okV i a b c m ch = true) (hc : ch ≠ 105) : 0 ≤ fldV a b c m ch ∧ fldV a b c m ch ≤ 15 ∧ (hasB (opsS i) ch = false → fldV a b c m ch = 0) := by
  unfold okV lowV highV at h
  rw [if_neg (fun e => hc e.2), decide_eq_true_iff] at h
  cases hh : hasB (opsS i) ch
  · rw [if_pos hh] at h
    exact ⟨by omega, by omega, fun _ => by omega⟩
  · rw [if_neg (by rw [hh]; simp), if_neg hc] at h
    exact ⟨by omega, by omega, (fun e => nomatch e)⟩

/-- What a valid instruction's operands are. -/
theorem valid_ranges {op a b c m : Int} (h0 : 0 ≤ op) (h : validV op a b c m = true) :
    op < 30 ∧ 0 ≤ a ∧ a ≤ 15 ∧ 0 ≤ b ∧ b ≤ 15 ∧ 0 ≤ c ∧ c ≤ 15 ∧ -131072 ≤ m ∧ m ≤ 131071 ∧ (¬ 0 < (fmtS op).size → a = 0) ∧ (¬ 1 < (fmtS op).size → b = 0) ∧ (¬ 2 < (fmtS op).size → c = 0) ∧
      (immB op = true → fmtLo op ≤ m ∧ m ≤ fmtHi op) ∧ (immB op = false → m = 0) := by
  have hop := valid_op h
  obtain ⟨i, rfl⟩ := Int.eq_ofNat_of_zero_le h0
  obtain ⟨t1, t2, t3, t4, t5, _, _, t8, t9⟩ := tab_facts i (by omega)
  unfold validV at h
  simp only [lets, List.all_cons, List.all_nil, Bool.and_true, Bool.and_eq_true, decide_eq_true_eq] at h
  obtain ⟨_, h1, h2, h3, h4⟩ := h
  obtain ⟨a0, a1, a2⟩ := okV_reg h1 (by decide)
  obtain ⟨b0, b1, b2⟩ := okV_reg h2 (by decide)
  obtain ⟨c0, c1, c2⟩ := okV_reg h3 (by decide)
  rw [t1] at a2
  rw [t2] at b2
  rw [t3] at c2
  have hm : (immB i = true → fmtLo i ≤ m ∧ m ≤ fmtHi i) ∧ (immB i = false → m = 0) := by
    unfold okV lowV highV at h4
    rw [t4, decide_eq_true_iff] at h4
    have hx : fldV a b c m 105 = m := rfl
    rw [hx] at h4
    cases hi : immB i
    · rw [hi] at h4
      simp at h4
      exact ⟨(fun e => nomatch e), fun _ => by omega⟩
    · rw [hi, (t5 hi).1, (t5 hi).2] at h4
      simp at h4
      exact ⟨fun _ => h4, (fun e => nomatch e)⟩
  have hmr : -131072 ≤ m ∧ m ≤ 131071 := by
    cases hi : immB i
    · have := hm.2 hi; omega
    · have := hm.1 hi; omega
  exact ⟨hop, a0, a1, b0, b1, c0, c1, hmr.1, hmr.2, fun e => a2 (decide_eq_false e), fun e => b2 (by simp; omega), fun e => c2 (by simp; omega), hm.1, hm.2⟩

theorem wraps_u32 (n : Int) (h₀ : 0 ≤ n) (h₁ : n < 2 ^ 32) : IntKind.u32.wrap n = n := by rw [IntKind.wrap_u32]; omega
theorem or_join (i : Nat) (x y : Int) (hx₀ : 0 ≤ x) (hx : x % 2 ^ i = 0) (hx₁ : x < 2 ^ 32) (hy₀ : 0 ≤ y) (hy : y < 2 ^ i) (hy₁ : y < 2 ^ 32) : bits .or .u32 x y = x + y :=
  bits_join .u32 32 (by decide) wraps_u32 i x y hx₀ hx hx₁ hy₀ hy hy₁
theorem and_imm (x : Int) (h₀ : 0 ≤ x) (h₁ : x < 2 ^ 32) : bits .and .u32 x 262143 = x % 262144 := by
  have := bits_mask .u32 32 (by decide) wraps_u32 18 (by decide) x h₀ h₁
  simpa using this
theorem and_15 (x : Int) (h₀ : 0 ≤ x) (h₁ : x < 2 ^ 32) : bits .and .u32 x 15 = x % 16 := by
  have := bits_mask .u32 32 (by decide) wraps_u32 4 (by decide) x h₀ h₁
  simpa using this

theorem step_a {a b c m x : Int} (ha : 0 ≤ a ∧ a ≤ 15) (hx0 : 0 ≤ x) (hx : x % 67108864 = 0) (hx1 : x < 4294967296) : encStep a b c m x 97 = x + a * 4194304 := by
  unfold encStep encX
  have e1 : fldV a b c m 97 = a := rfl
  have e2 : (posOf 97).toNat = 22 := by decide
  rw [e1, e2, if_neg (by decide)]
  have e3 : a % 4294967296 * 2 ^ 22 % 4294967296 = a * 4194304 := by omega
  rw [e3]
  exact or_join 26 x (a * 4194304) hx0 (by omega) (by omega) (by omega) (by omega) (by omega)
theorem step_b {a b c m x : Int} (hb : 0 ≤ b ∧ b ≤ 15) (hx0 : 0 ≤ x) (hx : x % 4194304 = 0) (hx1 : x < 4294967296) : encStep a b c m x 98 = x + b * 262144 := by
  unfold encStep encX
  have e1 : fldV a b c m 98 = b := rfl
  have e2 : (posOf 98).toNat = 18 := by decide
  rw [e1, e2, if_neg (by decide)]
  have e3 : b % 4294967296 * 2 ^ 18 % 4294967296 = b * 262144 := by omega
  rw [e3]
  exact or_join 22 x (b * 262144) hx0 (by omega) (by omega) (by omega) (by omega) (by omega)
theorem step_c {a b c m x : Int} (hc : 0 ≤ c ∧ c ≤ 15) (hx0 : 0 ≤ x) (hx : x % 262144 = 0) (hx1 : x < 4294967296) : encStep a b c m x 99 = x + c * 16384 := by
  unfold encStep encX
  have e1 : fldV a b c m 99 = c := rfl
  have e2 : (posOf 99).toNat = 14 := by decide
  rw [e1, e2, if_neg (by decide)]
  have e3 : c % 4294967296 * 2 ^ 14 % 4294967296 = c * 16384 := by omega
  rw [e3]
  exact or_join 18 x (c * 16384) hx0 (by omega) (by omega) (by omega) (by omega) (by omega)
theorem step_m {a b c m x : Int} (hm : -131072 ≤ m ∧ m ≤ 131071) (hx0 : 0 ≤ x) (hx : x % 262144 = 0) (hx1 : x < 4294967296) : encStep a b c m x 105 = x + (if m < 0 then m + 262144 else m) := by
  unfold encStep encX
  have e1 : fldV a b c m 105 = m := rfl
  have e2 : (posOf 105).toNat = 0 := by decide
  rw [e1, e2, if_pos rfl, and_imm _ (by omega) (by omega)]
  have e3 : m % 4294967296 % 262144 * 2 ^ 0 % 4294967296 = (if m < 0 then m + 262144 else m) := by split <;> omega
  rw [e3]
  exact or_join 18 x _ hx0 (by omega) (by omega) (by split <;> omega) (by split <;> omega) (by split <;> omega)

theorem enc_eq (op a b c m : Int) (h0 : 0 ≤ op) (h : validV op a b c m = true) : encV op a b c m = rencV op a b c m := by
  obtain ⟨hop, a0, a1, b0, b1, c0, c1, m0, m1, za, zb, zc, hi, hn⟩ := valid_ranges h0 h
  obtain ⟨i, rfl⟩ := Int.eq_ofNat_of_zero_le h0
  obtain ⟨_, _, _, _, _, t6, t7, _⟩ := tab_facts i (by omega)
  unfold encV rencV
  rw [t6]
  have him : immB i = true ↔ ¬ fmtHi i < fmtLo i := by simp [immB]
  by_cases s0 : 0 < (fmtS i).size
  · by_cases s1 : 1 < (fmtS i).size
    · by_cases s2 : 2 < (fmtS i).size
      · have t := t7 s2
        rw [if_pos s0, if_pos s1, if_pos s2, if_neg (by rw [t]; simp), if_pos (by have := fun e => (him.2 e); by_cases e : fmtHi i < fmtLo i; exact e; exact absurd (this e) (by rw [t]; simp))]
        simp only [List.cons_append, List.nil_append, List.append_nil, List.foldl_cons, List.foldl_nil]
        rw [step_a ⟨a0, a1⟩ (by omega) (by omega) (by omega), step_b ⟨b0, b1⟩ (by omega) (by omega) (by omega), step_c ⟨c0, c1⟩ (by omega) (by omega) (by omega)]
        omega
      · have zc' := zc s2
        by_cases hI : immB i = true
        · rw [if_pos s0, if_pos s1, if_neg s2, if_pos hI, if_neg (him.1 hI)]
          simp only [List.cons_append, List.nil_append, List.append_nil, List.foldl_cons, List.foldl_nil]
          rw [step_a ⟨a0, a1⟩ (by omega) (by omega) (by omega), step_b ⟨b0, b1⟩ (by omega) (by omega) (by omega), step_m ⟨m0, m1⟩ (by omega) (by omega) (by omega)]
          omega
        · rw [if_pos s0, if_pos s1, if_neg s2, if_neg hI, if_pos (by by_cases e : fmtHi i < fmtLo i; exact e; exact absurd (him.2 e) hI)]
          simp only [List.cons_append, List.nil_append, List.append_nil, List.foldl_cons, List.foldl_nil]
          rw [step_a ⟨a0, a1⟩ (by omega) (by omega) (by omega), step_b ⟨b0, b1⟩ (by omega) (by omega) (by omega)]
          omega
    · have zb' := zb s1
      have zc' := zc (by omega)
      by_cases hI : immB i = true
      · rw [if_pos s0, if_neg s1, if_neg (by omega), if_pos hI, if_neg (him.1 hI)]
        simp only [List.cons_append, List.nil_append, List.append_nil, List.foldl_cons, List.foldl_nil]
        rw [step_a ⟨a0, a1⟩ (by omega) (by omega) (by omega), step_m ⟨m0, m1⟩ (by omega) (by omega) (by omega)]
        omega
      · rw [if_pos s0, if_neg s1, if_neg (by omega), if_neg hI, if_pos (by by_cases e : fmtHi i < fmtLo i; exact e; exact absurd (him.2 e) hI)]
        simp only [List.append_nil, List.foldl_cons, List.foldl_nil]
        rw [step_a ⟨a0, a1⟩ (by omega) (by omega) (by omega)]
        omega
  · have za' := za s0
    have zb' := zb (by omega)
    have zc' := zc (by omega)
    by_cases hI : immB i = true
    · rw [if_neg s0, if_neg (by omega), if_neg (by omega), if_pos hI, if_neg (him.1 hI)]
      simp only [List.nil_append, List.append_nil, List.foldl_cons, List.foldl_nil]
      rw [step_m ⟨m0, m1⟩ (by omega) (by omega) (by omega)]
      omega
    · rw [if_neg s0, if_neg (by omega), if_neg (by omega), if_neg hI, if_pos (by by_cases e : fmtHi i < fmtLo i; exact e; exact absurd (him.2 e) hI)]
      simp only [List.append_nil, List.foldl_nil]
      omega
end Go.Proofs.Ytchmhnodcjidkaa
