/-
  Plain: what Reads and Writes answer is what the reference answers.
-/
import Derived.Test.YtchmhnodcjidkaaB6
import Derived.Test.YtchmhnodcjidkaaL1
namespace Go.Proofs.Ytchmhnodcjidkaa
set_option linter.unusedSimpArgs false

theorem tab_reads : ∀ i : Nat, i < 30 → nums (rdS i) = (if rdA i = true then [97] else []) ++ (if 1 < (fmtS i).size then [98] else []) ++ (if 2 < (fmtS i).size then [99] else []) ∧
    (wrS i).toList.isEmpty = !wrOps i ∧ (rdA i = true → ¬ 2 < (fmtS i).size) := by decide +kernel

theorem one_law : ∀ x : Fin 16, del2 (cmp2 (srt2 [(x.val : Int)])) = ((List.range 15).map fun (i : Nat) => ((i : Int) + 1)).filter (fun r => (x.val : Int) == r) := by decide +kernel
theorem two_law : ∀ x y : Fin 16, del2 (cmp2 (srt2 [(x.val : Int), (y.val : Int)])) = ((List.range 15).map fun (i : Nat) => ((i : Int) + 1)).filter (fun r => ((x.val : Int) == r) || ((y.val : Int) == r)) := by decide +kernel

theorem one_int (x : Int) (h : 0 ≤ x ∧ x ≤ 15) : del2 (cmp2 (srt2 [x])) = ((List.range 15).map fun (i : Nat) => ((i : Int) + 1)).filter (fun r => x == r) := by
  have := one_law ⟨x.toNat, by omega⟩
  have e : ((x.toNat : Nat) : Int) = x := by omega
  simpa only [e] using this
theorem two_int (x y : Int) (h : 0 ≤ x ∧ x ≤ 15) (h' : 0 ≤ y ∧ y ≤ 15) : del2 (cmp2 (srt2 [x, y])) = ((List.range 15).map fun (i : Nat) => ((i : Int) + 1)).filter (fun r => (x == r) || (y == r)) := by
  have := two_law ⟨x.toNat, by omega⟩ ⟨y.toNat, by omega⟩
  have e : ((x.toNat : Nat) : Int) = x := by omega
  have e' : ((y.toNat : Nat) : Int) = y := by omega
  simpa only [e, e'] using this

theorem rdL_eq (op a b c m : Int) (h0 : 0 ≤ op) (h1 : op ≤ 255) : rrdL op a b c m = rdL op a b c m := by
  unfold rrdL rdL
  rw [rvalid_eq op a b c m h0 h1]
  by_cases hv : validV op a b c m = true
  · rw [if_pos hv, if_pos hv]
    obtain ⟨hop, a0, a1, b0, b1, c0, c1, _⟩ := valid_ranges h0 hv
    obtain ⟨i, rfl⟩ := Int.eq_ofNat_of_zero_le h0
    obtain ⟨t1, _, t3⟩ := tab_reads i (by omega)
    unfold rawL refL
    rw [t1]
    have e1 : (decide ((1 : Int) < ((fmtS i).size : Int))) = decide (1 < (fmtS i).size) := by rw [decide_eq_decide]; omega
    have e2 : (decide ((2 : Int) < ((fmtS i).size : Int))) = decide (2 < (fmtS i).size) := by rw [decide_eq_decide]; omega
    have hP : refP i a b c = fun r => (rdA i && (a == r)) || (decide (1 < (fmtS i).size) && (b == r)) || (decide (2 < (fmtS i).size) && (c == r)) := by
      funext r; unfold refP; rw [e1, e2]
    rw [hP]
    by_cases s8 : rdA i = true
    · have g2 := t3 s8
      by_cases g1 : 1 < (fmtS i).size
      · simp only [s8, g1, g2, if_true, if_false, decide_true, decide_false, Bool.true_and, Bool.false_and, Bool.or_false, List.append_nil, List.singleton_append, List.map_cons, List.map_nil]
        exact (two_int a b ⟨a0, a1⟩ ⟨b0, b1⟩).symm
      · simp only [s8, g1, g2, if_true, if_false, decide_true, decide_false, Bool.true_and, Bool.false_and, Bool.or_false, List.append_nil, List.singleton_append, List.map_cons, List.map_nil]
        exact (one_int a ⟨a0, a1⟩).symm
    · have s8' : rdA i = false := by simpa using s8
      by_cases g2 : 2 < (fmtS i).size
      · have g1 : 1 < (fmtS i).size := by omega
        simp only [s8', g1, g2, if_true, if_false, decide_true, decide_false, Bool.true_and, Bool.false_and, Bool.or_false, Bool.false_or, List.append_nil, List.nil_append, List.singleton_append, List.map_cons, List.map_nil, Bool.false_eq_true]
        exact (two_int b c ⟨b0, b1⟩ ⟨c0, c1⟩).symm
      · by_cases g1 : 1 < (fmtS i).size
        · simp only [s8', g1, g2, if_true, if_false, decide_true, decide_false, Bool.true_and, Bool.false_and, Bool.or_false, Bool.false_or, List.append_nil, List.nil_append, List.singleton_append, List.map_cons, List.map_nil, Bool.false_eq_true]
          exact (one_int b ⟨b0, b1⟩).symm
        · simp only [s8', g1, g2, if_true, if_false, decide_true, decide_false, Bool.true_and, Bool.false_and, Bool.or_false, Bool.false_or, List.append_nil, List.nil_append, List.singleton_append, List.map_cons, List.map_nil, Bool.false_eq_true]
          rfl
  · rw [if_neg hv, if_neg hv]

theorem wr_eq (op a b c m : Int) (h0 : 0 ≤ op) (h1 : op ≤ 255) : rwrV op a b c m = wrA op a b c m ∧ wrB op a b c m = !(wrA op a b c m == 0) ∧ (wrB op a b c m = true → wrA op a b c m = a ∧ 0 < a ∧ validV op a b c m = true) ∧ (wrB op a b c m = false → wrA op a b c m = 0) := by
  have hr := rvalid_eq op a b c m h0 h1
  unfold rwrV wrA wrB
  rw [hr]
  by_cases hv : validV op a b c m = true
  · obtain ⟨hop, a0, a1, _⟩ := valid_ranges h0 hv
    obtain ⟨i, rfl⟩ := Int.eq_ofNat_of_zero_le h0
    obtain ⟨_, t2, _⟩ := tab_reads i (by omega)
    rw [hv, t2]
    by_cases ho : wrOps i = true
    · by_cases hz : a = 0
      · subst hz; simp
      · simp [ho, hz]; omega
    · simp [ho]
  · have hv' : validV op a b c m = false := by simpa using hv
    simp [hv']

/-- What is known of the answer of Reads. -/
theorem rdL_facts (op a b c m : Int) (h0 : 0 ≤ op) (h1 : op ≤ 255) : (rdL op a b c m).length ≤ 2 ∧ (validV op a b c m = false → rdL op a b c m = []) ∧
    (∀ x ∈ rdL op a b c m, 1 ≤ x ∧ x < 16 ∧ (x = a ∨ x = b ∨ x = c)) ∧ (∀ j, j + 1 < (rdL op a b c m).length → (rdL op a b c m).getD j 0 < (rdL op a b c m).getD (j + 1) 0) := by
  have key : validV op a b c m = true → 0 ≤ a ∧ 0 ≤ b ∧ 0 ≤ c := fun hv => by
    obtain ⟨hop, a0, a1, b0, b1, c0, c1, _⟩ := valid_ranges h0 hv
    exact ⟨a0, b0, c0⟩
  refine ⟨?_, ?_, ?_, ?_⟩
  · unfold rdL
    split
    · next hv => exact (sorted_facts _ (by rw [rawL_length]; exact rd_short op) (raw_nonneg (key hv))).2.2.2.2
    · simp
  · intro hv; unfold rdL; rw [if_neg (by simp [hv])]
  · intro x hx
    rw [← rdL_eq op a b c m h0 h1] at hx
    unfold rrdL at hx
    split at hx
    · unfold refL at hx
      rw [List.mem_filter, List.mem_map] at hx
      obtain ⟨⟨i, hi, rfl⟩, hp⟩ := hx
      rw [List.mem_range] at hi
      refine ⟨by omega, by omega, ?_⟩
      unfold refP at hp
      simp only [Bool.or_eq_true, Bool.and_eq_true, beq_iff_eq] at hp
      rcases hp with (hp | hp) | hp
      · exact .inl hp.2.symm
      · exact .inr (.inl hp.2.symm)
      · exact .inr (.inr hp.2.symm)
    · simp at hx
  · intro j hj
    have hp : (rdL op a b c m).Pairwise (· < ·) := by
      rw [← rdL_eq op a b c m h0 h1]
      unfold rrdL
      split
      · unfold refL
        apply List.Pairwise.filter
        rw [List.pairwise_map]
        exact List.pairwise_lt_range.imp (fun h => by omega)
      · exact List.Pairwise.nil
    rw [List.getD_eq_getElem?_getD, List.getD_eq_getElem?_getD, List.getElem?_eq_getElem (by omega), List.getElem?_eq_getElem hj]
    exact List.pairwise_iff_getElem.1 hp j (j + 1) (by omega) hj (by omega)
end Go.Proofs.Ytchmhnodcjidkaa
