/-
  The walks of Hazard, Next, base and branch of pipeline and of the reference.
-/
import Derived.Test.YtchmhnodcjidkaaP1
import Derived.Test.YtchmhnodcjidkaaA5
namespace Go.Proofs.Ytchmhnodcjidkaa
open Go.RowKit Go.Maps

/-- Does the instruction read the register. -/
def hzV (s op a b c m : Int) : Bool := (rdL op a b c m).contains s

set_option maxRecDepth 100000 in
set_option maxHeartbeats 1000000 in
theorem hazard_any (s op a b c m : Int) (w : World) (h0 : 0 ≤ op) (h1 : op ≤ 255) :
    Calls Try.prog 41 #[.int .i64 s, .agg #[.int .u8 op, .int .i64 a, .int .i64 b, .int .i64 c, .int .i64 m]] w fun e w' => e = .returned (.bool (hzV s op a b c m)) ∧ Below w.heap.size w w' := by
  have hlen := (rdL_facts op a b c m h0 h1).1
  have hB0 := (Below.refl w.heap.size w).alloc (Nat.le_refl _) (.cells (insCells op a b c m) 23)
  go_enter Try.func41, Try.ntmps41
  go_wp2_with fail
  refine (reads_any op a b c m _ h0 h1).mono ?_
  rintro e w2 ⟨v2, rfl, hown, hb⟩
  have hB2 := on hB0 hb
  obtain ⟨ao, cap, rfl, hc⟩ := own_cells hown
  clear hB0 hb hown
  go_wp2_with fail
  refine (contains_any ao cap _ s _ hc (by omega)).mono ?_
  rintro e w3 ⟨rfl, rfl⟩
  go_wp2_with fail
  go_ret
  exact ⟨by show Ending.returned (Value.bool (decide (s ∈ rdL op a b c m))) = _; unfold hzV; simp, hB2⟩

set_option maxRecDepth 100000 in
set_option maxHeartbeats 1000000 in
theorem rhazard_any (s op a b c m : Int) (w : World) (h0 : 0 ≤ op) (h1 : op ≤ 255) :
    Calls Try.prog 42 #[.int .i64 s, .agg #[.int .u8 op, .int .i64 a, .int .i64 b, .int .i64 c, .int .i64 m]] w fun e w' => e = .returned (.bool (hzV s op a b c m)) ∧ Below w.heap.size w w' := by
  have hlen := (rdL_facts op a b c m h0 h1).1
  have HZ : Hid (hzV s op a b c m = (rdL op a b c m).contains s) := rfl
  have HR := Lib.hid (rdL_eq op a b c m h0 h1)
  have hB0 := (Below.refl w.heap.size w).alloc (Nat.le_refl _) (.cells (insCells op a b c m) 23)
  go_enter Try.func42, Try.ntmps42
  go_wp2_with fail
  refine (rreads_any op a b c m _ h0 h1).mono ?_
  rintro e w2 ⟨v2, rfl, hown, hb⟩
  rw [HR.out] at hown
  have hB2 := on hB0 hb
  obtain ⟨ao, cap, rfl, hc⟩ := own_cells hown
  clear hB0 hb hown HR
  generalize rdL op a b c m = L at *
  go_wp2_with fail
  go_loopw [6] (fun i wr => ∃ (k : Nat), k ≤ L.length ∧ i = .int .i64 (k : Int) ∧ (L.take k).contains s = false ∧ wr = w2) (fun i _ => L.length - (intOf i).toNat)
  case atStart => exact ⟨0, by omega, rfl, by simp, rfl⟩
  case round =>
    obtain ⟨k, hk, rfl, hno, rfl⟩ := hrel
    have HN := Lib.hid hno
    clear hno
    by_cases hlt : k < L.length
    · obtain ⟨g, rfl, _, hg⟩ := hc k hlt
      have c1 := hg k hlt
      have HS := Lib.hid (contains_take_succ L s k hlt)
      obtain ⟨r, hr⟩ : ∃ r, L.getD k 0 = r := ⟨_, rfl⟩
      rw [hr] at c1
      have HRk := Lib.hid hr
      clear hr hg hc
      by_cases e1 : (r == s) = true
      · go_wp2_with fail
        go_ret
        refine ⟨?_, hB2⟩
        have h1 := HS.out
        rw [HRk.out, show (s == r) = true by rw [beq_iff_eq] at e1 ⊢; exact e1.symm, Bool.or_true] at h1
        have h2 : s ∈ L := List.mem_of_mem_take (List.contains_iff_mem.1 h1)
        rw [HZ.out, List.contains_iff_mem.2 h2]
        rfl
      · replace e1 : (r == s) = false := by simpa using e1
        go_wp2_with fail
        go_roundw
        case rel => exact ⟨k + 1, by omega, by go_num, by rw [HS.out, HRk.out, show (s == r) = false by rw [beq_eq_false_iff_ne] at e1 ⊢; exact fun h => e1 h.symm, HN.out]; rfl, trivial⟩
        case measure => simp [intOf]; omega
    · obtain rfl : k = L.length := by omega
      go_wp2_with fail
      go_ret
      refine ⟨?_, hB2⟩
      have := HN.out
      rw [List.take_length] at this
      rw [HZ.out, this]; rfl

/-- The loads. -/
def ldB (op : Int) : Bool := op == 18 || op == 20 || op == 26
/-- The state behind an instruction. -/
def nxtV (op a b c m : Int) : Int := if ldB op then wrA op a b c m else 0

set_option maxRecDepth 100000 in
set_option maxHeartbeats 1000000 in
theorem next_any (op a b c m : Int) (w : World) (h0 : 0 ≤ op) (h1 : op ≤ 255) :
    Calls Try.prog 39 #[.agg #[.int .u8 op, .int .i64 a, .int .i64 b, .int .i64 c, .int .i64 m]] w fun e w' => e = .returned (.int .i64 (nxtV op a b c m)) ∧ Below w.heap.size w w' := by
  have hI0 := holds_new w 23 (insCells op a b c m)
  have hB0 := (Below.refl w.heap.size w).alloc (Nat.le_refl _) (.cells (insCells op a b c m) 23)
  have HL : Hid (nxtV op a b c m = if (op == 18 || op == 20 || op == 26) = true then wrA op a b c m else 0) := rfl
  by_cases q0 : (op == 18) = true
  · have HE : Hid (nxtV op a b c m = wrA op a b c m) := by show _ = _; rw [HL.out, q0]; simp
    have f0 : (op != 18) = false := by simp [bne, q0]
    clear q0 HL
    go_enter Try.func39, Try.ntmps39
    go_wp2_with fail
    refine (writes_any op a b c m _ h0 h1).mono ?_
    rintro e w1 ⟨rfl, hb⟩
    have hB1 := on hB0 hb
    go_wp2_with fail
    go_ret
    exact ⟨by rw [HE.out]; rfl, hB1⟩
  replace q0 : (op == 18) = false := by simpa using q0
  by_cases q1 : (op == 20) = true
  · have HE : Hid (nxtV op a b c m = wrA op a b c m) := by show _ = _; rw [HL.out, q1]; simp
    have f1 : (op != 20) = false := by simp [bne, q1]
    clear q1 HL
    have f0 : (op != 18) = true := by simp [bne, q0]
    clear q0
    go_enter Try.func39, Try.ntmps39
    go_wp2_with fail
    refine (writes_any op a b c m _ h0 h1).mono ?_
    rintro e w1 ⟨rfl, hb⟩
    have hB1 := on hB0 hb
    go_wp2_with fail
    go_ret
    exact ⟨by rw [HE.out]; rfl, hB1⟩
  replace q1 : (op == 20) = false := by simpa using q1
  by_cases q2 : (op == 26) = true
  · have HE : Hid (nxtV op a b c m = wrA op a b c m) := by show _ = _; rw [HL.out, q2]; simp
    have f2 : (op != 26) = false := by simp [bne, q2]
    clear q2 HL
    have f0 : (op != 18) = true := by simp [bne, q0]
    clear q0
    have f1 : (op != 20) = true := by simp [bne, q1]
    clear q1
    go_enter Try.func39, Try.ntmps39
    go_wp2_with fail
    refine (writes_any op a b c m _ h0 h1).mono ?_
    rintro e w1 ⟨rfl, hb⟩
    have hB1 := on hB0 hb
    go_wp2_with fail
    go_ret
    exact ⟨by rw [HE.out]; rfl, hB1⟩
  replace q2 : (op == 26) = false := by simpa using q2
  have HE : Hid (nxtV op a b c m = 0) := by show _ = _; rw [HL.out, q0, q1, q2]; rfl
  have f0 : (op != 18) = true := by simp [bne, q0]
  have f1 : (op != 20) = true := by simp [bne, q1]
  have f2 : (op != 26) = true := by simp [bne, q2]
  clear q0 q1 q2
  clear HL
  go_enter Try.func39, Try.ntmps39
  go_wp2_with fail
  go_ret
  exact ⟨by rw [HE.out]; rfl, hB0⟩

set_option maxRecDepth 100000 in
set_option maxHeartbeats 1000000 in
theorem rnext_any (op a b c m : Int) (w : World) (h0 : 0 ≤ op) (h1 : op ≤ 255) :
    Calls Try.prog 40 #[.agg #[.int .u8 op, .int .i64 a, .int .i64 b, .int .i64 c, .int .i64 m]] w fun e w' => e = .returned (.int .i64 (nxtV op a b c m)) ∧ Below w.heap.size w w' := by
  have hI0 := holds_new w 23 (insCells op a b c m)
  have hB0 := (Below.refl w.heap.size w).alloc (Nat.le_refl _) (.cells (insCells op a b c m) 23)
  have HL : Hid (nxtV op a b c m = if (op == 18 || op == 20 || op == 26) = true then wrA op a b c m else 0) := rfl
  have HR := Lib.hid (wr_eq op a b c m h0 h1).1
  by_cases q0 : (op == 18) = true
  · have HE : Hid (nxtV op a b c m = wrA op a b c m) := by show _ = _; rw [HL.out, q0]; simp
    clear HL
    go_enter Try.func40, Try.ntmps40
    go_wp2_with fail
    refine (rwrites_any op a b c m _ h0 h1).mono ?_
    rintro e w1 ⟨rfl, hb⟩
    rw [HR.out]
    have hB1 := on hB0 hb
    go_wp2_with fail
    go_ret
    exact ⟨by rw [HE.out]; rfl, hB1⟩
  replace q0 : (op == 18) = false := by simpa using q0
  by_cases q1 : (op == 20) = true
  · have HE : Hid (nxtV op a b c m = wrA op a b c m) := by show _ = _; rw [HL.out, q1]; simp
    clear HL
    go_enter Try.func40, Try.ntmps40
    go_wp2_with fail
    refine (rwrites_any op a b c m _ h0 h1).mono ?_
    rintro e w1 ⟨rfl, hb⟩
    rw [HR.out]
    have hB1 := on hB0 hb
    go_wp2_with fail
    go_ret
    exact ⟨by rw [HE.out]; rfl, hB1⟩
  replace q1 : (op == 20) = false := by simpa using q1
  by_cases q2 : (op == 26) = true
  · have HE : Hid (nxtV op a b c m = wrA op a b c m) := by show _ = _; rw [HL.out, q2]; simp
    clear HL
    go_enter Try.func40, Try.ntmps40
    go_wp2_with fail
    refine (rwrites_any op a b c m _ h0 h1).mono ?_
    rintro e w1 ⟨rfl, hb⟩
    rw [HR.out]
    have hB1 := on hB0 hb
    go_wp2_with fail
    go_ret
    exact ⟨by rw [HE.out]; rfl, hB1⟩
  replace q2 : (op == 26) = false := by simpa using q2
  have HE : Hid (nxtV op a b c m = 0) := by show _ = _; rw [HL.out, q0, q1, q2]; rfl
  clear HL
  go_enter Try.func40, Try.ntmps40
  go_wp2_with fail
  go_ret
  exact ⟨by rw [HE.out]; rfl, hB0⟩

/-- The time without hazard and branch. -/
def baseV (x y op : Int) : Int := if op = 4 then 1 + x else if op = 5 ∨ op = 6 then 1 + y else 1
theorem baseV_range {x y op : Int} (hx : 0 ≤ x ∧ x ≤ 1000) (hy : 0 ≤ y ∧ y ≤ 1000) : 1 ≤ baseV x y op ∧ baseV x y op ≤ 1001 := by
  unfold baseV; split
  · omega
  · split <;> omega

set_option maxRecDepth 100000 in
set_option maxHeartbeats 1000000 in
theorem base_any (x y z u op a b c m : Int) (w : World) (hx : 0 ≤ x ∧ x ≤ 1000) (hy : 0 ≤ y ∧ y ≤ 1000) :
    Calls Try.prog 64 #[.agg #[.int .i64 x, .int .i64 y, .int .i64 z, .int .i64 u], .agg #[.int .u8 op, .int .i64 a, .int .i64 b, .int .i64 c, .int .i64 m]] w fun e w' => e = .returned (.int .i64 (baseV x y op)) ∧ Below w.heap.size w w' := by
  have hB0 := (Below.refl w.heap.size w).alloc (Nat.le_refl _) (.cells (timCells x y z u) 49)
  have hB1 := hB0.alloc hB0.size (.cells (insCells op a b c m) 23)
  by_cases q0 : (op == 4) = true
  · have HE : Hid (baseV x y op = 1 + x) := by show _ = _; unfold baseV; rw [if_pos (by simpa using q0)]
    go_enter Try.func64, Try.ntmps64
    go_wp2_with fail
    go_ret
    exact ⟨by rw [HE.out]; exact congrArg Ending.returned (congrArg (Value.int .i64) (by go_num)), hB1⟩
  replace q0 : (op == 4) = false := by simpa using q0
  by_cases q1 : (op == 5) = true
  · have HE : Hid (baseV x y op = 1 + y) := by show _ = _; unfold baseV; rw [if_neg (by simpa using q0), if_pos (.inl (by simpa using q1))]
    go_enter Try.func64, Try.ntmps64
    go_wp2_with fail
    go_ret
    exact ⟨by rw [HE.out]; exact congrArg Ending.returned (congrArg (Value.int .i64) (by go_num)), hB1⟩
  replace q1 : (op == 5) = false := by simpa using q1
  by_cases q2 : (op == 6) = true
  · have HE : Hid (baseV x y op = 1 + y) := by show _ = _; unfold baseV; rw [if_neg (by simpa using q0), if_pos (.inr (by simpa using q2))]
    go_enter Try.func64, Try.ntmps64
    go_wp2_with fail
    go_ret
    exact ⟨by rw [HE.out]; exact congrArg Ending.returned (congrArg (Value.int .i64) (by go_num)), hB1⟩
  replace q2 : (op == 6) = false := by simpa using q2
  have HE : Hid (baseV x y op = 1) := by show _ = _; unfold baseV; rw [if_neg (by simpa using q0), if_neg (by simp only [beq_eq_false_iff_ne, ne_eq] at q1 q2; omega)]
  go_enter Try.func64, Try.ntmps64
  go_wp2_with fail
  go_ret
  exact ⟨by rw [HE.out]; rfl, hB1⟩

set_option maxRecDepth 100000 in
set_option maxHeartbeats 1000000 in
theorem rbase_any (x y z u op a b c m : Int) (w : World) (hx : 0 ≤ x ∧ x ≤ 1000) (hy : 0 ≤ y ∧ y ≤ 1000) :
    Calls Try.prog 65 #[.agg #[.int .i64 x, .int .i64 y, .int .i64 z, .int .i64 u], .agg #[.int .u8 op, .int .i64 a, .int .i64 b, .int .i64 c, .int .i64 m]] w fun e w' => e = .returned (.int .i64 (baseV x y op)) ∧ Below w.heap.size w w' := by
  have hB0 := (Below.refl w.heap.size w).alloc (Nat.le_refl _) (.cells (timCells x y z u) 49)
  have hB1 := hB0.alloc hB0.size (.cells (insCells op a b c m) 23)
  by_cases q0 : (op == 4) = true
  · have HE : Hid (baseV x y op = 1 + x) := by show _ = _; unfold baseV; rw [if_pos (by simpa using q0)]
    go_enter Try.func65, Try.ntmps65
    go_wp2_with fail
    go_ret
    exact ⟨by rw [HE.out]; exact congrArg Ending.returned (congrArg (Value.int .i64) (by go_num)), hB1⟩
  replace q0 : (op == 4) = false := by simpa using q0
  by_cases q1 : (op == 5) = true
  · have HE : Hid (baseV x y op = 1 + y) := by show _ = _; unfold baseV; rw [if_neg (by simpa using q0), if_pos (.inl (by simpa using q1))]
    go_enter Try.func65, Try.ntmps65
    go_wp2_with fail
    go_ret
    exact ⟨by rw [HE.out]; exact congrArg Ending.returned (congrArg (Value.int .i64) (by go_num)), hB1⟩
  replace q1 : (op == 5) = false := by simpa using q1
  by_cases q2 : (op == 6) = true
  · have HE : Hid (baseV x y op = 1 + y) := by show _ = _; unfold baseV; rw [if_neg (by simpa using q0), if_pos (.inr (by simpa using q2))]
    go_enter Try.func65, Try.ntmps65
    go_wp2_with fail
    go_ret
    exact ⟨by rw [HE.out]; exact congrArg Ending.returned (congrArg (Value.int .i64) (by go_num)), hB1⟩
  replace q2 : (op == 6) = false := by simpa using q2
  have HE : Hid (baseV x y op = 1) := by show _ = _; unfold baseV; rw [if_neg (by simpa using q0), if_neg (by simp only [beq_eq_false_iff_ne, ne_eq] at q1 q2; omega)]
  go_enter Try.func65, Try.ntmps65
  go_wp2_with fail
  go_ret
  exact ⟨by rw [HE.out]; rfl, hB1⟩

set_option maxRecDepth 100000 in
set_option maxHeartbeats 1000000 in
theorem branch_any (op : Int) (w : World) : Calls Try.prog 66 #[.int .u8 op] w fun e w' => e = .returned (.bool (brB op)) ∧ w = w' := by
  by_cases q0 : (op == 22) = true
  · have HE : Hid (brB op = true) := by show _ = _; unfold brB; rw [decide_eq_true_iff]; rw [beq_iff_eq] at q0; omega
    go_enter Try.func66, Try.ntmps66
    go_wp2_with fail
    go_ret
    exact ⟨by rw [HE.out]; rfl, rfl⟩
  replace q0 : (op == 22) = false := by simpa using q0
  by_cases q1 : (op == 23) = true
  · have HE : Hid (brB op = true) := by show _ = _; unfold brB; rw [decide_eq_true_iff]; rw [beq_iff_eq] at q1; omega
    go_enter Try.func66, Try.ntmps66
    go_wp2_with fail
    go_ret
    exact ⟨by rw [HE.out]; rfl, rfl⟩
  replace q1 : (op == 23) = false := by simpa using q1
  by_cases q2 : (op == 24) = true
  · have HE : Hid (brB op = true) := by show _ = _; unfold brB; rw [decide_eq_true_iff]; rw [beq_iff_eq] at q2; omega
    go_enter Try.func66, Try.ntmps66
    go_wp2_with fail
    go_ret
    exact ⟨by rw [HE.out]; rfl, rfl⟩
  replace q2 : (op == 24) = false := by simpa using q2
  have HE : Hid (brB op = false) := by show _ = _; unfold brB; rw [decide_eq_false_iff_not]; simp only [beq_eq_false_iff_ne, ne_eq] at q0 q1 q2; omega
  go_enter Try.func66, Try.ntmps66
  go_wp2_with fail
  go_ret
  exact ⟨by rw [HE.out]; rfl, rfl⟩
end Go.Proofs.Ytchmhnodcjidkaa
