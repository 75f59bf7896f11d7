/-
  The walks of isa.Writes, and of Reads and Writes of the reference.
-/
import Derived.Test.YtchmhnodcjidkaaB4
import Derived.Test.YtchmhnodcjidkaaW9
namespace Go.Proofs.Ytchmhnodcjidkaa
open Go.RowKit Go.Maps

/-- What Writes answers. -/
def wrB (op a b c m : Int) : Bool := validV op a b c m && !(wrS op).toList.isEmpty && !(a == 0)
def wrA (op a b c m : Int) : Int := if wrB op a b c m then a else 0

set_option maxRecDepth 100000 in
set_option maxHeartbeats 2000000 in
theorem writes_any (op a b c m : Int) (w : World) (h0 : 0 ≤ op) (h1 : op ≤ 255) :
    Calls Try.prog 34 #[.agg #[.int .u8 op, .int .i64 a, .int .i64 b, .int .i64 c, .int .i64 m]] w fun e w' => e = .returned (.tuple #[.int .i64 (wrA op a b c m), .bool (wrB op a b c m)]) ∧ Below w.heap.size w w' := by
  obtain ⟨vv, hv⟩ : ∃ vv, validV op a b c m = vv := ⟨_, rfl⟩
  have HB : Hid (wrB op a b c m = (vv && !(wrS op).toList.isEmpty && !(a == 0)) ∧ wrA op a b c m = if (vv && !(wrS op).toList.isEmpty && !(a == 0)) = true then a else 0) := by
    show _ ∧ _
    unfold wrA wrB
    rw [hv]
    exact ⟨rfl, rfl⟩
  have hI0 := holds_new w 23 (insCells op a b c m)
  have hB0 := (Below.refl w.heap.size w).alloc (Nat.le_refl _) (.cells (insCells op a b c m) 23)
  go_enter Try.func34, Try.ntmps34
  go_wp2_with fail
  refine (find_all op _ h0 h1).mono ?_
  rintro e w1 ⟨rfl, hb⟩
  have hI1 := hI0.after hb
  have hB1 := on hB0 hb
  have hsz := hI1.lt
  clear hI0 hB0 hb
  obtain ⟨j0, j1, j2, j3, j4⟩ := ins_cells hI1
  go_wp2_with fail
  refine (valid_any op a b c m _ h0 h1).mono ?_
  rintro e w2 ⟨rfl, hb⟩
  rw [hv]
  clear hv
  have hI2 := (hI1.alloc (.cells (rowCells op) 71)).after hb
  have cr : w2.cell? ⟨w1.heap.size, 5, none⟩ = some (.string (wrS op)) := ((holds_new w1 71 (rowCells op)).after hb).cell 5
  have hB2 := on (hB1.alloc hB1.size (.cells (rowCells op) 71)) hb
  clear hI1 hB1 hb j0 j1 j2 j3 j4 hsz
  obtain ⟨j0, j1, j2, j3, j4⟩ := ins_cells hI2
  clear j0 j2 j3 j4 hI2
  rcases vv with _ | _
  · go_wp2_with fail
    go_ret2
    exact ⟨by rw [HB.out.1, HB.out.2]; simp, hB2⟩
  · go_wp2_with fail
    all_goals
      go_ret2
      refine ⟨?_, hB2⟩
      rw [HB.out.1, HB.out.2]
      first
        | (have h : (wrS op).toList = [] := by assumption
           rw [h]; simp; done)
        | (have h : (wrS op).toList.isEmpty = true ∨ (a == 0) = true := by assumption
           rcases h with h | h <;> rw [h] <;> simp; done)
        | (have h : (wrS op).toList.isEmpty = false ∧ (a == 0) = false := by assumption
           rw [h.1, h.2]; simp; done)

/-- The opcodes that write, as the reference says it. -/
def wrOps (op : Int) : Bool := decide (2 ≤ op ∧ op ≤ 18 ∨ op = 20 ∨ op = 26)
def rwrV (op a b c m : Int) : Int := if rvalidV op a b c m && wrOps op then a else 0

set_option maxRecDepth 100000 in
set_option maxHeartbeats 2000000 in
theorem rwrites_any (op a b c m : Int) (w : World) (h0 : 0 ≤ op) (h1 : op ≤ 255) :
    Calls Try.prog 35 #[.agg #[.int .u8 op, .int .i64 a, .int .i64 b, .int .i64 c, .int .i64 m]] w fun e w' => e = .returned (.int .i64 (rwrV op a b c m)) ∧ Below w.heap.size w w' := by
  obtain ⟨vv, hv⟩ : ∃ vv, rvalidV op a b c m = vv := ⟨_, rfl⟩
  have HB : Hid (rwrV op a b c m = if vv && wrOps op then a else 0) := by
    show _ = _
    unfold rwrV
    rw [hv]
  have hI0 := holds_new w 23 (insCells op a b c m)
  have hB0 := (Below.refl w.heap.size w).alloc (Nat.le_refl _) (.cells (insCells op a b c m) 23)
  go_enter Try.func35, Try.ntmps35
  go_wp2_with fail
  refine (rvalid_any op a b c m _ h0 h1).mono ?_
  rintro e w1 ⟨rfl, hb⟩
  rw [hv]
  clear hv
  have hI1 := hI0.after hb
  have hB1 := on hB0 hb
  clear hI0 hB0 hb
  obtain ⟨j0, j1, j2, j3, j4⟩ := ins_cells hI1
  clear j2 j3 j4 hI1
  rcases vv with _ | _
  · go_wp2_with fail
    go_ret
    exact ⟨by rw [HB.out]; simp, hB1⟩
  · go_wp2_with fail
    all_goals
      go_ret
      refine ⟨?_, hB1⟩
      simp only [beq_iff_eq, beq_eq_false_iff_ne, ne_eq] at *
      rw [HB.out]
      unfold wrOps
      first
        | (rw [decide_eq_true (show 2 ≤ op ∧ op ≤ 18 ∨ op = 20 ∨ op = 26 by omega)]; exact rfl)
        | (rw [decide_eq_false (show ¬(2 ≤ op ∧ op ≤ 18 ∨ op = 20 ∨ op = 26) by omega)]; exact rfl)
end Go.Proofs.Ytchmhnodcjidkaa
