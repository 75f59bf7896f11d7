/-
  The walks of Cycles, Most and Least of pipeline and of the reference.
-/
import Derived.Test.YtchmhnodcjidkaaP2
namespace Go.Proofs.Ytchmhnodcjidkaa
open Go.RowKit Go.Maps

/-- The ranges of a valid timing. -/
def TimOk (x y z u : Int) : Prop := (0 ≤ x ∧ x ≤ 1000) ∧ (0 ≤ y ∧ y ≤ 1000) ∧ (0 ≤ z ∧ z ≤ 1000) ∧ (0 ≤ u ∧ u ≤ 1000)
theorem timOk_of {x y z u : Int} (h : okT x y z u = true) : TimOk x y z u := by
  have := okT_range h
  unfold TimOk; omega

/-- The time of an instruction. -/
def cycV (x y z u s op a b c m : Int) (tk : Bool) : Int := baseV x y op + (if hzV s op a b c m = true then u else 0) + (if (tk && brB op) = true then z else 0)
theorem cycV_range {x y z u s op a b c m : Int} {tk : Bool} (ht : TimOk x y z u) : 1 ≤ cycV x y z u s op a b c m tk ∧ cycV x y z u s op a b c m tk ≤ 3001 := by
  obtain ⟨hx, hy, hz, hu⟩ := ht
  have := baseV_range (op := op) hx hy
  unfold cycV
  split <;> split <;> omega

set_option maxRecDepth 100000 in
set_option maxHeartbeats 1000000 in
theorem cycles_any (x y z u s op a b c m : Int) (tk : Bool) (w : World) (ht : TimOk x y z u) (h0 : 0 ≤ op) (h1 : op ≤ 255) :
    Calls Try.prog 44 #[.agg #[.int .i64 x, .int .i64 y, .int .i64 z, .int .i64 u], .int .i64 s, .agg #[.int .u8 op, .int .i64 a, .int .i64 b, .int .i64 c, .int .i64 m], .bool tk] w fun e w' => e = .returned (.int .i64 (cycV x y z u s op a b c m tk)) ∧ Below w.heap.size w w' := by
  obtain ⟨hx, hy, hz, hu⟩ := ht
  have hbr := baseV_range (op := op) hx hy
  have HC : Hid (cycV x y z u s op a b c m tk = baseV x y op + (if hzV s op a b c m = true then u else 0) + (if (tk && brB op) = true then z else 0)) := rfl
  have hT0 := holds_new w 49 (timCells x y z u)
  have hB0 := (Below.refl w.heap.size w).alloc (Nat.le_refl _) (.cells (timCells x y z u) 49)
  have hI0 := holds_new (w.alloc (.cells (timCells x y z u) 49)) 23 (insCells op a b c m)
  rw [World.size_alloc] at hI0
  have hT1 := hT0.alloc (.cells (insCells op a b c m) 23)
  have hB1 := hB0.alloc hB0.size (.cells (insCells op a b c m) 23)
  clear hT0 hB0
  go_enter Try.func44, Try.ntmps44
  go_wp2_with fail
  refine (base_any x y z u op a b c m _ hx hy).mono ?_
  rintro e w1 ⟨rfl, hb⟩
  have hT2 := hT1.after hb
  have hI2 := hI0.after hb
  have hB2 := on hB1 hb
  clear hT1 hI0 hB1 hb
  obtain ⟨i0, i1, i2, i3, i4⟩ := ins_cells hI2
  obtain ⟨t0, t1, t2, t3⟩ := tim_cells hT2
  generalize baseV x y op = bv at *
  go_wp2_with fail
  refine (hazard_any s op a b c m _ h0 h1).mono ?_
  rintro e w2 ⟨rfl, hb⟩
  have hT3 := hT2.after hb
  have hI3 := hI2.after hb
  have hB3 := on hB2 hb
  clear hT2 hI2 hB2 hb i0 i1 i2 i3 i4 t0 t1 t2 t3
  obtain ⟨i0, i1, i2, i3, i4⟩ := ins_cells hI3
  obtain ⟨t0, t1, t2, t3⟩ := tim_cells hT3
  generalize hzV s op a b c m = hv at *
  rcases hv with _ | _
  · rcases tk with _ | _
    · go_wp2_with fail
      go_ret
      refine ⟨?_, hB3⟩
      rw [HC.out]
      exact congrArg Ending.returned (congrArg (Value.int .i64) (by simp; try go_num))
    · go_wp2_with fail
      refine (isbranch_any op _).mono ?_
      rintro e w3 ⟨rfl, rfl⟩
      generalize brB op = bb at *
      rcases bb with _ | _
      · go_wp2_with fail
        go_ret
        refine ⟨?_, hB3⟩
        rw [HC.out]
        exact congrArg Ending.returned (congrArg (Value.int .i64) (by simp; try go_num))
      · go_wp2_with fail
        go_ret
        refine ⟨?_, hB3⟩
        rw [HC.out]
        exact congrArg Ending.returned (congrArg (Value.int .i64) (by simp; try go_num))
  · rcases tk with _ | _
    · go_wp2_with fail
      go_ret
      refine ⟨?_, hB3⟩
      rw [HC.out]
      exact congrArg Ending.returned (congrArg (Value.int .i64) (by simp; try go_num))
    · go_wp2_with fail
      refine (isbranch_any op _).mono ?_
      rintro e w3 ⟨rfl, rfl⟩
      generalize brB op = bb at *
      rcases bb with _ | _
      · go_wp2_with fail
        go_ret
        refine ⟨?_, hB3⟩
        rw [HC.out]
        exact congrArg Ending.returned (congrArg (Value.int .i64) (by simp; try go_num))
      · go_wp2_with fail
        go_ret
        refine ⟨?_, hB3⟩
        rw [HC.out]
        exact congrArg Ending.returned (congrArg (Value.int .i64) (by simp; try go_num))

set_option maxRecDepth 100000 in
set_option maxHeartbeats 1000000 in
theorem rcycles_any (x y z u s op a b c m : Int) (tk : Bool) (w : World) (ht : TimOk x y z u) (h0 : 0 ≤ op) (h1 : op ≤ 255) :
    Calls Try.prog 46 #[.agg #[.int .i64 x, .int .i64 y, .int .i64 z, .int .i64 u], .int .i64 s, .agg #[.int .u8 op, .int .i64 a, .int .i64 b, .int .i64 c, .int .i64 m], .bool tk] w fun e w' => e = .returned (.int .i64 (cycV x y z u s op a b c m tk)) ∧ Below w.heap.size w w' := by
  obtain ⟨hx, hy, hz, hu⟩ := ht
  have hbr := baseV_range (op := op) hx hy
  have HC : Hid (cycV x y z u s op a b c m tk = baseV x y op + (if hzV s op a b c m = true then u else 0) + (if (tk && brB op) = true then z else 0)) := rfl
  have hT0 := holds_new w 49 (timCells x y z u)
  have hB0 := (Below.refl w.heap.size w).alloc (Nat.le_refl _) (.cells (timCells x y z u) 49)
  have hI0 := holds_new (w.alloc (.cells (timCells x y z u) 49)) 23 (insCells op a b c m)
  rw [World.size_alloc] at hI0
  have hT1 := hT0.alloc (.cells (insCells op a b c m) 23)
  have hB1 := hB0.alloc hB0.size (.cells (insCells op a b c m) 23)
  clear hT0 hB0
  go_enter Try.func46, Try.ntmps46
  go_wp2_with fail
  refine (rbase_any x y z u op a b c m _ hx hy).mono ?_
  rintro e w1 ⟨rfl, hb⟩
  have hT2 := hT1.after hb
  have hI2 := hI0.after hb
  have hB2 := on hB1 hb
  clear hT1 hI0 hB1 hb
  obtain ⟨i0, i1, i2, i3, i4⟩ := ins_cells hI2
  obtain ⟨t0, t1, t2, t3⟩ := tim_cells hT2
  generalize baseV x y op = bv at *
  go_wp2_with fail
  refine (rhazard_any s op a b c m _ h0 h1).mono ?_
  rintro e w2 ⟨rfl, hb⟩
  have hT3 := hT2.after hb
  have hI3 := hI2.after hb
  have hB3 := on hB2 hb
  clear hT2 hI2 hB2 hb i0 i1 i2 i3 i4 t0 t1 t2 t3
  obtain ⟨i0, i1, i2, i3, i4⟩ := ins_cells hI3
  obtain ⟨t0, t1, t2, t3⟩ := tim_cells hT3
  generalize hzV s op a b c m = hv at *
  rcases hv with _ | _
  · rcases tk with _ | _
    · go_wp2_with fail
      go_ret
      refine ⟨?_, hB3⟩
      rw [HC.out]
      exact congrArg Ending.returned (congrArg (Value.int .i64) (by simp; try go_num))
    · go_wp2_with fail
      refine (branch_any op _).mono ?_
      rintro e w3 ⟨rfl, rfl⟩
      generalize brB op = bb at *
      rcases bb with _ | _
      · go_wp2_with fail
        go_ret
        refine ⟨?_, hB3⟩
        rw [HC.out]
        exact congrArg Ending.returned (congrArg (Value.int .i64) (by simp; try go_num))
      · go_wp2_with fail
        go_ret
        refine ⟨?_, hB3⟩
        rw [HC.out]
        exact congrArg Ending.returned (congrArg (Value.int .i64) (by simp; try go_num))
  · rcases tk with _ | _
    · go_wp2_with fail
      go_ret
      refine ⟨?_, hB3⟩
      rw [HC.out]
      exact congrArg Ending.returned (congrArg (Value.int .i64) (by simp; try go_num))
    · go_wp2_with fail
      refine (branch_any op _).mono ?_
      rintro e w3 ⟨rfl, rfl⟩
      generalize brB op = bb at *
      rcases bb with _ | _
      · go_wp2_with fail
        go_ret
        refine ⟨?_, hB3⟩
        rw [HC.out]
        exact congrArg Ending.returned (congrArg (Value.int .i64) (by simp; try go_num))
      · go_wp2_with fail
        go_ret
        refine ⟨?_, hB3⟩
        rw [HC.out]
        exact congrArg Ending.returned (congrArg (Value.int .i64) (by simp; try go_num))

/-- The greatest time of an instruction. -/
def mostV (x y z u op a b c m : Int) : Int := baseV x y op + (if (rdL op a b c m).length = 0 then 0 else u) + (if brB op = true then z else 0)
theorem haz_zero (op a b c m : Int) (h0 : 0 ≤ op) (h1 : op ≤ 255) : hzV 0 op a b c m = false := by
  unfold hzV
  cases h : (rdL op a b c m).contains 0 with
  | false => rfl
  | true =>
    have := (rdL_facts op a b c m h0 h1).2.2.1 0 (List.contains_iff_mem.1 h)
    omega
theorem cyc_zero (x y z u op a b c m : Int) (h0 : 0 ≤ op) (h1 : op ≤ 255) : cycV x y z u 0 op a b c m true = baseV x y op + (if brB op = true then z else 0) := by
  unfold cycV; rw [haz_zero op a b c m h0 h1]; simp
theorem mostV_range {x y z u op a b c m : Int} (ht : TimOk x y z u) : 1 ≤ mostV x y z u op a b c m ∧ mostV x y z u op a b c m ≤ 3001 := by
  obtain ⟨hx, hy, hz, hu⟩ := ht
  have := baseV_range (op := op) hx hy
  unfold mostV
  split <;> split <;> omega

set_option maxRecDepth 100000 in
set_option maxHeartbeats 1000000 in
theorem most_any (x y z u op a b c m : Int) (w : World) (ht : TimOk x y z u) (h0 : 0 ≤ op) (h1 : op ≤ 255) :
    Calls Try.prog 47 #[.agg #[.int .i64 x, .int .i64 y, .int .i64 z, .int .i64 u], .agg #[.int .u8 op, .int .i64 a, .int .i64 b, .int .i64 c, .int .i64 m]] w fun e w' => e = .returned (.int .i64 (mostV x y z u op a b c m)) ∧ Below w.heap.size w w' := by
  have HM : Hid (mostV x y z u op a b c m = baseV x y op + (if (rdL op a b c m).length = 0 then 0 else u) + (if brB op = true then z else 0)) := rfl
  have HZ := Lib.hid (cyc_zero x y z u op a b c m h0 h1)
  have hcr := cycV_range (s := 0) (op := op) (a := a) (b := b) (c := c) (m := m) (tk := true) ht
  have hu := ht.2.2.2
  have hlen := (rdL_facts op a b c m h0 h1).1
  have hT0 := holds_new w 49 (timCells x y z u)
  have hB0 := (Below.refl w.heap.size w).alloc (Nat.le_refl _) (.cells (timCells x y z u) 49)
  have hI0 := holds_new (w.alloc (.cells (timCells x y z u) 49)) 23 (insCells op a b c m)
  rw [World.size_alloc] at hI0
  have hT1 := hT0.alloc (.cells (insCells op a b c m) 23)
  have hB1 := hB0.alloc hB0.size (.cells (insCells op a b c m) 23)
  clear hT0 hB0
  go_enter Try.func47, Try.ntmps47
  go_wp2_with fail
  refine (cycles_any x y z u 0 op a b c m true _ ht h0 h1).mono ?_
  rintro e w1 ⟨rfl, hb⟩
  have hT2 := hT1.after hb
  have hI2 := hI0.after hb
  have hB2 := on hB1 hb
  clear hT1 hI0 hB1 hb
  obtain ⟨i0, i1, i2, i3, i4⟩ := ins_cells hI2
  generalize cycV x y z u 0 op a b c m true = cv at *
  go_wp2_with fail
  refine (reads_any op a b c m _ h0 h1).mono ?_
  rintro e w2 ⟨v2, rfl, hown, hb⟩
  have hT3 := hT2.after hb
  have hB3 := on hB2 hb
  obtain ⟨ao, cap, rfl, hc⟩ := own_cells hown
  clear hT2 hI2 hB2 hb i0 i1 i2 i3 i4 hown hc
  obtain ⟨t0, t1, t2, t3⟩ := tim_cells hT3
  generalize (rdL op a b c m).length = n at *
  by_cases hn : n = 0
  · subst hn
    go_wp2_with fail
    go_ret
    refine ⟨?_, hB3⟩
    rw [HM.out]
    have := HZ.out
    exact congrArg Ending.returned (congrArg (Value.int .i64) (by rw [this]; simp))
  · have hn1 : (0 : Int) < (n : Int) := by omega
    have hn2 : 0 < n := by omega
    go_wp2_with fail
    go_ret
    refine ⟨?_, hB3⟩
    rw [HM.out, if_neg hn]
    have := HZ.out
    exact congrArg Ending.returned (congrArg (Value.int .i64) (by omega))

set_option maxRecDepth 100000 in
set_option maxHeartbeats 1000000 in
theorem rmost_any (x y z u op a b c m : Int) (w : World) (ht : TimOk x y z u) (h0 : 0 ≤ op) (h1 : op ≤ 255) :
    Calls Try.prog 48 #[.agg #[.int .i64 x, .int .i64 y, .int .i64 z, .int .i64 u], .agg #[.int .u8 op, .int .i64 a, .int .i64 b, .int .i64 c, .int .i64 m]] w fun e w' => e = .returned (.int .i64 (mostV x y z u op a b c m)) ∧ Below w.heap.size w w' := by
  have HM : Hid (mostV x y z u op a b c m = baseV x y op + (if (rdL op a b c m).length = 0 then 0 else u) + (if brB op = true then z else 0)) := rfl
  have HR := Lib.hid (rdL_eq op a b c m h0 h1)
  have hu := ht.2.2.2
  have hz := ht.2.2.1
  have hbr := baseV_range (op := op) ht.1 ht.2.1
  have hlen := (rdL_facts op a b c m h0 h1).1
  have hT0 := holds_new w 49 (timCells x y z u)
  have hB0 := (Below.refl w.heap.size w).alloc (Nat.le_refl _) (.cells (timCells x y z u) 49)
  have hI0 := holds_new (w.alloc (.cells (timCells x y z u) 49)) 23 (insCells op a b c m)
  rw [World.size_alloc] at hI0
  have hT1 := hT0.alloc (.cells (insCells op a b c m) 23)
  have hB1 := hB0.alloc hB0.size (.cells (insCells op a b c m) 23)
  clear hT0 hB0
  go_enter Try.func48, Try.ntmps48
  go_wp2_with fail
  refine (rbase_any x y z u op a b c m _ ht.1 ht.2.1).mono ?_
  rintro e w1 ⟨rfl, hb⟩
  have hT2 := hT1.after hb
  have hI2 := hI0.after hb
  have hB2 := on hB1 hb
  clear hT1 hI0 hB1 hb
  obtain ⟨i0, i1, i2, i3, i4⟩ := ins_cells hI2
  generalize baseV x y op = bv at *
  go_wp2_with fail
  refine (rreads_any op a b c m _ h0 h1).mono ?_
  rintro e w2 ⟨v2, rfl, hown, hb⟩
  rw [HR.out] at hown
  have hT3 := hT2.after hb
  have hI3 := hI2.after hb
  have hB3 := on hB2 hb
  obtain ⟨ao, cap, rfl, hc⟩ := own_cells hown
  clear hT2 hI2 hB2 hb i0 i1 i2 i3 i4 hown hc HR
  obtain ⟨t0, t1, t2, t3⟩ := tim_cells hT3
  obtain ⟨i0, i1, i2, i3, i4⟩ := ins_cells hI3
  generalize (rdL op a b c m).length = n at *
  by_cases hn : n = 0
  · subst hn
    go_wp2_with fail
    refine (branch_any op _).mono ?_
    rintro e w3 ⟨rfl, rfl⟩
    generalize brB op = bb at *
    rcases bb with _ | _
    · go_wp2_with fail
      go_ret
      refine ⟨?_, hB3⟩
      rw [HM.out]
      exact congrArg Ending.returned (congrArg (Value.int .i64) (by simp))
    · go_wp2_with fail
      go_ret
      refine ⟨?_, hB3⟩
      rw [HM.out]
      exact congrArg Ending.returned (congrArg (Value.int .i64) (by simp))
  · have hn1 : (0 : Int) < (n : Int) := by omega
    have hn2 : 0 < n := by omega
    have HN := Lib.hid hn
    clear hn
    go_wp2_with fail
    refine (branch_any op _).mono ?_
    rintro e w3 ⟨rfl, rfl⟩
    generalize brB op = bb at *
    rcases bb with _ | _
    · go_wp2_with fail
      go_ret
      refine ⟨?_, hB3⟩
      rw [HM.out, if_neg HN.out]
      exact congrArg Ending.returned (congrArg (Value.int .i64) (by simp))
    · go_wp2_with fail
      go_ret
      refine ⟨?_, hB3⟩
      rw [HM.out, if_neg HN.out]
      exact congrArg Ending.returned (congrArg (Value.int .i64) (by simp))

set_option maxRecDepth 100000 in
theorem least_any (x y z u op a b c m : Int) (w : World) (ht : TimOk x y z u) :
    Calls Try.prog 49 #[.agg #[.int .i64 x, .int .i64 y, .int .i64 z, .int .i64 u], .agg #[.int .u8 op, .int .i64 a, .int .i64 b, .int .i64 c, .int .i64 m]] w fun e w' => e = .returned (.int .i64 (baseV x y op)) ∧ Below w.heap.size w w' := by
  have hB0 := (Below.refl w.heap.size w).alloc (Nat.le_refl _) (.cells (timCells x y z u) 49)
  have hB1 := hB0.alloc hB0.size (.cells (insCells op a b c m) 23)
  go_enter Try.func49, Try.ntmps49
  go_wp2_with fail
  refine (base_any x y z u op a b c m _ ht.1 ht.2.1).mono ?_
  rintro e w1 ⟨rfl, hb⟩
  have hB2 := on hB1 hb
  go_wp2_with fail
  go_ret
  exact ⟨rfl, hB2⟩

set_option maxRecDepth 100000 in
theorem rleast_any (x y z u op a b c m : Int) (w : World) (ht : TimOk x y z u) :
    Calls Try.prog 50 #[.agg #[.int .i64 x, .int .i64 y, .int .i64 z, .int .i64 u], .agg #[.int .u8 op, .int .i64 a, .int .i64 b, .int .i64 c, .int .i64 m]] w fun e w' => e = .returned (.int .i64 (baseV x y op)) ∧ Below w.heap.size w w' := by
  have hB0 := (Below.refl w.heap.size w).alloc (Nat.le_refl _) (.cells (timCells x y z u) 49)
  have hB1 := hB0.alloc hB0.size (.cells (insCells op a b c m) 23)
  go_enter Try.func50, Try.ntmps50
  go_wp2_with fail
  refine (rbase_any x y z u op a b c m _ ht.1 ht.2.1).mono ?_
  rintro e w1 ⟨rfl, hb⟩
  have hB2 := on hB1 hb
  go_wp2_with fail
  go_ret
  exact ⟨rfl, hB2⟩

end Go.Proofs.Ytchmhnodcjidkaa
