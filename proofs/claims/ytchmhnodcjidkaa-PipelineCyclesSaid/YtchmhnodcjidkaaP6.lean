/-
  The laws PipelineStates and PipelineCycles.
-/
import Derived.Test.YtchmhnodcjidkaaP5
namespace Go.Proofs.Ytchmhnodcjidkaa
open Go.RowKit Go.Maps

/-- What stands of the two boxes in a world that lies behind wr. -/
theorem boxes_after {wr w' : World} {gt gi : Nat} {x y z u op a b c m : Int} (hT : Holds wr gt 49 (timCells x y z u)) (hI : Holds wr gi 23 (insCells op a b c m)) (hb : Below wr.heap.size wr w') :
    w'.cell? ⟨gt, 0, none⟩ = some (.int .i64 x) ∧ w'.cell? ⟨gt, 1, none⟩ = some (.int .i64 y) ∧ w'.cell? ⟨gt, 2, none⟩ = some (.int .i64 z) ∧ w'.cell? ⟨gt, 3, none⟩ = some (.int .i64 u) ∧
    w'.cell? ⟨gi, 0, none⟩ = some (.int .u8 op) ∧ w'.cell? ⟨gi, 1, none⟩ = some (.int .i64 a) ∧ w'.cell? ⟨gi, 2, none⟩ = some (.int .i64 b) ∧ w'.cell? ⟨gi, 3, none⟩ = some (.int .i64 c) ∧ w'.cell? ⟨gi, 4, none⟩ = some (.int .i64 m) ∧ Below wr.heap.size wr w' := by
  obtain ⟨t0, t1, t2, t3⟩ := tim_cells (hT.after hb)
  obtain ⟨i0, i1, i2, i3, i4⟩ := ins_cells (hI.after hb)
  exact ⟨t0, t1, t2, t3, i0, i1, i2, i3, i4, hb⟩

set_option maxRecDepth 100000 in
set_option maxHeartbeats 4000000 in
theorem walk_PipelineStates (x y z u s op a b c m : Int) (w : World) (h0 : 0 ≤ op) (h1 : op ≤ 255) :
    Calls Try.prog 12 #[.agg #[.int .i64 x, .int .i64 y, .int .i64 z, .int .i64 u], .int .i64 s, .agg #[.int .u8 op, .int .i64 a, .int .i64 b, .int .i64 c, .int .i64 m]] w fun e w' => e = .returned (.bool true) ∧ Below w.heap.size w w' := by
  have hT0 := holds_new w 49 (timCells x y z u)
  have hB0 := (Below.refl w.heap.size w).alloc (Nat.le_refl _) (.cells (timCells x y z u) 49)
  have hI0 := holds_new (w.alloc (.cells (timCells x y z u) 49)) 23 (insCells op a b c m)
  rw [World.size_alloc] at hI0
  have hT1 := hT0.alloc (.cells (insCells op a b c m) 23)
  have hB1 := hB0.alloc hB0.size (.cells (insCells op a b c m) 23)
  clear hT0 hB0
  go_enter Try.func12, Try.ntmps12
  go_wp2_with fail
  refine (awake8 _).mono ?_
  rintro e wr ⟨rfl, hb⟩
  have hT := hT1.after hb
  have hI := hI0.after hb
  have hB := on hB1 hb
  clear hT1 hI0 hB1 hb
  obtain ⟨t0, t1, t2, t3⟩ := tim_cells hT
  obtain ⟨i0, i1, i2, i3, i4⟩ := ins_cells hI
  have hb0 : Below wr.heap.size wr wr.drew := below_drewN (Below.refl wr.heap.size wr) 1
  go_wp2_with fail
  go_region_held3 (fun w' => w'.cell? ⟨w.heap.size, 0, none⟩ = some (.int .i64 x) ∧ w'.cell? ⟨w.heap.size, 1, none⟩ = some (.int .i64 y) ∧ w'.cell? ⟨w.heap.size, 2, none⟩ = some (.int .i64 z) ∧ w'.cell? ⟨w.heap.size, 3, none⟩ = some (.int .i64 u) ∧
      w'.cell? ⟨w.heap.size + 1, 0, none⟩ = some (.int .u8 op) ∧ w'.cell? ⟨w.heap.size + 1, 1, none⟩ = some (.int .i64 a) ∧ w'.cell? ⟨w.heap.size + 1, 2, none⟩ = some (.int .i64 b) ∧ w'.cell? ⟨w.heap.size + 1, 3, none⟩ = some (.int .i64 c) ∧ w'.cell? ⟨w.heap.size + 1, 4, none⟩ = some (.int .i64 m) ∧ Below wr.heap.size wr w')
    (first | assumption | go_keep)
    (first
      | (go_at_call 37; refine (pvalid_any x y z u _).mono ?_; (rintro e w' ⟨rfl, hb⟩); have hbn := on (by assumption) hb; have hS := boxes_after hT hI hbn)
      | (go_at_call 38; refine (rpvalid_any x y z u _).mono ?_; (rintro e w' ⟨rfl, hb⟩); have hbn := on (by assumption) hb; have hS := boxes_after hT hI hbn)
      | (go_at_call 39; refine (next_any op a b c m _ h0 h1).mono ?_; (rintro e w' ⟨rfl, hb⟩); have hbn := on (by assumption) hb; have hS := boxes_after hT hI hbn)
      | (go_at_call 40; refine (rnext_any op a b c m _ h0 h1).mono ?_; (rintro e w' ⟨rfl, hb⟩); have hbn := on (by assumption) hb; have hS := boxes_after hT hI hbn)
      | (go_at_call 41; refine (hazard_any s op a b c m _ h0 h1).mono ?_; (rintro e w' ⟨rfl, hb⟩); have hbn := on (by assumption) hb; have hS := boxes_after hT hI hbn)
      | (go_at_call 42; refine (rhazard_any s op a b c m _ h0 h1).mono ?_; (rintro e w' ⟨rfl, hb⟩); have hbn := on (by assumption) hb; have hS := boxes_after hT hI hbn))
  all_goals
    have hB' := on hB hbn
    clear hT hI hB t0 t1 t2 t3 i0 i1 i2 i3 i4 hb0 hS
    go_wp2_with fail
    go_ret
    exact ⟨rfl, hB'⟩

set_option maxRecDepth 100000 in
set_option maxHeartbeats 4000000 in
theorem walk_PipelineCycles (x y z u s op a b c m : Int) (tk : Bool) (w : World) (h0 : 0 ≤ op) (h1 : op ≤ 255) :
    Calls Try.prog 17 #[.agg #[.int .i64 x, .int .i64 y, .int .i64 z, .int .i64 u], .int .i64 s, .agg #[.int .u8 op, .int .i64 a, .int .i64 b, .int .i64 c, .int .i64 m], .bool tk] w fun e w' => e = .returned (.bool true) ∧ Below w.heap.size w w' := by
  have hT0 := holds_new w 49 (timCells x y z u)
  have hB0 := (Below.refl w.heap.size w).alloc (Nat.le_refl _) (.cells (timCells x y z u) 49)
  have hI0 := holds_new (w.alloc (.cells (timCells x y z u) 49)) 23 (insCells op a b c m)
  rw [World.size_alloc] at hI0
  have hT1 := hT0.alloc (.cells (insCells op a b c m) 23)
  have hB1 := hB0.alloc hB0.size (.cells (insCells op a b c m) 23)
  clear hT0 hB0
  go_enter Try.func17, Try.ntmps17
  go_wp2_with fail
  refine (awake8 _).mono ?_
  rintro e w1 ⟨rfl, hb⟩
  have hT := hT1.after hb
  have hI := hI0.after hb
  have hB := on hB1 hb
  clear hT1 hI0 hB1 hb
  obtain ⟨t0, t1, t2, t3⟩ := tim_cells hT
  go_wp2_with fail
  refine (rpvalid_any x y z u _).mono ?_
  rintro e wr ⟨rfl, hb⟩
  replace hT := hT.after hb
  replace hI := hI.after hb
  replace hB := on hB hb
  clear hb t0 t1 t2 t3
  obtain ⟨vv, hvv⟩ : ∃ vv, okT x y z u = vv := ⟨_, rfl⟩
  have HV := Lib.hid hvv
  rw [hvv]
  clear hvv
  rcases vv with _ | _
  · go_wp2_with fail
    go_ret
    exact ⟨rfl, hB⟩
  have ht := Lib.hid (timOk_of HV.out)
  obtain ⟨t0, t1, t2, t3⟩ := tim_cells hT
  obtain ⟨i0, i1, i2, i3, i4⟩ := ins_cells hI
  have hb0 : Below wr.heap.size wr wr.drew := below_drewN (Below.refl wr.heap.size wr) 1
  go_wp2_with fail
  go_region_held3 (fun w' => w'.cell? ⟨w.heap.size, 0, none⟩ = some (.int .i64 x) ∧ w'.cell? ⟨w.heap.size, 1, none⟩ = some (.int .i64 y) ∧ w'.cell? ⟨w.heap.size, 2, none⟩ = some (.int .i64 z) ∧ w'.cell? ⟨w.heap.size, 3, none⟩ = some (.int .i64 u) ∧
      w'.cell? ⟨w.heap.size + 1, 0, none⟩ = some (.int .u8 op) ∧ w'.cell? ⟨w.heap.size + 1, 1, none⟩ = some (.int .i64 a) ∧ w'.cell? ⟨w.heap.size + 1, 2, none⟩ = some (.int .i64 b) ∧ w'.cell? ⟨w.heap.size + 1, 3, none⟩ = some (.int .i64 c) ∧ w'.cell? ⟨w.heap.size + 1, 4, none⟩ = some (.int .i64 m) ∧ Below wr.heap.size wr w')
    (first | assumption | go_keep)
    (first
      | (go_at_call 44; refine (cycles_any x y z u s op a b c m tk _ ht.out h0 h1).mono ?_; (rintro e w' ⟨rfl, hb⟩); have hbn := on (by assumption) hb; have hS := boxes_after hT hI hbn)
      | (go_at_call 46; refine (rcycles_any x y z u s op a b c m tk _ ht.out h0 h1).mono ?_; (rintro e w' ⟨rfl, hb⟩); have hbn := on (by assumption) hb; have hS := boxes_after hT hI hbn)
      | (go_at_call 47; refine (most_any x y z u op a b c m _ ht.out h0 h1).mono ?_; (rintro e w' ⟨rfl, hb⟩); have hbn := on (by assumption) hb; have hS := boxes_after hT hI hbn)
      | (go_at_call 48; refine (rmost_any x y z u op a b c m _ ht.out h0 h1).mono ?_; (rintro e w' ⟨rfl, hb⟩); have hbn := on (by assumption) hb; have hS := boxes_after hT hI hbn)
      | (go_at_call 49; refine (least_any x y z u op a b c m _ ht.out).mono ?_; (rintro e w' ⟨rfl, hb⟩); have hbn := on (by assumption) hb; have hS := boxes_after hT hI hbn)
      | (go_at_call 50; refine (rleast_any x y z u op a b c m _ ht.out).mono ?_; (rintro e w' ⟨rfl, hb⟩); have hbn := on (by assumption) hb; have hS := boxes_after hT hI hbn))
  all_goals
    have hB' := on hB hbn
    clear hT hI hB t0 t1 t2 t3 i0 i1 i2 i3 i4 hb0 hS
    go_wp2_with fail
    go_ret
    exact ⟨rfl, hB'⟩
end Go.Proofs.Ytchmhnodcjidkaa
