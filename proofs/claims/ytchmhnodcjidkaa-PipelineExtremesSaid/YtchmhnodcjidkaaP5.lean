/-
  The walk of the pipeline laws' awake.
-/
import Derived.Test.YtchmhnodcjidkaaP4
namespace Go.Proofs.Ytchmhnodcjidkaa
open Go.RowKit Go.Maps

def awL : List InsD := [⟨18, 3, 1, 0, 0⟩, ⟨4, 4, 3, 3, 0⟩]
def awCells : Array Value := #[.int .u8 18, .int .i64 3, .int .i64 1, .int .i64 0, .int .i64 0, .int .u8 4, .int .i64 4, .int .i64 3, .int .i64 3, .int .i64 0]
theorem aw_sl {w : World} {g : Nat} (h : Holds w g 23 awCells) : SlI w (some ⟨g, 0, none⟩) awL := by
  intro k hk
  refine ⟨g, 0, rfl, h.lt, fun k hk => ?_⟩
  match k, hk with
  | 0, _ => exact ⟨⟨by show (0 : Int) ≤ 18; decide, by show (18 : Int) ≤ 255; decide⟩, h.cell 0, h.cell 1, h.cell 2, h.cell 3, h.cell 4⟩
  | 1, _ => exact ⟨⟨by show (0 : Int) ≤ 4; decide, by show (4 : Int) ≤ 255; decide⟩, h.cell 5, h.cell 6, h.cell 7, h.cell 8, h.cell 9⟩
theorem aw_cells {w : World} {g : Nat} (h : Holds w g 23 awCells) :
    w.cell? ⟨g, 0, none⟩ = some (.int .u8 18) ∧ w.cell? ⟨g, 1, none⟩ = some (.int .i64 3) ∧ w.cell? ⟨g, 2, none⟩ = some (.int .i64 1) ∧ w.cell? ⟨g, 3, none⟩ = some (.int .i64 0) ∧ w.cell? ⟨g, 4, none⟩ = some (.int .i64 0) ∧
    w.cell? ⟨g, 5, none⟩ = some (.int .u8 4) ∧ w.cell? ⟨g, 6, none⟩ = some (.int .i64 4) ∧ w.cell? ⟨g, 7, none⟩ = some (.int .i64 3) ∧ w.cell? ⟨g, 8, none⟩ = some (.int .i64 3) ∧ w.cell? ⟨g, 9, none⟩ = some (.int .i64 0) :=
  ⟨h.cell 0, h.cell 1, h.cell 2, h.cell 3, h.cell 4, h.cell 5, h.cell 6, h.cell 7, h.cell 8, h.cell 9⟩
theorem aw_seq : seqV 3 0 0 2 0 awL = (7, 0) := by decide +kernel
theorem aw_next : nxtV 18 3 1 0 0 = 3 := by decide +kernel
theorem aw_haz : hzV 3 4 4 3 3 0 = true := by decide +kernel
theorem aw_ok : okT 3 0 0 2 = true := by decide +kernel
theorem aw_bad : okT (-1) 0 0 0 = false := by decide +kernel

set_option maxRecDepth 100000 in
set_option maxHeartbeats 2000000 in
theorem awake8 (w : World) : Calls Try.prog 36 #[] w fun e w' => e = .returned (.bool true) ∧ Below w.heap.size w w' := by
  have hT0 := holds_new w 49 (timCells 3 0 0 2)
  have hB0 := (Below.refl w.heap.size w).alloc (Nat.le_refl _) (.cells (timCells 3 0 0 2) 49)
  have hL0 := holds_new (w.alloc (.cells (timCells 3 0 0 2) 49)) 23 awCells
  rw [World.size_alloc] at hL0
  have hT1 := hT0.alloc (.cells awCells 23)
  have hB1 := hB0.alloc hB0.size (.cells awCells 23)
  clear hT0 hB0
  go_enter Try.func36, Try.ntmps36
  go_wp2_with fail
  refine (sequence_any 3 0 0 2 0 _ 2 awL _ (by unfold TimOk; omega) (aw_sl hL0) (by decide)).mono ?_
  rintro e w1 ⟨rfl, hb⟩
  rw [aw_seq]
  have hT2 := hT1.after hb
  have hL2 := hL0.after hb
  have hB2 := on hB1 hb
  clear hT1 hL0 hB1 hb
  obtain ⟨c0, c1, c2, c3, c4, _⟩ := aw_cells hL2
  go_wp2_with fail
  refine (next_any 18 3 1 0 0 _ (by decide) (by decide)).mono ?_
  rintro e w2 ⟨rfl, hb⟩
  rw [aw_next]
  have hT3 := hT2.after hb
  have hL3 := hL2.after hb
  have hB3 := on hB2 hb
  clear hT2 hL2 hB2 hb c0 c1 c2 c3 c4
  obtain ⟨_, _, _, _, _, c0, c1, c2, c3, c4⟩ := aw_cells hL3
  go_wp2_with fail
  refine (hazard_any 3 4 4 3 3 0 _ (by decide) (by decide)).mono ?_
  rintro e w3 ⟨rfl, hb⟩
  rw [aw_haz]
  have hT4 := hT3.after hb
  have hB4 := on hB3 hb
  clear hT3 hL3 hB3 hb c0 c1 c2 c3 c4
  obtain ⟨t0, t1, t2, t3⟩ := tim_cells hT4
  go_wp2_with fail
  refine (pvalid_any 3 0 0 2 _).mono ?_
  rintro e w4 ⟨rfl, hb⟩
  rw [aw_ok]
  have hB5 := on hB4 hb
  clear hT4 hB4 hb t0 t1 t2 t3
  go_wp2_with fail
  refine (pvalid_any (-1) 0 0 0 _).mono ?_
  rintro e w5 ⟨rfl, hb⟩
  rw [aw_bad]
  have hB6 := on hB5 hb
  clear hB5 hb
  go_wp2_with fail
  go_ret
  exact ⟨rfl, hB6⟩
end Go.Proofs.Ytchmhnodcjidkaa
