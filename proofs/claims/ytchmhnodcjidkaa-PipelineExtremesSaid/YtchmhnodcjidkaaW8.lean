/-
  The walk of ontimelaw04.awake: the chapter's examples.
-/
import Derived.Test.YtchmhnodcjidkaaW7
namespace Go.Proofs.Ytchmhnodcjidkaa
open Go.RowKit Go.Maps

theorem enc1 : encW 2 3 1 2 0 = 147095552 ∧ encE 2 3 1 2 0 = 0 := by decide +kernel
theorem enc2 : encW 14 5 0 0 (-1) = 960757759 ∧ encE 14 5 0 0 (-1) = 0 := by decide +kernel
theorem enc3 : encW 24 0 0 0 (-3) = 1610874877 ∧ encE 24 0 0 0 (-3) = 0 := by decide +kernel
theorem dec1 : dOp 147095552 = 2 ∧ dA 147095552 = 3 ∧ dB 147095552 = 1 ∧ dC 147095552 = 2 ∧ dM 147095552 = 0 ∧ dE 147095552 = 0 := by decide +kernel
theorem dec2 : dOp 147095553 = 0 ∧ dA 147095553 = 0 ∧ dB 147095553 = 0 ∧ dC 147095553 = 0 ∧ dM 147095553 = 0 ∧ dE 147095553 = 3 := by decide +kernel

set_option maxRecDepth 100000 in
set_option maxHeartbeats 1000000 in
theorem awake4 (w : World) : Calls Try.prog 20 #[] w fun e w' => e = .returned (.bool true) ∧ Below w.heap.size w w' := by
  go_enter Try.func20, Try.ntmps20
  go_wp2_with fail
  refine (encode_any 2 3 1 2 0 _ (by omega) (by omega)).mono ?_
  rintro e w1 ⟨rfl, hb1⟩
  rw [enc1.1, enc1.2]
  go_wp2_with fail
  refine (encode_any 14 5 0 0 (-1) _ (by omega) (by omega)).mono ?_
  rintro e w2 ⟨rfl, hb2⟩
  rw [enc2.1, enc2.2]
  go_wp2_with fail
  refine (encode_any 24 0 0 0 (-3) _ (by omega) (by omega)).mono ?_
  rintro e w3 ⟨rfl, hb3⟩
  rw [enc3.1, enc3.2]
  go_wp2_with fail
  refine (decode_any 147095552 _ (by omega) (by omega)).mono ?_
  rintro e w4 ⟨rfl, hb4⟩
  obtain ⟨d0, d1, d2, d3, d4, d5⟩ := dec1
  rw [d0, d1, d2, d3, d4, d5]
  clear d0 d1 d2 d3 d4 d5
  go_wp2_with fail
  refine (decode_any 147095553 _ (by omega) (by omega)).mono ?_
  rintro e w5 ⟨rfl, hb5⟩
  obtain ⟨d0, d1, d2, d3, d4, d5⟩ := dec2
  rw [d0, d1, d2, d3, d4, d5]
  clear d0 d1 d2 d3 d4 d5
  have hB4 : Below w.heap.size w w4 := ((hb1.trans (hb2.mono hb1.size)).trans (hb3.mono (Nat.le_trans hb1.size hb2.size))).trans (hb4.mono (Nat.le_trans hb1.size (Nat.le_trans hb2.size hb3.size)))
  have hI := (holds_new w4 23 (insCells 2 3 1 2 0)).after hb5
  have hB5 := hB4.trans (((Below.refl _ _).alloc (Nat.le_refl _) _).trans (hb5.mono (by simp)) |>.mono hB4.size)
  clear hb1 hb2 hb3 hb4 hb5
  have i0 : w5.cell? ⟨w4.heap.size, 0, none⟩ = some (.int .u8 2) := hI.cell 0
  have i1 : w5.cell? ⟨w4.heap.size, 1, none⟩ = some (.int .i64 3) := hI.cell 1
  have i2 : w5.cell? ⟨w4.heap.size, 2, none⟩ = some (.int .i64 1) := hI.cell 2
  have i3 : w5.cell? ⟨w4.heap.size, 3, none⟩ = some (.int .i64 2) := hI.cell 3
  have i4 : w5.cell? ⟨w4.heap.size, 4, none⟩ = some (.int .i64 0) := hI.cell 4
  have hsz : w4.heap.size < w5.heap.size := hI.lt
  clear hI
  go_wp2_with fail
  go_ret
  exact ⟨rfl, hB5.alloc hB5.size _⟩
end Go.Proofs.Ytchmhnodcjidkaa
