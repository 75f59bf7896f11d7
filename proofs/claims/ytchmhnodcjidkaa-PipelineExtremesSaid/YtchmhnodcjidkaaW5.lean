/-
  The walk of isa.Encode.
-/
import Derived.Test.YtchmhnodcjidkaaW4
namespace Go.Proofs.Ytchmhnodcjidkaa
open Go.RowKit Go.Maps

structure EW (op a b c m : Int) (w : World) (B1 : Nat) (wr : World) : Prop where
  ins : Holds wr w.heap.size 23 (insCells op a b c m)
  row : Holds wr B1 71 (rowCells op)
  below : Below w.heap.size w wr

theorem EW.after {op a b c m : Int} {w wr w' : World} {B1 : Nat} (h : EW op a b c m w B1 wr) (hb : Below wr.heap.size wr w') : EW op a b c m w B1 w' :=
  ⟨h.ins.after hb, h.row.after hb, h.below.trans (hb.mono h.below.size)⟩
theorem EW.fld {op a b c m : Int} {w wr : World} {B1 : Nat} (h : EW op a b c m w B1 wr) (ch : Int) :
    wr.cell? ⟨w.heap.size, fldIx ch, none⟩ = some (.int .i64 (fldV a b c m ch)) := by
  rw [h.ins.cell]
  unfold fldIx fldV
  by_cases h1 : ch = 97
  · simp [h1, insCells]
  · by_cases h2 : ch = 98
    · simp [h2, insCells]
    · by_cases h3 : ch = 99
      · simp [h3, insCells]
      · simp [h1, h2, h3, insCells]

theorem posOf_range (c : Int) : 0 ≤ posOf c ∧ posOf c ≤ 22 := by
  unfold posOf
  split
  · decide
  · split
    · decide
    · split <;> decide
theorem nums_range (s : ByteArray) (j : Nat) : 0 ≤ (nums s).getD j 0 ∧ (nums s).getD j 0 ≤ 255 := by
  by_cases h : j < s.size
  · rw [nums_getD s j h]
    have := (s.data.toList.getD j 0).toNat_lt
    omega
  · rw [List.getD_eq_getElem?_getD, List.getElem?_eq_none (by simp [nums]; omega)]
    simp
def encX (ch x : Int) : Int := if ch = 105 then bits .and .u32 (x % 4294967296) 262143 else x % 4294967296
def encStep (a b c m acc ch : Int) : Int := bits .or .u32 acc (encX ch (fldV a b c m ch) * 2 ^ (posOf ch).toNat % 4294967296)
def encTo (op a b c m : Int) (k : Nat) : Int := ((nums (opsS op)).take k).foldl (encStep a b c m) (op * 67108864)
/-- The word that Encode gives for a valid instruction. -/
def encV (op a b c m : Int) : Int := (nums (opsS op)).foldl (encStep a b c m) (op * 67108864)
theorem nums_length (s : ByteArray) : (nums s).length = s.size := by simp [nums]
theorem encTo_all (op a b c m : Int) : encTo op a b c m (opsS op).size = encV op a b c m := by
  unfold encTo encV
  rw [List.take_of_length_le (by rw [nums_length]; exact Nat.le_refl _)]
theorem encTo_succ {op a b c m : Int} {k : Nat} (hk : k < (opsS op).size) {ch : Int} (hch : ch = (nums (opsS op)).getD k 0) :
    encTo op a b c m (k + 1) = bits .or .u32 (encTo op a b c m k) (encX ch (fldV a b c m ch) * 2 ^ (posOf ch).toNat % 4294967296) := by
  have hl : k < (nums (opsS op)).length := by rw [nums_length]; exact hk
  unfold encTo
  rw [List.take_succ_eq_append_getElem hl, List.foldl_append]
  rw [List.getD_eq_getElem?_getD, List.getElem?_eq_getElem hl] at hch
  have hch' : ch = (nums (opsS op))[k] := hch
  rw [← hch']
  rfl
/-- A row of bytes that holds a string. -/
def BytesAt (w : World) (g : Nat) (s : ByteArray) : Prop := g < w.heap.size ∧ ∀ j, j < s.size → w.cell? ⟨g, j, none⟩ = some (.int .u8 ((nums s).getD j 0))
theorem BytesAt.after {w w' : World} {g : Nat} {s : ByteArray} (h : BytesAt w g s) (hb : Below w.heap.size w w') : BytesAt w' g s :=
  ⟨Nat.lt_of_lt_of_le h.1 hb.size, fun j hj => (hb.cell (p := ⟨g, j, none⟩) h.1).trans (h.2 j hj)⟩
theorem bytesAt_new (w : World) (s : ByteArray) : BytesAt (Lib.bytesWorld w 5 s) w.heap.size s :=
  ⟨by rw [Lib.bytesWorld_size]; omega, fun j hj => by rw [Lib.bytesWorld_cell _ _ _ _ hj, nums_getD s j hj]⟩

theorem EW.start {op a b c m : Int} {w w2 : World} (hI : Holds w2 w.heap.size 23 (insCells op a b c m)) (hB : Below w.heap.size w w2) :
    EW op a b c m w w2.heap.size (Lib.bytesWorld (w2.alloc (.cells (rowCells op) 71)) 5 (opsS op)) ∧ BytesAt (Lib.bytesWorld (w2.alloc (.cells (rowCells op) 71)) 5 (opsS op)) (w2.heap.size + 1) (opsS op) := by
  have h1 : EW op a b c m w w2.heap.size (w2.alloc (.cells (rowCells op) 71)) := ⟨hI.alloc _, holds_new _ _ _, hB.alloc hB.size _⟩
  refine ⟨h1.after (below_bytes _ _ _), ?_⟩
  have := bytesAt_new (w2.alloc (.cells (rowCells op) 71)) (opsS op)
  simpa using this

set_option maxRecDepth 100000 in
set_option maxHeartbeats 1000000 in
theorem encode_yes (op a b c m : Int) (w : World) (h0 : 0 ≤ op) (h1 : op < 30) (hv : validV op a b c m = true) :
    Calls Try.prog 21 #[.agg #[.int .u8 op, .int .i64 a, .int .i64 b, .int .i64 c, .int .i64 m]] w fun e w' => e = .returned (.tuple #[.int .u32 (encV op a b c m), .int .i64 0]) ∧ Below w.heap.size w w' := by
  have hcv := fun w s => Lib.run_convert_string_bytes (P := Try.prog) w 9 75 5 s Try.underlying9 Try.underlying75 Try.underlying5
  have HV := Lib.hid hv
  clear hv
  have hI := holds_new w 23 (insCells op a b c m)
  have hB0 := (Below.refl w.heap.size w).alloc (Nat.le_refl _) (.cells (insCells op a b c m) 23)
  go_enter Try.func21, Try.ntmps21
  go_wp2_with fail
  refine (valid_any op a b c m _ h0 (by omega)).mono ?_
  rintro e w1 ⟨rfl, hb⟩
  rw [HV.out]
  have hI1 := hI.after hb
  have hB1 := hB0.trans (hb.mono (by simp))
  have c0 : w1.cell? ⟨w.heap.size, 0, none⟩ = some (.int .u8 op) := hI1.cell 0
  clear hb hI
  go_wp2_with fail
  refine (find_op op _ h0 h1).mono ?_
  rintro e w2 ⟨rfl, hb⟩
  have hI2 := hI1.after hb
  have hB2 := hB1.trans (hb.mono hB1.size)
  have hE := EW.start hI2 hB2
  have c0 : w2.cell? ⟨w.heap.size, 0, none⟩ = some (.int .u8 op) := hI2.cell 0
  have f1 : w.heap.size < w2.heap.size := hI2.lt
  clear hb hI1 hI2
  go_wp2_with fail
  obtain ⟨hE, hY⟩ := hE
  have hsz := ops_short op
  go_loopw [6, 27] (fun v i wr => ∃ (k : Nat), k ≤ (opsS op).size ∧ i = .int .i64 k ∧ v = .int .u32 (encTo op a b c m k) ∧ EW op a b c m w w2.heap.size wr ∧ BytesAt wr (w2.heap.size + 1) (opsS op)) (fun _ i _ => (opsS op).size - (intOf i).toNat)
  case atStart => exact ⟨0, by omega, rfl, rfl, hE, hY⟩
  case round =>
    clear hE hY
    obtain ⟨k, hk, rfl, rfl, hE, hY⟩ := hrel
    by_cases hlt : k < (opsS op).size
    · have cl := hY.2 k hlt
      obtain ⟨l0, l1⟩ := nums_range (opsS op) k
      obtain ⟨ch, hch⟩ : ∃ ch, ch = (nums (opsS op)).getD k 0 := ⟨_, rfl⟩
      rw [← hch] at cl l0 l1
      have HCh := Lib.hid hch
      clear hch
      have cf := hE.fld ch
      obtain ⟨p0, p1⟩ := posOf_range ch
      go_wp2_with fail
      refine (field_any _ ch _ (by omega) (by omega)).mono ?_
      rintro e w3 ⟨rfl, rfl⟩
      by_cases h105 : (ch == 105) = true
      · have HX : Hid (encX ch (fldV a b c m ch) = bits .and .u32 (fldV a b c m ch % 4294967296) 262143) := by
          show encX _ _ = _
          unfold encX
          rw [if_pos (by simpa using h105)]
        go_wp2_with fail
        refine (position_any ch _ (by omega) (by omega)).mono ?_
        rintro e w3 ⟨rfl, hb3⟩
        have hE3 := hE.after hb3
        have hY3 := hY.after hb3
        clear hb3 hE hY cl cf
        go_wp2_with fail
        go_roundw
        case rel => exact ⟨k + 1, by omega, by go_num, by rw [encTo_succ hlt HCh.out, HX.out], hE3, hY3⟩
        case measure => simp [intOf]; omega
      · have h105' : (ch == 105) = false := by simpa using h105
        have HX : Hid (encX ch (fldV a b c m ch) = fldV a b c m ch % 4294967296) := by
          show encX _ _ = _
          unfold encX
          rw [if_neg (by simpa using h105')]
        clear h105
        go_wp2_with fail
        refine (position_any ch _ (by omega) (by omega)).mono ?_
        rintro e w3 ⟨rfl, hb3⟩
        have hE3 := hE.after hb3
        have hY3 := hY.after hb3
        clear hb3 hE hY cl cf
        go_wp2_with fail
        go_roundw
        case rel => exact ⟨k + 1, by omega, by go_num, by rw [encTo_succ hlt HCh.out, HX.out], hE3, hY3⟩
        case measure => simp [intOf]; omega
    · obtain rfl : k = (opsS op).size := by omega
      go_wp2_with fail
      go_ret2
      exact ⟨by rw [← encTo_all]; rfl, hE.below⟩
set_option maxRecDepth 100000 in
set_option maxHeartbeats 400000 in
theorem encode_no (op a b c m : Int) (w : World) (h0 : 0 ≤ op) (h1 : op ≤ 255) (hv : validV op a b c m = false) :
    Calls Try.prog 21 #[.agg #[.int .u8 op, .int .i64 a, .int .i64 b, .int .i64 c, .int .i64 m]] w fun e w' => e = .returned (.tuple #[.int .u32 0, .int .i64 3]) ∧ Below w.heap.size w w' := by
  have HV := Lib.hid hv
  clear hv
  have hB0 := (Below.refl w.heap.size w).alloc (Nat.le_refl _) (.cells (insCells op a b c m) 23)
  go_enter Try.func21, Try.ntmps21
  go_wp2_with fail
  refine (valid_any op a b c m _ h0 (by omega)).mono ?_
  rintro e w1 ⟨rfl, hb⟩
  rw [HV.out]
  have hB1 := hB0.trans (hb.mono (by simp))
  clear hb
  go_wp2_with fail
  go_ret2
  exact ⟨rfl, hB1⟩
theorem valid_op {op a b c m : Int} (h : validV op a b c m = true) : op < 30 := by
  unfold validV at h
  simp only [Bool.and_eq_true, decide_eq_true_eq] at h
  exact h.1
/-- What Encode answers. -/
def encW (op a b c m : Int) : Int := if validV op a b c m = true then encV op a b c m else 0
def encE (op a b c m : Int) : Int := if validV op a b c m = true then 0 else 3
theorem encode_any (op a b c m : Int) (w : World) (h0 : 0 ≤ op) (h1 : op ≤ 255) :
    Calls Try.prog 21 #[.agg #[.int .u8 op, .int .i64 a, .int .i64 b, .int .i64 c, .int .i64 m]] w fun e w' => e = .returned (.tuple #[.int .u32 (encW op a b c m), .int .i64 (encE op a b c m)]) ∧ Below w.heap.size w w' := by
  by_cases h : validV op a b c m = true
  · have := encode_yes op a b c m w h0 (valid_op h) h
    unfold encW encE
    rw [if_pos h, if_pos h]
    exact this
  · have := encode_no op a b c m w h0 h1 (by simpa using h)
    unfold encW encE
    rw [if_neg h, if_neg h]
    exact this
end Go.Proofs.Ytchmhnodcjidkaa
