/-
  The walk of isa.Valid.
-/
import Derived.Test.YtchmhnodcjidkaaW3
import Derived.Test.YtchmhnodcjidkaaK
import Derived.Lib.SlBytesConst
import Derived.BigQuiet
import Derived.Deep.QuietTactic
namespace Go.Proofs.Ytchmhnodcjidkaa
open Go.RowKit Go.Maps

def fldV (a b c m ch : Int) : Int := if ch = 97 then a else if ch = 98 then b else if ch = 99 then c else m
def opsS (op : Int) : ByteArray := ⟨(rowOf op.toNat).ops.toArray⟩
def nmS (op : Int) : ByteArray := ⟨(rowOf op.toNat).nm.toArray⟩
def rdS (op : Int) : ByteArray := ⟨(rowOf op.toNat).rd.toArray⟩
def wrS (op : Int) : ByteArray := ⟨(rowOf op.toNat).wr.toArray⟩
def lowI (op : Int) : Int := (rowOf op.toNat).low
def highI (op : Int) : Int := (rowOf op.toNat).high
theorem find_op (op : Int) (w : World) (h0 : 0 ≤ op) (h1 : op < 30) :
    Calls Try.prog 51 #[.int .u8 op] w fun e w' => e = .returned (.tuple #[.agg #[.string (nmS op), .string (opsS op), .int .i64 (lowI op), .int .i64 (highI op), .string (rdS op), .string (wrS op)], .bool true]) ∧ Below w.heap.size w w' :=
  find_yes op w h0 h1
def lowV (op ch : Int) : Int := if hasB (opsS op) ch = true ∧ ch = 105 then lowI op else 0
def highV (op ch : Int) : Int := if hasB (opsS op) ch = false then 0 else if ch = 105 then highI op else 15
def okV (op a b c m ch : Int) : Bool := decide (lowV op ch ≤ fldV a b c m ch ∧ fldV a b c m ch ≤ highV op ch)
def lets : List Int := [97, 98, 99, 105]
/-- What Valid answers, beside the opcode's test. -/
def validV (op a b c m : Int) : Bool := decide (op < 30) && lets.all (okV op a b c m)

theorem conv_bytes (w : World) (O : Obj) (C : Array Value) (n c : Nat) :
    (convert 75 75 (.slice (some ⟨w.heap.size + 1, 0, none⟩) n c)).run Try.prog ((w.alloc O).alloc (.cells C 5)) = .ok (.slice (some ⟨w.heap.size + 1, 0, none⟩) n c) ((w.alloc O).alloc (.cells C 5 (C.size, C.size + 1))) := by
  have h := Lib.run_convert_bytes_const (P := Try.prog) (w.alloc O) 75 5 C n c Try.underlying75 Try.underlying5
  simpa using h

def letCells : Array Value := #[.int .u8 97, .int .u8 98, .int .u8 99, .int .u8 105]
def insCells (op a b c m : Int) : Array Value := #[.int .u8 op, .int .i64 a, .int .i64 b, .int .i64 c, .int .i64 m]
def rowCells (op : Int) : Array Value := #[.string (nmS op), .string (opsS op), .int .i64 (lowI op), .int .i64 (highI op), .string (rdS op), .string (wrS op)]

/-- The world in the loop of Valid: the instruction's box, the row's box, the letters. -/
structure VW (op a b c m : Int) (w w1 wr : World) : Prop where
  ins : Holds wr w.heap.size 23 (insCells op a b c m)
  row : Holds wr w1.heap.size 71 (rowCells op)
  let4 : Marked wr (w1.heap.size + 1) 5 letCells (4, 5)
  below : Below w.heap.size w wr

theorem VW.after {op a b c m : Int} {w w1 wr w' : World} (h : VW op a b c m w w1 wr) (hb : Below wr.heap.size wr w') : VW op a b c m w w1 w' :=
  ⟨h.ins.after hb, h.row.after hb, h.let4.after hb, h.below.trans (hb.mono h.below.size)⟩
theorem VW.drewN {op a b c m : Int} {w w1 wr : World} (h : VW op a b c m w w1 wr) (n : Nat) : VW op a b c m w w1 (wr.drewN n) :=
  ⟨h.ins, h.row, h.let4, below_drewN h.below n⟩

theorem VW.start {op a b c m : Int} {w w1 : World} (hb : Below (w.alloc (.cells (insCells op a b c m) 23)).heap.size (w.alloc (.cells (insCells op a b c m) 23)) w1) :
    VW op a b c m w w1 ((w1.alloc (.cells (rowCells op) 71)).alloc (.cells letCells 5 (4, 5))) := by
  have h1 : Holds w1 w.heap.size 23 (insCells op a b c m) := (holds_new w 23 (insCells op a b c m)).after hb
  have hB : Below w.heap.size w w1 := ((Below.refl _ _).alloc (Nat.le_refl _) _).trans (hb.mono (by simp))
  refine ⟨(h1.alloc _).alloc _, (holds_new w1 71 _).alloc _, ?_, (hB.alloc hB.size _).alloc (by have := hB.size; simp; omega) _⟩
  have := marked_new (w1.alloc (.cells (rowCells op) 71)) 5 letCells (4, 5)
  simpa using this

theorem VW.facts {op a b c m : Int} {w w1 wr : World} (h : VW op a b c m w w1 wr) :
    wr.cell? ⟨w1.heap.size, 1, none⟩ = some (.string (opsS op)) ∧ wr.cell? ⟨w1.heap.size, 2, none⟩ = some (.int .i64 (lowI op)) ∧ wr.cell? ⟨w1.heap.size, 3, none⟩ = some (.int .i64 (highI op)) :=
  ⟨h.row.cell 1, h.row.cell 2, h.row.cell 3⟩
theorem VW.fld {op a b c m : Int} {w w1 wr : World} (h : VW op a b c m w w1 wr) (ch : Int) :
    wr.cell? ⟨w.heap.size, fldIx ch, none⟩ = some (.int .i64 (fldV a b c m ch)) := by
  rw [h.ins.cell]
  unfold fldIx fldV
  by_cases h1 : ch = 97
  · simp [h1, insCells]
  · by_cases h2 : ch = 98
    · simp [h2, insCells]
    · by_cases h3 : ch = 99
      · simp [h3, insCells]
      · simp [h1, h2, h3, insCells]
theorem VW.letter {op a b c m : Int} {w w1 wr : World} (h : VW op a b c m w w1 wr) (k : Nat) (hk : k < 4) :
    wr.cell? ⟨w1.heap.size + 1, k, none⟩ = some (.int .u8 (lets.getD k 0)) := by
  rw [h.let4.cell]
  rcases (show k = 0 ∨ k = 1 ∨ k = 2 ∨ k = 3 by omega) with rfl | rfl | rfl | rfl <;> rfl
theorem lets_range (k : Nat) (hk : k < 4) : 97 ≤ lets.getD k 0 ∧ lets.getD k 0 ≤ 105 := by
  rcases (show k = 0 ∨ k = 1 ∨ k = 2 ∨ k = 3 by omega) with rfl | rfl | rfl | rfl <;> decide
theorem ops_short (op : Int) : (opsS op).size ≤ 3 := by
  by_cases h : op.toNat < 30
  · have : ∀ i : Nat, i < 30 → (⟨(rowOf i).ops.toArray⟩ : ByteArray).size ≤ 3 := by decide
    exact this _ h
  · have : rowOf op.toNat = nilRow := by
      unfold rowOf
      rw [List.getD_eq_getElem?_getD, List.getElem?_eq_none (by rw [tab_length]; omega)]; rfl
    unfold opsS
    rw [this]
    decide

theorem ok_A {op a b c m ch : Int} (h : (!hasB (opsS op) ch) = true) : okV op a b c m ch = decide (0 ≤ fldV a b c m ch ∧ fldV a b c m ch ≤ 0) := by
  have h' : hasB (opsS op) ch = false := by simpa using h
  unfold okV lowV highV
  rw [if_neg (by rw [h']; simp), if_pos h']
theorem ok_B {op a b c m ch : Int} (h : (!hasB (opsS op) ch) = false) (h2 : (ch == 105) = false) : okV op a b c m ch = decide (0 ≤ fldV a b c m ch ∧ fldV a b c m ch ≤ 15) := by
  have h' : hasB (opsS op) ch = true := by simpa using h
  have h3 : ¬ ch = 105 := by simpa using h2
  unfold okV lowV highV
  rw [if_neg (fun e => h3 e.2), if_neg (by rw [h']; simp), if_neg h3]
theorem ok_C {op a b c m ch : Int} (h : (!hasB (opsS op) ch) = false) (h2 : (ch == 105) = true) : okV op a b c m ch = decide (lowI op ≤ fldV a b c m ch ∧ fldV a b c m ch ≤ highI op) := by
  have h' : hasB (opsS op) ch = true := by simpa using h
  have h3 : ch = 105 := by simpa using h2
  unfold okV lowV highV
  rw [if_pos ⟨h', h3⟩, if_neg (by rw [h']; simp), if_pos h3]
theorem valid_rej {op a b c m ch : Int} {k : Nat} (hk : k < 4) (hch : ch = lets.getD k 0) (h : okV op a b c m ch = false) : Ending.returned (.bool false) = Ending.returned (.bool (validV op a b c m)) := by
  have : lets.all (okV op a b c m) = false := by
    rw [List.all_eq_false]
    refine ⟨ch, ?_, by rw [h]; simp⟩
    rw [hch]
    rcases (show k = 0 ∨ k = 1 ∨ k = 2 ∨ k = 3 by omega) with rfl | rfl | rfl | rfl <;> simp [lets]
  unfold validV
  rw [this, Bool.and_false]
theorem valid_acc {op a b c m ch : Int} {k : Nat} (hch : ch = lets.getD k 0) (h : okV op a b c m ch = true) (H : ∀ j, j < k → okV op a b c m (lets.getD j 0) = true) : ∀ j, j < k + 1 → okV op a b c m (lets.getD j 0) = true := by
  intro j hj
  rcases Nat.lt_or_ge j k with h' | h'
  · exact H j h'
  · obtain rfl : j = k := by omega
    rw [← hch]; exact h
theorem valid_all {op a b c m : Int} (h1 : op < 30) (H : ∀ j, j < 4 → okV op a b c m (lets.getD j 0) = true) : Ending.returned (.bool true) = Ending.returned (.bool (validV op a b c m)) := by
  have e0 := H 0 (by omega)
  have e1 := H 1 (by omega)
  have e2 := H 2 (by omega)
  have e3 := H 3 (by omega)
  simp only [lets, List.getD_cons_zero, List.getD_cons_succ] at e0 e1 e2 e3
  simp [validV, h1, lets, e0, e1, e2, e3]

set_option maxRecDepth 100000 in
set_option maxHeartbeats 1000000 in
theorem valid_yes (op a b c m : Int) (w : World) (h0 : 0 ≤ op) (h1 : op < 30) :
    Calls Try.prog 23 #[.agg #[.int .u8 op, .int .i64 a, .int .i64 b, .int .i64 c, .int .i64 m]] w fun e w' => e = .returned (.bool (validV op a b c m)) ∧ Below w.heap.size w w' := by
  have kc := conv_bytes
  go_enter Try.func23, Try.ntmps23
  go_wp2_with fail
  refine (find_op op _ h0 h1).mono ?_
  rintro e w1 ⟨rfl, hb⟩
  have hV := VW.start hb
  clear hb
  go_wp2_with fail
  go_loopw [21] (fun i wr => ∃ k : Nat, k ≤ 4 ∧ i = .int .i64 k ∧ VW op a b c m w w1 wr ∧ ∀ j, j < k → okV op a b c m (lets.getD j 0) = true) (fun i _ => 4 - (intOf i).toNat)
  case atStart => exact ⟨0, by omega, rfl, hV, fun j hj => by omega⟩
  case round =>
    obtain ⟨k, hk, rfl, hw, hok⟩ := hrel
    have HOk := Lib.hid hok
    clear hok hV
    by_cases hlt : k < 4
    · obtain ⟨c1, c2, c3⟩ := hw.facts
      have cl := hw.letter k hlt
      obtain ⟨l0, l1⟩ := lets_range k hlt
      obtain ⟨ch, hch⟩ : ∃ ch, ch = lets.getD k 0 := ⟨_, rfl⟩
      rw [← hch] at cl l0 l1
      have HCh := Lib.hid hch
      clear hch
      have cf := hw.fld ch
      have hsz := ops_short op
      go_wp2_with fail
      refine (field_any _ ch _ (by omega) (by omega)).mono ?_
      rintro e w2 ⟨rfl, rfl⟩
      go_wp2_with fail
      refine (has_any (opsS op) ch _ (by omega)).mono ?_
      rintro e w2 ⟨rfl, hb2⟩
      have hw2 := hw.after hb2
      clear c1 c2 c3 cl cf hb2 hw
      obtain ⟨c1, c2, c3⟩ := hw2.facts
      go_wp2_with fail
      all_goals (try (go_quiet (fail); go_wp2_with fail))
      all_goals first
        | (have hA : (!hasB (opsS op) ch) = true := by assumption
           have hE := ok_A (a := a) (b := b) (c := c) (m := m) hA)
        | (have hA : (!hasB (opsS op) ch) = false := by assumption
           have hD : (ch == 105) = false := by assumption
           have hE := ok_B (a := a) (b := b) (c := c) (m := m) hA hD)
        | (have hA : (!hasB (opsS op) ch) = false := by assumption
           have hD : (ch == 105) = true := by assumption
           have hE := ok_C (a := a) (b := b) (c := c) (m := m) hA hD)
      all_goals first
        | (go_ret
           have hF : okV op a b c m ch = false := by rw [hE, decide_eq_false_iff_not]; omega
           exact ⟨valid_rej hlt HCh.out hF, by first | exact hw2.below | exact below_drewN hw2.below _⟩)
        | (have hF : okV op a b c m ch = true := by rw [hE, decide_eq_true_iff]; omega
           have HF := Lib.hid hF
           clear hE hF
           go_roundw
           case rel => exact ⟨k + 1, by omega, by go_num, by first | exact hw2 | exact hw2.drewN _, valid_acc HCh.out HF.out HOk.out⟩
           case measure => simp [intOf]; omega)
    · obtain rfl : k = 4 := by omega
      go_wp2_with fail
      go_ret
      exact ⟨valid_all h1 HOk.out, hw.below⟩

set_option maxRecDepth 100000 in
set_option maxHeartbeats 400000 in
theorem valid_no (op a b c m : Int) (w : World) (h0 : 30 ≤ op) (h1 : op ≤ 255) :
    Calls Try.prog 23 #[.agg #[.int .u8 op, .int .i64 a, .int .i64 b, .int .i64 c, .int .i64 m]] w fun e w' => e = .returned (.bool (validV op a b c m)) ∧ Below w.heap.size w w' := by
  have hv : Hid (validV op a b c m = false) := by
    show validV op a b c m = false
    simp [validV]; omega
  go_enter Try.func23, Try.ntmps23
  go_wp2_with fail
  refine (find_no op _ h0 h1).mono ?_
  rintro e w1 ⟨rfl, hb⟩
  have hB : Below w.heap.size w w1 := ((Below.refl _ _).alloc (Nat.le_refl _) _).trans (hb.mono (by simp))
  go_wp2_with fail
  go_ret
  exact ⟨by rw [hv.out]; rfl, hB.alloc hB.size _⟩

theorem valid_any (op a b c m : Int) (w : World) (h0 : 0 ≤ op) (h1 : op ≤ 255) :
    Calls Try.prog 23 #[.agg #[.int .u8 op, .int .i64 a, .int .i64 b, .int .i64 c, .int .i64 m]] w fun e w' => e = .returned (.bool (validV op a b c m)) ∧ Below w.heap.size w w' := by
  by_cases h : op < 30
  · exact valid_yes op a b c m w h0 h
  · exact valid_no op a b c m w (by omega) h1
end Go.Proofs.Ytchmhnodcjidkaa
