/-
  The walk of isa.Decode.
-/
import Derived.Test.YtchmhnodcjidkaaW5
namespace Go.Proofs.Ytchmhnodcjidkaa
open Go.RowKit Go.Maps

/-- The world in Decode: the result's box, the instruction's box. -/
structure DW (op a b c m : Int) (w wr : World) : Prop where
  res : Holds wr w.heap.size 23 (insCells 0 0 0 0 0)
  ins : Holds wr (w.heap.size + 1) 23 (insCells op a b c m)
  below : Below w.heap.size w wr

section
variable {op a b c m : Int} {w wr w' : World}
theorem DW.after (h : DW op a b c m w wr) (hb : Below wr.heap.size wr w') : DW op a b c m w w' :=
  ⟨h.res.after hb, h.ins.after hb, h.below.trans (hb.mono h.below.size)⟩
theorem DW.alloc (h : DW op a b c m w wr) (o : Obj) : DW op a b c m w (wr.alloc o) :=
  h.after ((Below.refl _ _).alloc (Nat.le_refl _) o)
theorem DW.start : DW op 0 0 0 0 w ((w.alloc (.cells (insCells 0 0 0 0 0) 23)).alloc (.cells (insCells op 0 0 0 0) 23)) := by
  refine ⟨(holds_new _ _ _).alloc _, ?_, ((Below.refl _ _).alloc (Nat.le_refl _) _).alloc (by simp) _⟩
  have := holds_new (w.alloc (.cells (insCells 0 0 0 0 0) 23)) 23 (insCells op 0 0 0 0)
  simpa using this
theorem DW.rcell (h : DW op a b c m w wr) : (∀ j, wr.cell? ⟨w.heap.size, j, none⟩ = (insCells 0 0 0 0 0)[j]?) ∧ (∀ j, wr.frozen? ⟨w.heap.size, j, none⟩ = false) :=
  ⟨fun j => h.res.cell j, fun j => h.res.free j⟩
theorem DW.rcells (h : DW op a b c m w wr) : wr.cell? ⟨w.heap.size, 0, none⟩ = some (.int .u8 0) ∧ wr.cell? ⟨w.heap.size, 1, none⟩ = some (.int .i64 0) ∧ wr.cell? ⟨w.heap.size, 2, none⟩ = some (.int .i64 0) ∧ wr.cell? ⟨w.heap.size, 3, none⟩ = some (.int .i64 0) ∧ wr.cell? ⟨w.heap.size, 4, none⟩ = some (.int .i64 0) :=
  ⟨h.res.cell 0, h.res.cell 1, h.res.cell 2, h.res.cell 3, h.res.cell 4⟩
theorem DW.icells (h : DW op a b c m w wr) : wr.cell? ⟨w.heap.size + 1, 0, none⟩ = some (.int .u8 op) ∧ wr.cell? ⟨w.heap.size + 1, 1, none⟩ = some (.int .i64 a) ∧ wr.cell? ⟨w.heap.size + 1, 2, none⟩ = some (.int .i64 b) ∧ wr.cell? ⟨w.heap.size + 1, 3, none⟩ = some (.int .i64 c) ∧ wr.cell? ⟨w.heap.size + 1, 4, none⟩ = some (.int .i64 m) :=
  ⟨h.ins.cell 0, h.ins.cell 1, h.ins.cell 2, h.ins.cell 3, h.ins.cell 4⟩
theorem DW.rfree (h : DW op a b c m w wr) : ∀ j, wr.frozen? ⟨w.heap.size, j, none⟩ = false := fun j => h.res.free j
theorem DW.ifree (h : DW op a b c m w wr) : ∀ j, wr.frozen? ⟨w.heap.size + 1, j, none⟩ = false := fun j => h.ins.free j
end

theorem below_five {w wr : World} (h : Below w.heap.size w wr) (u0 u1 u2 u3 u4 : Value) :
    Below w.heap.size w (((((wr.setCell ⟨w.heap.size, 0, none⟩ u0).setCell ⟨w.heap.size, 1, none⟩ u1).setCell ⟨w.heap.size, 2, none⟩ u2).setCell ⟨w.heap.size, 3, none⟩ u3).setCell ⟨w.heap.size, 4, none⟩ u4) :=
  ((((h.setCell (Nat.le_refl _) _).setCell (Nat.le_refl _) _).setCell (Nat.le_refl _) _).setCell (Nat.le_refl _) _).setCell (Nat.le_refl _) _

set_option maxRecDepth 100000 in
set_option maxHeartbeats 1000000 in
theorem decode_no (x : Int) (w : World) (h0 : 0 ≤ x) (h1 : x ≤ 4294967295) (hop : 30 ≤ x / 67108864) :
    Calls Try.prog 25 #[.int .u32 x] w fun e w' => e = .returned (.tuple #[.agg #[.int .u8 0, .int .i64 0, .int .i64 0, .int .i64 0, .int .i64 0], .int .i64 3]) ∧ Below w.heap.size w w' := by
  have hD := DW.start (w := w) (op := x / 67108864)
  go_enter Try.func25, Try.ntmps25
  go_wp2_with fail
  refine (find_no _ _ (by omega) (by omega)).mono ?_
  rintro e w1 ⟨rfl, hb⟩
  have hD1 := hD.after hb
  clear hD hb
  obtain ⟨r0, r1, r2, r3, r4⟩ := hD1.rcells
  have rf := hD1.rfree
  have hsz : w.heap.size < w1.heap.size := hD1.res.lt
  go_wp2_with fail
  refine bodyPost_ret (v := .tuple #[.agg #[.int .u8 0, .int .i64 0, .int .i64 0, .int .i64 0, .int .i64 0], .int .i64 3]) ?_ rfl ⟨rfl, ?_⟩
  · simp [results, Try.results25, go_sem, hsz, r0, r1, r2, r3, r4]
  · have h5 := below_five hD1.below (.int .u8 0) (.int .i64 0) (.int .i64 0) (.int .i64 0) (.int .i64 0)
    exact h5.alloc h5.size _

/-- The value that a letter of the operands gets out of a word. -/
def decX (x ch : Int) : Int := if ch = 105 then wrap64 (wrap32 (x * 16384 % 4294967296) / 16384) else wrap64 (bits BinOp.and IntKind.u32 (x / 2 ^ (posOf ch).toNat) 15)
/-- A field behind k letters. -/
def decF (op x : Int) (k : Nat) (ch : Int) : Int := if ch ∈ (nums (opsS op)).take k then decX x ch else 0

theorem take_next (l : List Int) (k : Nat) (hk : k < l.length) (ch : Int) : ch ∈ l.take (k + 1) ↔ ch ∈ l.take k ∨ ch = l.getD k 0 := by
  rw [List.take_succ_eq_append_getElem hk, List.mem_append, List.mem_singleton, List.getD_eq_getElem?_getD, List.getElem?_eq_getElem hk]
  rfl
theorem decF_same {op x ch : Int} {k : Nat} (hk : k < (opsS op).size) (hch : ch = (nums (opsS op)).getD k 0) : decF op x (k + 1) ch = decX x ch := by
  unfold decF
  rw [if_pos ((take_next _ k (by rw [nums_length]; exact hk) ch).2 (.inr hch))]
theorem decF_other {op x ch d : Int} {k : Nat} (hk : k < (opsS op).size) (hch : ch = (nums (opsS op)).getD k 0) (hd : d ≠ ch) : decF op x (k + 1) d = decF op x k d := by
  unfold decF
  have := take_next (nums (opsS op)) k (by rw [nums_length]; exact hk) d
  by_cases h : d ∈ (nums (opsS op)).take k
  · rw [if_pos h, if_pos (this.2 (.inl h))]
  · rw [if_neg h, if_neg (fun e => (this.1 e).elim h (fun e => hd (e.trans hch.symm)))]
theorem ops_letters (op : Int) : ∀ ch ∈ nums (opsS op), ch = 97 ∨ ch = 98 ∨ ch = 99 ∨ ch = 105 := by
  by_cases h : op.toNat < 30
  · have : ∀ i : Nat, i < 30 → ∀ ch ∈ nums ⟨(rowOf i).ops.toArray⟩, ch = 97 ∨ ch = 98 ∨ ch = 99 ∨ ch = 105 := by decide
    exact this _ h
  · have : rowOf op.toNat = nilRow := by
      unfold rowOf
      rw [List.getD_eq_getElem?_getD, List.getElem?_eq_none (by rw [tab_length]; omega)]; rfl
    unfold opsS
    rw [this]
    decide
theorem DW.step {op x ch : Int} {k : Nat} {w wr : World} (h : DW op (decF op x k 97) (decF op x k 98) (decF op x k 99) (decF op x k 105) w wr) (hk : k < (opsS op).size) (hch : ch = (nums (opsS op)).getD k 0) {v : Int} (hv : v = decX x ch) :
    DW op (decF op x (k + 1) 97) (decF op x (k + 1) 98) (decF op x (k + 1) 99) (decF op x (k + 1) 105) w (wr.setCell ⟨w.heap.size + 1, fldIx ch, none⟩ (.int .i64 v)) := by
  subst hv
  refine ⟨h.res.far (by simp) _, ?_, h.below.setCell (by simp) _⟩
  have hl := ops_letters op ch (by
    rw [hch, List.getD_eq_getElem?_getD, List.getElem?_eq_getElem (by rw [nums_length]; exact hk)]
    exact List.getElem_mem _)
  have e := h.ins.put (fldIx ch) (.int .i64 (decX x ch))
  have hs := decF_same (x := x) hk hch
  have ho := fun d (hd : d ≠ ch) => decF_other (x := x) hk hch hd
  rcases hl with rfl | rfl | rfl | rfl
  · rw [hs, ho 98 (by decide), ho 99 (by decide), ho 105 (by decide)]
    exact e
  · rw [hs, ho 97 (by decide), ho 99 (by decide), ho 105 (by decide)]
    exact e
  · rw [hs, ho 98 (by decide), ho 97 (by decide), ho 105 (by decide)]
    exact e
  · rw [hs, ho 98 (by decide), ho 99 (by decide), ho 97 (by decide)]
    exact e
theorem BytesAt.far {w : World} {g : Nat} {s : ByteArray} (h : BytesAt w g s) {p : Addr} (hp : g ≠ p.block) (u : Value) : BytesAt (w.setCell p u) g s :=
  ⟨by simpa using h.1, fun j hj => (World.cell?_setCell_other w p ⟨g, j, none⟩ u (fun e => hp (by rw [e]))).trans (h.2 j hj)⟩
theorem DW.fcell {op a b c m : Int} {w wr : World} (h : DW op a b c m w wr) (ch : Int) : ∃ v, wr.cell? ⟨w.heap.size + 1, fldIx ch, none⟩ = some v := by
  rw [h.ins.cell]
  unfold fldIx
  by_cases h1 : ch = 97
  · exact ⟨_, by rw [if_pos h1]; rfl⟩
  by_cases h2 : ch = 98
  · exact ⟨_, by rw [if_neg h1, if_pos h2]; rfl⟩
  by_cases h3 : ch = 99
  · exact ⟨_, by rw [if_neg h1, if_neg h2, if_pos h3]; rfl⟩
  · exact ⟨_, by rw [if_neg h1, if_neg h2, if_neg h3]; rfl⟩

/-- A field of the word's instruction, beyond the test. -/
def decG (x ch : Int) : Int := decF (x / 67108864) x (opsS (x / 67108864)).size ch
/-- Is the word an encoding? -/
def decOk (x : Int) : Bool := decide (x / 67108864 < 30) && (encE (x / 67108864) (decG x 97) (decG x 98) (decG x 99) (decG x 105) == 0) && (encW (x / 67108864) (decG x 97) (decG x 98) (decG x 99) (decG x 105) == x)
def dOp (x : Int) : Int := if decOk x = true then x / 67108864 else 0
def dA (x : Int) : Int := if decOk x = true then decG x 97 else 0
def dB (x : Int) : Int := if decOk x = true then decG x 98 else 0
def dC (x : Int) : Int := if decOk x = true then decG x 99 else 0
def dM (x : Int) : Int := if decOk x = true then decG x 105 else 0
def dE (x : Int) : Int := if decOk x = true then 0 else 3
def DecPost (x : Int) (w : World) (e : Ending) (w' : World) : Prop :=
  e = .returned (.tuple #[.agg #[.int .u8 (dOp x), .int .i64 (dA x), .int .i64 (dB x), .int .i64 (dC x), .int .i64 (dM x)], .int .i64 (dE x)]) ∧ Below w.heap.size w w'
theorem dec_bad {x : Int} {w w' : World} (h : decOk x = false) (hb : Below w.heap.size w w') : DecPost x w (.returned (.tuple #[.agg #[.int .u8 0, .int .i64 0, .int .i64 0, .int .i64 0, .int .i64 0], .int .i64 3])) w' := by
  refine ⟨?_, hb⟩
  simp [dOp, dA, dB, dC, dM, dE, h]
theorem dec_good {x : Int} {w w' : World} (h : decOk x = true) (hb : Below w.heap.size w w') : DecPost x w (.returned (.tuple #[.agg #[.int .u8 (x / 67108864), .int .i64 (decG x 97), .int .i64 (decG x 98), .int .i64 (decG x 99), .int .i64 (decG x 105)], .int .i64 0])) w' := by
  refine ⟨?_, hb⟩
  simp [dOp, dA, dB, dC, dM, dE, h]

set_option maxRecDepth 100000 in
set_option maxHeartbeats 1000000 in
theorem decode_yes (x : Int) (w : World) (h0 : 0 ≤ x) (h1 : x ≤ 4294967295) (hop : x / 67108864 < 30) :
    Calls Try.prog 25 #[.int .u32 x] w (DecPost x w) := by
  have hcv := fun w s => Lib.run_convert_string_bytes (P := Try.prog) w 9 75 5 s Try.underlying9 Try.underlying75 Try.underlying5
  have hD := DW.start (w := w) (op := x / 67108864)
  obtain ⟨op, ho⟩ : ∃ op, op = x / 67108864 := ⟨_, rfl⟩
  rw [← ho] at hD hop
  have ho0 : 0 ≤ op := by omega
  go_enter Try.func25, Try.ntmps25
  go_wp2_with fail
  refine (find_op _ _ (by omega) (by omega)).mono ?_
  rintro e w1 ⟨rfl, hb⟩
  rw [← ho] at hb ⊢
  have HO := Lib.hid ho
  clear ho
  have hD1 := (hD.after hb).alloc (.cells (rowCells op) 71)
  have hY : BytesAt (Lib.bytesWorld (w1.alloc (.cells (rowCells op) 71)) 5 (opsS op)) (w1.heap.size + 1) (opsS op) := by
    have := bytesAt_new (w1.alloc (.cells (rowCells op) 71)) (opsS op)
    rwa [World.size_alloc] at this
  have hD2 := hD1.after (below_bytes (w1.alloc (.cells (rowCells op) 71)) 5 (opsS op))
  have hsz : w.heap.size + 1 < w1.heap.size := (hD.after hb).ins.lt
  clear hD hb hD1
  go_wp2_with fail
  have hops := ops_short op
  go_loopw [28] (fun i wr => ∃ (k : Nat), k ≤ (opsS op).size ∧ i = .int .i64 k ∧ DW op (decF op x k 97) (decF op x k 98) (decF op x k 99) (decF op x k 105) w wr ∧ BytesAt wr (w1.heap.size + 1) (opsS op)) (fun i _ => (opsS op).size - (intOf i).toNat)
  case atStart => exact ⟨0, by omega, rfl, hD2, hY⟩
  case round =>
    clear hD2 hY
    obtain ⟨k, hk, rfl, hE, hY⟩ := hrel
    by_cases hlt : k < (opsS op).size
    · have cl := hY.2 k hlt
      obtain ⟨l0, l1⟩ := nums_range (opsS op) k
      obtain ⟨ch, hch⟩ : ∃ ch, ch = (nums (opsS op)).getD k 0 := ⟨_, rfl⟩
      rw [← hch] at cl l0 l1
      have HCh := Lib.hid hch
      clear hch
      obtain ⟨i0, i1, i2, i3, i4⟩ := hE.icells
      have ifr := hE.ifree
      by_cases h105 : (ch == 105) = true
      · have HX : Hid (wrap64 (wrap32 (x * 16384 % 4294967296) / 16384) = decX x ch) := by
          show _ = decX x ch
          unfold decX
          rw [if_pos (by simpa using h105)]
        have h4 : fldIx ch = 4 := by
          have : ch = 105 := by simpa using h105
          rw [this]; rfl
        have hST := Lib.hid (hE.step (v := wrap64 (wrap32 (x * 16384 % 4294967296) / 16384)) hlt HCh.out HX.out)
        rw [h4] at hST
        clear h4
        go_wp2_with fail
        go_roundw
        case rel => exact ⟨k + 1, by omega, by go_num, hST.out, hY.far (by simp; omega) _⟩
        case measure => simp [intOf]; omega
      · obtain ⟨p0, p1⟩ := posOf_range ch
        have h105' : (ch == 105) = false := by simpa using h105
        clear h105
        have HX : Hid (wrap64 (bits BinOp.and IntKind.u32 (x / 2 ^ (posOf ch).toNat) 15) = decX x ch) := by
          show _ = decX x ch
          unfold decX
          rw [if_neg (by simpa using h105')]
        go_wp2_with fail
        refine (field_any _ ch _ (by omega) (by omega)).mono ?_
        rintro e w3 ⟨rfl, rfl⟩
        go_wp2_with fail
        refine (position_any ch _ (by omega) (by omega)).mono ?_
        rintro e w3 ⟨rfl, hb3⟩
        have hE3 := hE.after hb3
        have hY3 := hY.after hb3
        clear hb3 hE hY cl i0 i1 i2 i3 i4 ifr
        have ifr := hE3.ifree
        obtain ⟨vo, cf⟩ := hE3.fcell ch
        have hST := Lib.hid (hE3.step (v := wrap64 (bits BinOp.and IntKind.u32 (x / 2 ^ (posOf ch).toNat) 15)) hlt HCh.out HX.out)
        go_wp2_with fail
        go_roundw
        case rel => exact ⟨k + 1, by omega, by go_num, hST.out, hY3.far (by simp; omega) _⟩
        case measure => simp [intOf]; omega
    · obtain rfl : k = (opsS op).size := by omega
      have hG : Hid (∀ ch, decF op x (opsS op).size ch = decG x ch) := by
        show ∀ ch, _ = _
        intro ch
        unfold decG
        rw [← HO.out]
      rw [hG.out 97, hG.out 98, hG.out 99, hG.out 105] at hE
      clear hG
      obtain ⟨i0, i1, i2, i3, i4⟩ := hE.icells
      go_wp2_with fail
      refine (encode_any op (decG x 97) (decG x 98) (decG x 99) (decG x 105) _ ho0 (by omega)).mono ?_
      rintro e w3 ⟨rfl, hb3⟩
      have hE3 := hE.after hb3
      clear hb3 hE hY i0 i1 i2 i3 i4
      obtain ⟨i0, i1, i2, i3, i4⟩ := hE3.icells
      obtain ⟨r0, r1, r2, r3, r4⟩ := hE3.rcells
      have rf := hE3.rfree
      have hOk : decOk x = ((encE op (decG x 97) (decG x 98) (decG x 99) (decG x 105) == 0) && (encW op (decG x 97) (decG x 98) (decG x 99) (decG x 105) == x)) := by
        unfold decOk
        rw [← HO.out, decide_eq_true hop, Bool.true_and]
      by_cases he : (encE op (decG x 97) (decG x 98) (decG x 99) (decG x 105) == 0) = true
      · by_cases hw : (encW op (decG x 97) (decG x 98) (decG x 99) (decG x 105) == x) = true
        · rw [he, hw] at hOk
          have HOk := Lib.hid hOk
          have he' : (encE op (decG x 97) (decG x 98) (decG x 99) (decG x 105) != 0) = false := by simpa using he
          have hw' : (encW op (decG x 97) (decG x 98) (decG x 99) (decG x 105) != x) = false := by simpa using hw
          clear hOk he hw
          go_wp2_with fail
          refine bodyPost_ret (v := .tuple #[.agg #[.int .u8 (x / 67108864), .int .i64 (decG x 97), .int .i64 (decG x 98), .int .i64 (decG x 99), .int .i64 (decG x 105)], .int .i64 0]) ?_ rfl (dec_good HOk.out (below_five hE3.below _ _ _ _ _))
          simp [results, Try.results25, go_sem, r0, r1, r2, r3, r4, HO.out]
        · have hw1 : (encW op (decG x 97) (decG x 98) (decG x 99) (decG x 105) == x) = false := (Bool.not_eq_true _).mp hw
          rw [he, hw1] at hOk
          have HOk := Lib.hid hOk
          have he' : (encE op (decG x 97) (decG x 98) (decG x 99) (decG x 105) != 0) = false := by simpa using he
          have hw' : (encW op (decG x 97) (decG x 98) (decG x 99) (decG x 105) != x) = true := by simpa using hw
          clear hOk he hw hw1
          go_wp2_with fail
          refine bodyPost_ret (v := .tuple #[.agg #[.int .u8 0, .int .i64 0, .int .i64 0, .int .i64 0, .int .i64 0], .int .i64 3]) ?_ rfl (dec_bad HOk.out (below_five hE3.below _ _ _ _ _))
          simp [results, Try.results25, go_sem, r0, r1, r2, r3, r4]
      · have he1 : (encE op (decG x 97) (decG x 98) (decG x 99) (decG x 105) == 0) = false := (Bool.not_eq_true _).mp he
        rw [he1, Bool.false_and] at hOk
        have HOk := Lib.hid hOk
        have he' : (encE op (decG x 97) (decG x 98) (decG x 99) (decG x 105) != 0) = true := by simpa using he
        clear hOk he he1
        go_wp2_with fail
        refine bodyPost_ret (v := .tuple #[.agg #[.int .u8 0, .int .i64 0, .int .i64 0, .int .i64 0, .int .i64 0], .int .i64 3]) ?_ rfl (dec_bad HOk.out (below_five hE3.below _ _ _ _ _))
        simp [results, Try.results25, go_sem, r0, r1, r2, r3, r4]

theorem decode_any (x : Int) (w : World) (h0 : 0 ≤ x) (h1 : x ≤ 4294967295) : Calls Try.prog 25 #[.int .u32 x] w (DecPost x w) := by
  by_cases h : x / 67108864 < 30
  · exact decode_yes x w h0 h1 h
  · refine (decode_no x w h0 h1 (by omega)).mono ?_
    rintro e w' ⟨rfl, hb⟩
    refine dec_bad ?_ hb
    unfold decOk
    rw [decide_eq_false h]; rfl
end Go.Proofs.Ytchmhnodcjidkaa
