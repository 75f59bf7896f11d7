/-
  The walks of isa.Reads and isa.Writes.
-/
import Derived.Test.YtchmhnodcjidkaaA1
import Derived.Test.YtchmhnodcjidkaaB3
namespace Go.Proofs.Ytchmhnodcjidkaa
open Go.RowKit Go.Maps

theorem row_none {op : Int} (h : 30 ≤ op) : rowOf op.toNat = nilRow := by
  unfold rowOf
  rw [List.getD_eq_getElem?_getD, List.getElem?_eq_none (by rw [tab_length]; omega)]; rfl

theorem find_all (op : Int) (w : World) (h0 : 0 ≤ op) (h1 : op ≤ 255) :
    Calls Try.prog 51 #[.int .u8 op] w fun e w' => e = .returned (.tuple #[.agg #[.string (nmS op), .string (opsS op), .int .i64 (lowI op), .int .i64 (highI op), .string (rdS op), .string (wrS op)], .bool (decide (op < 30))]) ∧ Below w.heap.size w w' := by
  by_cases h : op < 30
  · rw [decide_eq_true h]
    exact find_op op w h0 h
  · rw [decide_eq_false h]
    have e := row_none (op := op) (by omega)
    unfold nmS opsS lowI highI rdS wrS
    rw [e]
    exact find_no op w (by omega) h1

theorem rd_short (op : Int) : (rdS op).size ≤ 2 := by
  by_cases h : op.toNat < 30
  · have : ∀ i : Nat, i < 30 → (⟨(rowOf i).rd.toArray⟩ : ByteArray).size ≤ 2 := by decide
    exact this _ h
  · unfold rdS
    rw [row_none (by omega)]
    decide
theorem rd_letters (op : Int) : ∀ ch ∈ nums (rdS op), ch = 97 ∨ ch = 98 ∨ ch = 99 := by
  by_cases h : op.toNat < 30
  · have : ∀ i : Nat, i < 30 → ∀ ch ∈ nums ⟨(rowOf i).rd.toArray⟩, ch = 97 ∨ ch = 98 ∨ ch = 99 := by decide
    exact this _ h
  · unfold rdS
    rw [row_none (by omega)]
    decide

/-- The registers of the read letters, as they stand in the instruction. -/
def rawL (op a b c m : Int) : List Int := (nums (rdS op)).map (fldV a b c m)
theorem rawL_length (op a b c m : Int) : (rawL op a b c m).length = (rdS op).size := by simp [rawL, nums]
/-- What Reads answers. -/
def rdL (op a b c m : Int) : List Int := if validV op a b c m = true then del2 (cmp2 (srt2 (rawL op a b c m))) else []

theorem own_mono {w : World} {base base' : Nat} {v : Value} {L : List Int} (h : OwnInts w base' v L) (hb : base ≤ base') : OwnInts w base v L := by
  obtain ⟨h1, h2⟩ := h
  refine ⟨h1, ?_⟩
  rcases h2 with h2 | ⟨g, cap, cur, hv, hg, r⟩
  · exact .inl h2
  · exact .inr ⟨g, cap, cur, hv, Nat.le_trans hb hg, r⟩
theorem own_nil (w : World) (base : Nat) : OwnInts w base (.slice none 0 0) [] := World.ownsRow_nil w base 3 1
theorem own_grown {a w w' : World} {v : Value} {L : List Int} {B : Nat} (hb : Below B a w) (hB : B ≤ w.heap.size) (h : OwnInts w B v L) (hg : w.grownBy w' v.ownBlock) : Below B a w' :=
  hb.grown hg hB (fun k hk => (World.ownsRow.lt h k hk).1)
theorem own_len {w : World} {base : Nat} {v : Value} {L L' : List Int} (h : OwnInts w base v L) (hL : L = L') : OwnInts w base v L' := hL ▸ h

theorem info3 : (Try.prog.info? 3).map (fun i => (i.zero, i.size, i.bytes)) = some (some (.int .i64 0), 1, 8) := by kernel_rfl

theorem raw_succ {op a b c m ch : Int} {k : Nat} (hk : k < (rdS op).size) (hch : ch = (nums (rdS op)).getD k 0) : (rawL op a b c m).take (k + 1) = (rawL op a b c m).take k ++ [fldV a b c m ch] := by
  have hl : k < (rawL op a b c m).length := by rw [rawL_length]; exact hk
  have hl2 : k < (nums (rdS op)).length := by rw [nums_length]; exact hk
  rw [List.take_succ_eq_append_getElem hl]
  congr 1
  rw [hch, List.getD_eq_getElem?_getD, List.getElem?_eq_getElem hl2]
  simp [rawL]

theorem raw_nonneg {op a b c m : Int} (h : 0 ≤ a ∧ 0 ≤ b ∧ 0 ≤ c) : ∀ x ∈ rawL op a b c m, 0 ≤ x := by
  intro x hx
  obtain ⟨ch, hch, rfl⟩ := List.mem_map.1 hx
  rcases rd_letters op ch hch with rfl | rfl | rfl
  · exact h.1
  · exact h.2.1
  · exact h.2.2

theorem sorted_facts (L : List Int) (hl : L.length ≤ 2) (h : ∀ x ∈ L, 0 ≤ x) :
    (srt2 L).length ≤ 2 ∧ (cmp2 (srt2 L)).length ≤ 2 ∧ (∀ x y, cmp2 (srt2 L) = [x, y] → x ≠ 0 → y ≠ 0) ∧ (∀ x y, cmp2 (srt2 L) = [x, y] → x ≠ y) ∧ (del2 (cmp2 (srt2 L))).length ≤ 2 := by
  match L, hl, h with
  | [], _, _ => exact ⟨by decide, by decide, fun x y e => by simp [srt2, cmp2] at e, fun x y e => by simp [srt2, cmp2] at e, by decide⟩
  | [x], _, _ =>
    refine ⟨by simp [srt2], by simp [srt2, cmp2], fun x y e => by simp [srt2, cmp2] at e, fun x y e => by simp [srt2, cmp2] at e, ?_⟩
    exact Nat.le_trans (List.length_filter_le _ _) (by simp [srt2, cmp2])
  | [x, y], _, h =>
    have hx := h x (by simp)
    have hy := h y (by simp)
    have key : ∀ p q : Int, 0 ≤ p → p ≤ q → (cmp2 [p, q]).length ≤ 2 ∧ (∀ x y, cmp2 [p, q] = [x, y] → x ≠ 0 → y ≠ 0) ∧ (∀ x y, cmp2 [p, q] = [x, y] → x ≠ y) ∧ (del2 (cmp2 [p, q])).length ≤ 2 := by
      intro p q hp hpq
      by_cases e : q = p
      · subst e
        have e1 : cmp2 [q, q] = [q] := by simp [cmp2]
        rw [e1]
        exact ⟨by simp, fun x y e => by simp at e, fun x y e => by simp at e, Nat.le_trans (List.length_filter_le _ _) (by simp)⟩
      · have e1 : cmp2 [p, q] = [p, q] := by simp [cmp2, e]
        rw [e1]
        refine ⟨by simp, fun x y h hx => ?_, fun x y h => ?_, Nat.le_trans (List.length_filter_le _ _) (by simp)⟩
        · simp at h; obtain ⟨rfl, rfl⟩ := h; omega
        · simp at h; obtain ⟨rfl, rfl⟩ := h; exact fun h' => e h'.symm
    rw [srt2_two]
    by_cases e : y < x
    · rw [if_pos e]
      exact ⟨by simp, key y x hy (by omega)⟩
    · rw [if_neg e]
      exact ⟨by simp, key x y hx (by omega)⟩

theorem EW.start2 {op a b c m : Int} {w w2 : World} (hI : Holds w2 w.heap.size 23 (insCells op a b c m)) (hB : Below w.heap.size w w2) :
    EW op a b c m w w2.heap.size (Lib.bytesWorld (w2.alloc (.cells (rowCells op) 71)) 5 (rdS op)) ∧ BytesAt (Lib.bytesWorld (w2.alloc (.cells (rowCells op) 71)) 5 (rdS op)) (w2.heap.size + 1) (rdS op) := by
  have h1 : EW op a b c m w w2.heap.size (w2.alloc (.cells (rowCells op) 71)) := ⟨hI.alloc _, holds_new _ _ _, hB.alloc hB.size _⟩
  refine ⟨h1.after (below_bytes _ _ _), ?_⟩
  have := bytesAt_new (w2.alloc (.cells (rowCells op) 71)) (rdS op)
  rwa [World.size_alloc] at this

/-- What Reads leaves. -/
def ReadsPost (L : List Int) (w : World) (e : Ending) (w' : World) : Prop := ∃ v, e = .returned v ∧ OwnInts w' w.heap.size v L ∧ Below w.heap.size w w'

set_option maxRecDepth 100000 in
set_option maxHeartbeats 2000000 in
theorem reads_no (op a b c m : Int) (w : World) (h0 : 0 ≤ op) (h1 : op ≤ 255) (hv : validV op a b c m = false) :
    Calls Try.prog 32 #[.agg #[.int .u8 op, .int .i64 a, .int .i64 b, .int .i64 c, .int .i64 m]] w (ReadsPost (rdL op a b c m) w) := by
  have HV := Lib.hid hv
  have hE : Hid (rdL op a b c m = []) := by
    show rdL op a b c m = []
    unfold rdL
    rw [if_neg (by rw [hv]; simp)]
  clear hv
  have hI0 := holds_new w 23 (insCells op a b c m)
  have hB0 := (Below.refl w.heap.size w).alloc (Nat.le_refl _) (.cells (insCells op a b c m) 23)
  go_enter Try.func32, Try.ntmps32
  go_wp2_with fail
  refine (find_all op _ h0 h1).mono ?_
  rintro e w1 ⟨rfl, hb⟩
  have hI1 := hI0.after hb
  have hB1 := on hB0 hb
  have hsz := hI1.lt
  clear hI0 hB0 hb
  obtain ⟨i0, i1, i2, i3, i4⟩ := ins_cells hI1
  go_wp2_with fail
  refine (valid_any op a b c m _ h0 h1).mono ?_
  rintro e w2 ⟨rfl, hb⟩
  rw [HV.out]
  have hB2 := on (hB1.alloc hB1.size (.cells (rowCells op) 71)) hb
  clear hI1 hB1 hb i0 i1 i2 i3 i4 hsz
  go_wp2_with fail
  refine (sort_0 none 0 _).mono ?_
  rintro e w3 ⟨rfl, rfl⟩
  go_wp2_with fail
  refine (compact_small none 0 0 _ (by omega)).mono ?_
  rintro e w3 ⟨rfl, rfl⟩
  go_wp2_with fail
  refine (del_miss none 0 0 _ _ (idx_nil none 0 _ _)).mono ?_
  rintro e w3 ⟨rfl, rfl⟩
  go_wp2_with fail
  go_ret
  exact ⟨_, rfl, by rw [hE.out]; exact own_nil _ _, hB2⟩

theorem own_push {w1 : World} {base : Nat} {v' : Value} {L : List Int} {x : Int} (h : w1.ownsRow base 3 1 v' (L.length + 1) (L.map (Value.int .i64) ++ [.int .i64 x])) : OwnInts w1 base v' (L ++ [x]) := by
  unfold OwnInts
  simpa using h

set_option maxRecDepth 100000 in
set_option maxHeartbeats 2000000 in
theorem reads_yes (op a b c m : Int) (w : World) (h0 : 0 ≤ op) (h1 : op ≤ 255) (ha : 0 ≤ a ∧ 0 ≤ b ∧ 0 ≤ c) (hv : validV op a b c m = true) :
    Calls Try.prog 32 #[.agg #[.int .u8 op, .int .i64 a, .int .i64 b, .int .i64 c, .int .i64 m]] w (ReadsPost (rdL op a b c m) w) := by
  have hcv := fun w s => Lib.run_convert_string_bytes (P := Try.prog) w 9 75 5 s Try.underlying9 Try.underlying75 Try.underlying5
  have HV := Lib.hid hv
  have hE : Hid (rdL op a b c m = del2 (cmp2 (srt2 (rawL op a b c m)))) := by
    show rdL op a b c m = _
    unfold rdL
    rw [if_pos hv]
  clear hv
  have hraw : (rawL op a b c m).length ≤ 2 := by rw [rawL_length]; exact rd_short op
  have HF := Lib.hid (sorted_facts (rawL op a b c m) hraw (raw_nonneg ha))
  obtain ⟨i0, hi, hi2⟩ : ∃ i0, Try.prog.info? 3 = some i0 ∧ i0.zero = some (.int .i64 0) ∧ i0.size = 1 ∧ i0.bytes = 8 := by
    have := info3
    cases e : Try.prog.info? 3 with
    | none => rw [e] at this; simp at this
    | some i0 => rw [e] at this; simp at this; exact ⟨i0, rfl, this⟩
  obtain ⟨hz0, hz1, hz2⟩ := hi2
  have hI0 := holds_new w 23 (insCells op a b c m)
  have hB0 := (Below.refl w.heap.size w).alloc (Nat.le_refl _) (.cells (insCells op a b c m) 23)
  go_enter Try.func32, Try.ntmps32
  go_wp2_with fail
  refine (find_all op _ h0 h1).mono ?_
  rintro e w1 ⟨rfl, hb⟩
  have hI1 := hI0.after hb
  have hB1 := on hB0 hb
  have hsz := hI1.lt
  clear hI0 hB0 hb
  obtain ⟨j0, j1, j2, j3, j4⟩ := ins_cells hI1
  go_wp2_with fail
  refine (valid_any op a b c m _ h0 h1).mono ?_
  rintro e w2 ⟨rfl, hb⟩
  rw [HV.out]
  have hEW : EW op a b c m w w1.heap.size w2 := ⟨(hI1.alloc _).after hb, (holds_new _ _ _).after hb, on (hB1.alloc hB1.size (.cells (rowCells op) 71)) hb⟩
  clear hI1 hB1 hb j0 j1 j2 j3 j4 hsz
  have cr : w2.cell? ⟨w1.heap.size, 4, none⟩ = some (.string (rdS op)) := hEW.row.cell 4
  have hs1 : w1.heap.size < w2.heap.size := hEW.row.lt
  go_wp2_with fail
  have hE0 := hEW.after (below_bytes w2 5 (rdS op))
  have hY0 := bytesAt_new w2 (rdS op)
  have hgr := hY0.1
  generalize Lib.bytesWorld w2 5 (rdS op) = W0 at *
  have hlen := rd_short op
  go_loopw [3, 20] (fun v i wr => ∃ (k : Nat), k ≤ (rdS op).size ∧ i = .int .i64 k ∧ OwnInts wr W0.heap.size v ((rawL op a b c m).take k) ∧ Below W0.heap.size W0 wr) (fun _ i _ => (rdS op).size - (intOf i).toNat)
  case atStart => exact ⟨0, by omega, rfl, own_nil _ _, Below.refl _ _⟩
  case round =>
    obtain ⟨k, hk, rfl, hown, hbr⟩ := hrel
    by_cases hlt : k < (rdS op).size
    · have cl := (hY0.after hbr).2 k hlt
      have hEr := hE0.after hbr
      have hbs := hbr.size
      obtain ⟨l0, l1⟩ := nums_range (rdS op) k
      obtain ⟨ch, hch⟩ : ∃ ch, ch = (nums (rdS op)).getD k 0 := ⟨_, rfl⟩
      rw [← hch] at cl l0 l1
      have hrs := raw_succ (op := op) (a := a) (b := b) (c := c) (m := m) hlt hch
      have HRS := Lib.hid hrs
      have hkl : ((rawL op a b c m).take k).length = k := by rw [List.length_take, rawL_length]; omega
      clear hch hrs
      have cf := hEr.fld ch
      go_wp2_with fail
      refine (field_any _ ch _ (by omega) (by omega)).mono ?_
      rintro e w3 ⟨rfl, rfl⟩
      go_wp2_with (at_builtin; refine wpList_append_own _ rfl (.tmp 24) (.tmp 29) 44 rfl W0.heap.size 3 i0 (.int .i64 0) 1 8 Try.underlying44 hi hz0 hz1 hz2 rfl (by decide) _ _ _ rfl (World.ownsRow.alloc hown _) ⟨wr.heap.size, 0, none⟩ 1 1 [.int .i64 (fldV a b c m ch)] rfl rfl (cell_one_new _ _ _) (fun x hx => by simp at hx; subst hx; rfl) (by rw [hkl]; unfold maxLen; omega) (by rw [hkl]; omega) (by simp; omega) ?_; intro v' w3 hown3 hgrow3 hnil3)
      have ho3 : OwnInts w3 W0.heap.size v' ((rawL op a b c m).take (k + 1)) := by rw [HRS.out]; exact own_push hown3
      have hb3 : Below W0.heap.size W0 w3 := own_grown (hbr.alloc hbs _) (by simp; omega) (World.ownsRow.alloc hown _) hgrow3
      go_roundw
      case rel => exact ⟨k + 1, by omega, by go_num, ho3, hb3⟩
      case measure => simp [intOf]; omega
    · obtain rfl : k = (rdS op).size := by omega
      have hfull : (rawL op a b c m).take (rdS op).size = rawL op a b c m := List.take_of_length_le (by rw [rawL_length]; omega)
      rw [hfull] at hown
      have hbs := hbr.size
      clear hfull hlt hk
      go_wp2_with fail
      refine (sort_own W0.heap.size _ _ _ hown hraw).mono ?_
      rintro e w3 ⟨rfl, ho3, hg3⟩
      have hb3 := own_grown hbr hbs hown hg3
      have hbs3 := hb3.size
      go_wp2_with fail
      refine (compact_own W0.heap.size _ _ _ ho3 HF.out.1).mono ?_
      rintro e w4 ⟨v4, rfl, ho4, hg4, _⟩
      have hb4 := own_grown hb3 hbs3 ho3 hg4
      have hbs4 := hb4.size
      go_wp2_with fail
      refine (del_own W0.heap.size _ _ _ ho4 HF.out.2.1 HF.out.2.2.1 HF.out.2.2.2.1).mono ?_
      rintro e w5 ⟨v5, rfl, ho5, hg5, _⟩
      have hb5 := own_grown hb4 hbs4 ho4 hg5
      go_wp2_with fail
      go_ret
      exact ⟨_, rfl, by rw [hE.out]; exact own_mono ho5 hE0.below.size, hE0.below.trans (hb5.mono hE0.below.size)⟩
end Go.Proofs.Ytchmhnodcjidkaa
