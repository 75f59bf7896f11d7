/-
  The law PipelineExtremes.
-/
import Derived.Test.YtchmhnodcjidkaaP8
namespace Go.Proofs.Ytchmhnodcjidkaa
open Go.RowKit Go.Maps

theorem cyc_ext {x y z u s op a b c m : Int} {tk : Bool} (ht : TimOk x y z u) : baseV x y op ≤ cycV x y z u s op a b c m tk ∧ cycV x y z u s op a b c m tk ≤ mostV x y z u op a b c m := by
  obtain ⟨hx, hy, hz, hu⟩ := ht
  unfold cycV mostV
  have hh : hzV s op a b c m = true → (rdL op a b c m).length ≠ 0 := by
    intro h e
    unfold hzV at h
    rw [List.eq_nil_of_length_eq_zero e] at h
    simp at h
  have hb : (tk && brB op) = true → brB op = true := by intro h; rw [Bool.and_eq_true] at h; exact h.2
  by_cases h : hzV s op a b c m = true
  · rw [if_pos h, if_neg (hh h)]
    split
    · next e => rw [if_pos (hb e)]; omega
    · split <;> omega
  · rw [if_neg h]
    split
    · next e => rw [if_pos (hb e)]; split <;> omega
    · split <;> split <;> omega
theorem cyc_start (x y z u op a b c m : Int) (h0 : 0 ≤ op) (h1 : op ≤ 255) : cycV x y z u 0 op a b c m false = baseV x y op := by
  unfold cycV; rw [haz_zero op a b c m h0 h1]; simp
theorem bool_cells {w : World} {g : Nat} (h : Holds w g 4 #[.bool false, .bool true]) : w.cell? ⟨g, 0, none⟩ = some (.bool false) ∧ w.cell? ⟨g, 1, none⟩ = some (.bool true) := ⟨h.cell 0, h.cell 1⟩
/-- The state at which the greatest time is attained. -/
def topS (op a b c m : Int) : Int := (rdL op a b c m).getD 0 0
theorem topS_range (op a b c m : Int) (h0 : 0 ≤ op) (h1 : op ≤ 255) : 0 ≤ topS op a b c m ∧ topS op a b c m < 16 := by
  unfold topS
  rw [List.getD_eq_getElem?_getD]
  cases h : (rdL op a b c m)[0]? with
  | none => simp
  | some r =>
    have := (rdL_facts op a b c m h0 h1).2.2.1 r (List.mem_of_getElem? h)
    simp only [Option.getD_some]
    omega
theorem cyc_top (x y z u op a b c m : Int) (h0 : 0 ≤ op) (h1 : op ≤ 255) : cycV x y z u (topS op a b c m) op a b c m true = mostV x y z u op a b c m := by
  unfold cycV mostV topS
  rw [List.getD_eq_getElem?_getD, Bool.true_and]
  cases h : (rdL op a b c m)[0]? with
  | none =>
    have hl : (rdL op a b c m).length = 0 := by rw [List.getElem?_eq_none_iff] at h; omega
    rw [if_pos hl, Option.getD_none, haz_zero op a b c m h0 h1]
    simp
  | some r =>
    have hm := List.mem_of_getElem? h
    have hl : (rdL op a b c m).length ≠ 0 := fun e => by rw [List.eq_nil_of_length_eq_zero e] at hm; simp at hm
    have hz : hzV r op a b c m = true := by unfold hzV; exact List.contains_iff_mem.2 hm
    rw [if_neg hl, Option.getD_some, if_pos hz]

set_option maxRecDepth 100000 in
set_option maxHeartbeats 4000000 in
theorem walk_PipelineExtremes (x y z u op a b c m : Int) (w : World) (h0 : 0 ≤ op) (h1 : op ≤ 255) :
    Calls Try.prog 18 #[.agg #[.int .i64 x, .int .i64 y, .int .i64 z, .int .i64 u], .agg #[.int .u8 op, .int .i64 a, .int .i64 b, .int .i64 c, .int .i64 m]] w fun e w' => e = .returned (.bool true) ∧ Below w.heap.size w w' := by
  have hT0 := holds_new w 49 (timCells x y z u)
  have hB0 := (Below.refl w.heap.size w).alloc (Nat.le_refl _) (.cells (timCells x y z u) 49)
  have hI0 := holds_new (w.alloc (.cells (timCells x y z u) 49)) 23 (insCells op a b c m)
  rw [World.size_alloc] at hI0
  have hT1 := hT0.alloc (.cells (insCells op a b c m) 23)
  have hB1 := hB0.alloc hB0.size (.cells (insCells op a b c m) 23)
  clear hT0 hB0
  go_enter Try.func18, Try.ntmps18
  go_wp2_with fail
  refine (awake8 _).mono ?_
  rintro e w1 ⟨rfl, hb⟩
  have hT := hT1.after hb
  have hI := hI0.after hb
  have hB := on hB1 hb
  clear hT1 hI0 hB1 hb
  obtain ⟨t0, t1, t2, t3⟩ := tim_cells hT
  go_wp2_with fail
  refine (pvalid_any x y z u _).mono ?_
  rintro e w2 ⟨rfl, hb⟩
  replace hT := hT.after hb
  replace hI := hI.after hb
  replace hB := on hB hb
  clear hb t0 t1 t2 t3
  obtain ⟨vv, hvv⟩ : ∃ vv, okT x y z u = vv := ⟨_, rfl⟩
  have HV := Lib.hid hvv
  rw [hvv]
  clear hvv
  rcases vv with _ | _
  · go_wp2_with fail
    go_ret
    exact ⟨rfl, hB⟩
  have ht := Lib.hid (timOk_of HV.out)
  have hbr := baseV_range (op := op) ht.out.1 ht.out.2.1
  have hmr := mostV_range (op := op) (a := a) (b := b) (c := c) (m := m) ht.out
  have hext : Hid (∀ (s : Int) (tk : Bool), baseV x y op ≤ cycV x y z u s op a b c m tk ∧ cycV x y z u s op a b c m tk ≤ mostV x y z u op a b c m) := fun s tk => cyc_ext ht.out
  have htop := Lib.hid (cyc_top x y z u op a b c m h0 h1)
  have hst := Lib.hid (cyc_start x y z u op a b c m h0 h1)
  obtain ⟨st0, st1⟩ := topS_range op a b c m h0 h1
  obtain ⟨t0, t1, t2, t3⟩ := tim_cells hT
  obtain ⟨i0, i1, i2, i3, i4⟩ := ins_cells hI
  go_wp2_with fail
  refine (cycles_any x y z u 0 op a b c m false _ ht.out h0 h1).mono ?_
  rintro e w3 ⟨rfl, hb⟩
  rw [hst.out]
  have hT3 := hT.after hb
  have hI3 := hI.after hb
  have hB3 := on hB hb
  clear hT hI hB hb i0 i1 i2 i3 i4 t0 t1 t2 t3 hst
  have hcy : Hid (∀ (w' : World) (s : Int) (tk : Bool), Calls Try.prog 44 #[.agg #[.int .i64 x, .int .i64 y, .int .i64 z, .int .i64 u], .int .i64 s, .agg #[.int .u8 op, .int .i64 a, .int .i64 b, .int .i64 c, .int .i64 m], .bool tk] w' fun e w2 => e = .returned (.int .i64 (cycV x y z u s op a b c m tk)) ∧ Below w'.heap.size w' w2) := fun w' s tk => cycles_any x y z u s op a b c m tk w' ht.out h0 h1
  have hle : Hid (∀ (w' : World), Calls Try.prog 49 #[.agg #[.int .i64 x, .int .i64 y, .int .i64 z, .int .i64 u], .agg #[.int .u8 op, .int .i64 a, .int .i64 b, .int .i64 c, .int .i64 m]] w' fun e w2 => e = .returned (.int .i64 (baseV x y op)) ∧ Below w'.heap.size w' w2) := fun w' => least_any x y z u op a b c m w' ht.out
  have hmo : Hid (∀ (w' : World), Calls Try.prog 47 #[.agg #[.int .i64 x, .int .i64 y, .int .i64 z, .int .i64 u], .agg #[.int .u8 op, .int .i64 a, .int .i64 b, .int .i64 c, .int .i64 m]] w' fun e w2 => e = .returned (.int .i64 (mostV x y z u op a b c m)) ∧ Below w'.heap.size w' w2) := fun w' => most_any x y z u op a b c m w' ht.out h0 h1
  generalize baseV x y op = bv at *
  generalize mostV x y z u op a b c m = mv at *
  generalize topS op a b c m = st at *
  go_wp2_with fail
  go_loopw [5, 6, 19] (fun lo hi i wr => ∃ (k : Nat) (h : Int), k ≤ 16 ∧ i = .int .i64 (k : Int) ∧ lo = .int .i64 bv ∧ hi = .int .i64 h ∧ (0 ≤ h ∧ h ≤ mv ∧ (st < (k : Int) → h = mv)) ∧ Holds wr w.heap.size 49 (timCells x y z u) ∧ Holds wr (w.heap.size + 1) 23 (insCells op a b c m) ∧ Below w.heap.size w wr) (fun _ _ i _ => 17 - (intOf i).toNat)
  case atStart => exact ⟨0, 0, by omega, rfl, rfl, rfl, ⟨by omega, by omega, fun h => by omega⟩, hT3, hI3, hB3⟩
  case round =>
    clear hT3 hI3 hB3
    obtain ⟨k, h, hk, rfl, rfl, rfl, hh, hTr, hIr, hBr⟩ := hrel
    have HH := Lib.hid hh
    clear hh
    have hsz := hIr.lt
    by_cases hlt : k < 16
    · have hltz : (k : Int) < 16 := by omega
      have hS := holds_new wr 4 #[.bool false, .bool true]
      have hT1 := hTr.alloc (.cells #[.bool false, .bool true] 4)
      have hI1 := hIr.alloc (.cells #[.bool false, .bool true] 4)
      have hB1 := hBr.alloc hBr.size (.cells #[.bool false, .bool true] 4)
      clear hTr hIr hBr
      have HS16 := Lib.hid (show st < 16 from st1)
      go_wp2_with fail
      go_loopw [5, 6, 24] (fun lo hi i wx => ∃ (j : Nat) (h' : Int), j ≤ 2 ∧ i = .int .i64 (j : Int) ∧ lo = .int .i64 bv ∧ hi = .int .i64 h' ∧ (0 ≤ h' ∧ h' ≤ mv ∧ (st < (k : Int) → h' = mv) ∧ (j = 2 → st ≤ (k : Int) → h' = mv)) ∧ Holds wx w.heap.size 49 (timCells x y z u) ∧ Holds wx (w.heap.size + 1) 23 (insCells op a b c m) ∧ Holds wx wr.heap.size 4 #[.bool false, .bool true] ∧ Below w.heap.size w wx) (fun _ _ i _ => 3 - (intOf i).toNat)
      case atStart => exact ⟨0, h, by omega, rfl, rfl, rfl, ⟨HH.out.1, HH.out.2.1, HH.out.2.2, fun e => by omega⟩, hT1, hI1, hS, hB1⟩
      case round =>
        clear hT1 hI1 hS hB1 HH
        obtain ⟨j, h', hj, rfl, rfl, rfl, hh, hT2, hI2, hS2, hB2⟩ := hrel
        have HH := Lib.hid hh
        clear hh
        obtain ⟨t0, t1, t2, t3⟩ := tim_cells hT2
        obtain ⟨i0, i1, i2, i3, i4⟩ := ins_cells hI2
        obtain ⟨s0, s1⟩ := bool_cells hS2
        rcases (show j = 0 ∨ j = 1 ∨ j = 2 by omega) with rfl | rfl | rfl
        · have he := hext.out (k : Int) false
          go_wp2_with fail
          refine (hcy.out _ (k : Int) false).mono ?_
          rintro e w5 ⟨rfl, hb⟩
          have hT3 := hT2.after hb
          have hI3 := hI2.after hb
          have hS3 := hS2.after hb
          have hB3 := on hB2 hb
          generalize cycV x y z u (k : Int) op a b c m false = cv at *
          clear hT2 hI2 hS2 hB2 hb t0 t1 t2 t3 i0 i1 i2 i3 i4 s0 s1
          obtain ⟨e1, e2⟩ := he
          go_wp2_with fail
          go_roundw
          case rel =>
            refine ⟨1, _, by omega, by go_num, rfl, rfl, ?_, hT3, hI3, hS3, hB3⟩
            have h1 := HH.out
            split
            · refine ⟨by omega, by omega, fun h => ?_, fun h => by omega⟩
              have := h1.2.2.1 h; omega
            · refine ⟨by omega, by omega, fun h => ?_, fun h => by omega⟩
              have := h1.2.2.1 h; omega
          case measure => simp [intOf]
        · have he := hext.out (k : Int) true
          have htk : Hid (st = (k : Int) → cycV x y z u (k : Int) op a b c m true = mv) := fun e => by rw [← e]; exact htop.out
          go_wp2_with fail
          refine (hcy.out _ (k : Int) true).mono ?_
          rintro e w5 ⟨rfl, hb⟩
          have hT3 := hT2.after hb
          have hI3 := hI2.after hb
          have hS3 := hS2.after hb
          have hB3 := on hB2 hb
          generalize cycV x y z u (k : Int) op a b c m true = cv at *
          clear hT2 hI2 hS2 hB2 hb t0 t1 t2 t3 i0 i1 i2 i3 i4 s0 s1
          obtain ⟨e1, e2⟩ := he
          go_wp2_with fail
          go_roundw
          case rel =>
            refine ⟨2, _, by omega, by go_num, rfl, rfl, ?_, hT3, hI3, hS3, hB3⟩
            have h1 := HH.out
            have h2 := htk.out
            split
            · refine ⟨by omega, by omega, fun h => ?_, fun _ h => ?_⟩
              · have := h1.2.2.1 h; omega
              · by_cases e : st = (k : Int)
                · exact h2 e
                · have := h1.2.2.1 (by omega); omega
            · refine ⟨by omega, by omega, fun h => ?_, fun _ h => ?_⟩
              · have := h1.2.2.1 h; omega
              · by_cases e : st = (k : Int)
                · have := h2 e; omega
                · have := h1.2.2.1 (by omega); omega
          case measure => simp [intOf]
        · clear t0 t1 t2 t3 i0 i1 i2 i3 i4 s0 s1
          go_wp2_with fail
          go_roundw
          case rel =>
            have h1 := HH.out
            exact ⟨k + 1, h', by omega, by go_num, rfl, rfl, ⟨h1.1, h1.2.1, fun h => h1.2.2.2 rfl (by omega)⟩, hT2, hI2, hB2⟩
          case measure => simp [intOf]; omega
    · obtain rfl : k = 16 := by omega
      obtain rfl : h = mv := HH.out.2.2 (by omega)
      obtain ⟨t0, t1, t2, t3⟩ := tim_cells hTr
      obtain ⟨i0, i1, i2, i3, i4⟩ := ins_cells hIr
      go_wp2_with fail
      refine (hle.out _).mono ?_
      rintro e w5 ⟨rfl, hb⟩
      have hT3 := hTr.after hb
      have hI3 := hIr.after hb
      have hB3 := on hBr hb
      clear hTr hIr hBr hb t0 t1 t2 t3 i0 i1 i2 i3 i4
      obtain ⟨t0, t1, t2, t3⟩ := tim_cells hT3
      obtain ⟨i0, i1, i2, i3, i4⟩ := ins_cells hI3
      go_wp2_with fail
      refine (hmo.out _).mono ?_
      rintro e w6 ⟨rfl, hb⟩
      have hB4 := on hB3 hb
      have q1 : decide (1 ≤ bv) = true := decide_eq_true hbr.1
      clear hT3 hI3 hB3 hb t0 t1 t2 t3 i0 i1 i2 i3 i4 hbr
      go_wp2_with fail
      go_ret
      exact ⟨rfl, hB4⟩
end Go.Proofs.Ytchmhnodcjidkaa
