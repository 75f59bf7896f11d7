/-
  The laws IsaAccesses and IsaRegisters.
-/
import Derived.Test.YtchmhnodcjidkaaL3
namespace Go.Proofs.Ytchmhnodcjidkaa
open Go.RowKit Go.Maps

theorem reads_any (op a b c m : Int) (w : World) (h0 : 0 ≤ op) (h1 : op ≤ 255) :
    Calls Try.prog 32 #[.agg #[.int .u8 op, .int .i64 a, .int .i64 b, .int .i64 c, .int .i64 m]] w (ReadsPost (rdL op a b c m) w) := by
  by_cases hv : validV op a b c m = true
  · obtain ⟨_, a0, _, b0, _, c0, _⟩ := valid_ranges h0 hv
    exact reads_yes op a b c m w h0 h1 ⟨a0, b0, c0⟩ hv
  · exact reads_no op a b c m w h0 h1 (by simpa using hv)

/-- A slice of the call's own as a slice value with known cells. -/
theorem own_slice {w : World} {base : Nat} {v : Value} {L : List Int} (h : OwnInts w base v L) :
    ∃ ao cap, v = .slice ao L.length cap ∧ ∀ j, j < L.length → ∃ g, ao = some ⟨g, 0, none⟩ ∧ base ≤ g ∧ g < w.heap.size ∧ ∀ j, j < L.length → w.cell? ⟨g, j, none⟩ = some (.int .i64 (L.getD j 0)) := by
  rcases own_form h with ⟨rfl, rfl⟩ | ⟨g, cap, cur, rfl, hb, hh, hn, hm, hs, hc⟩
  · exact ⟨none, 0, rfl, fun j hj => absurd hj (by simp)⟩
  · exact ⟨_, cap, rfl, fun j hj => ⟨g, rfl, hb, hh.lt, fun j hj => (hh.cell j).trans (hc j hj)⟩⟩

/-- The cells of such a slice, for a world in which they still stand. -/
def Cells (w : World) (ao : Option Addr) (L : List Int) : Prop := ∀ j, j < L.length → ∃ g, ao = some ⟨g, 0, none⟩ ∧ g < w.heap.size ∧ ∀ j, j < L.length → w.cell? ⟨g, j, none⟩ = some (.int .i64 (L.getD j 0))
theorem Cells.after {w w' : World} {ao : Option Addr} {L : List Int} (h : Cells w ao L) (hb : Below w.heap.size w w') : Cells w' ao L := by
  intro j hj
  obtain ⟨g, rfl, hg, hc⟩ := h j hj
  exact ⟨g, rfl, Nat.lt_of_lt_of_le hg hb.size, fun j hj => (hb.cell (p := ⟨g, j, none⟩) hg).trans (hc j hj)⟩
theorem own_cells {w : World} {base : Nat} {v : Value} {L : List Int} (h : OwnInts w base v L) : ∃ ao cap, v = .slice ao L.length cap ∧ Cells w ao L := by
  obtain ⟨ao, cap, hv, h⟩ := own_slice h
  exact ⟨ao, cap, hv, fun j hj => by obtain ⟨g, hg, _, hl, hc⟩ := h j hj; exact ⟨g, hg, hl, hc⟩⟩

set_option maxRecDepth 100000 in
set_option maxHeartbeats 2000000 in
theorem walk_IsaAccesses (op a b c m : Int) (w : World) (h0 : 0 ≤ op) (h1 : op ≤ 255) :
    Calls Try.prog 10 #[.agg #[.int .u8 op, .int .i64 a, .int .i64 b, .int .i64 c, .int .i64 m]] w fun e w' => e = .returned (.bool true) ∧ Below w.heap.size w w' := by
  have HW := Lib.hid (wr_eq op a b c m h0 h1)
  have HR := Lib.hid (rdL_eq op a b c m h0 h1)
  have hlen := (rdL_facts op a b c m h0 h1).1
  have hI0 := holds_new w 23 (insCells op a b c m)
  have hB0 := (Below.refl w.heap.size w).alloc (Nat.le_refl _) (.cells (insCells op a b c m) 23)
  go_enter Try.func10, Try.ntmps10
  go_wp2_with fail
  refine (awake4 _).mono ?_
  rintro e w1 ⟨rfl, hb⟩
  have hI1 := hI0.after hb
  have hB1 := on hB0 hb
  clear hI0 hB0 hb
  obtain ⟨i0, i1, i2, i3, i4⟩ := ins_cells hI1
  go_wp2_with fail
  refine (reads_any op a b c m _ h0 h1).mono ?_
  rintro e w2 ⟨v2, rfl, hown, hb⟩
  have hI2 := hI1.after hb
  have hB2 := on hB1 hb
  obtain ⟨ao, cap, rfl, hc⟩ := own_cells hown
  clear hI1 hB1 hb i0 i1 i2 i3 i4 hown
  obtain ⟨i0, i1, i2, i3, i4⟩ := ins_cells hI2
  go_wp2_with fail
  refine (rreads_any op a b c m _ h0 h1).mono ?_
  rintro e w3 ⟨v3, rfl, hown, hb⟩
  rw [HR.out] at hown
  have hI3 := hI2.after hb
  have hB3 := on hB2 hb
  have hc3 := hc.after hb
  obtain ⟨ao2, cap2, rfl, hc4⟩ := own_cells hown
  clear hI2 hB2 hb hc i0 i1 i2 i3 i4 hown
  obtain ⟨i0, i1, i2, i3, i4⟩ := ins_cells hI3
  generalize rdL op a b c m = L at *
  go_wp2_with fail
  go_loopw [21] (fun i wr => ∃ (k : Nat), k ≤ L.length ∧ i = .int .i64 (k : Int) ∧ ∃ n, wr = w3.drewN n) (fun i _ => L.length - (intOf i).toNat)
  case atStart => exact ⟨0, by omega, rfl, 0, rfl⟩
  case round =>
    obtain ⟨k, hk, rfl, n, rfl⟩ := hrel
    by_cases hlt : k < L.length
    · obtain ⟨g, rfl, _, hg⟩ := hc3 k hlt
      obtain ⟨g2, rfl, _, hg2⟩ := hc4 k hlt
      have c1 := hg k hlt
      have c2 := hg2 k hlt
      go_wp2_with fail
      go_quiet (fail)
      go_wp2_with fail
      go_roundw
      case rel => exact ⟨k + 1, by omega, by go_num, _, rfl⟩
      case measure => simp [intOf]; omega
    · obtain rfl : k = L.length := by omega
      have hB4 := below_drewN hB3 n
      have hI4 := hI3.drewN n
      have hw4 : (w3.drewN n).heap.size = w3.heap.size := rfl
      generalize w3.drewN n = w4 at *
      clear hI3 i0 i1 i2 i3 i4 hc3 hc4 hk
      obtain ⟨i0, i1, i2, i3, i4⟩ := ins_cells hI4
      go_wp2_with fail
      refine (writes_any op a b c m _ h0 h1).mono ?_
      rintro e w5 ⟨rfl, hb⟩
      have hI5 := hI4.after hb
      have hB5 := on hB4 hb
      clear hI4 hB4 hb i0 i1 i2 i3 i4
      obtain ⟨i0, i1, i2, i3, i4⟩ := ins_cells hI5
      go_wp2_with fail
      refine (rwrites_any op a b c m _ h0 h1).mono ?_
      rintro e w6 ⟨rfl, hb⟩
      have hB6 := on hB5 hb
      rw [HW.out.1, HW.out.2.1]
      clear hI5 hB5 hb i0 i1 i2 i3 i4
      go_wp2_with fail
      go_ret
      exact ⟨by cases h : (wrA op a b c m == 0) <;> simp [bne, h], hB6⟩

set_option maxRecDepth 100000 in
set_option maxHeartbeats 4000000 in
theorem walk_IsaRegisters (op a b c m : Int) (w : World) (h0 : 0 ≤ op) (h1 : op ≤ 255) :
    Calls Try.prog 11 #[.agg #[.int .u8 op, .int .i64 a, .int .i64 b, .int .i64 c, .int .i64 m]] w fun e w' => e = .returned (.bool true) ∧ Below w.heap.size w w' := by
  have HW := Lib.hid (wr_eq op a b c m h0 h1)
  obtain ⟨hlen, hL2, hL3, hL4⟩ := rdL_facts op a b c m h0 h1
  have HL2 := Lib.hid hL2
  have HL3 := Lib.hid hL3
  have HL4 := Lib.hid hL4
  clear hL2 hL3 hL4
  have hI0 := holds_new w 23 (insCells op a b c m)
  have hB0 := (Below.refl w.heap.size w).alloc (Nat.le_refl _) (.cells (insCells op a b c m) 23)
  go_enter Try.func11, Try.ntmps11
  go_wp2_with fail
  refine (awake4 _).mono ?_
  rintro e w1 ⟨rfl, hb⟩
  have hI1 := hI0.after hb
  have hB1 := on hB0 hb
  clear hI0 hB0 hb
  obtain ⟨i0, i1, i2, i3, i4⟩ := ins_cells hI1
  go_wp2_with fail
  refine (reads_any op a b c m _ h0 h1).mono ?_
  rintro e w2 ⟨v2, rfl, hown, hb⟩
  have hI2 := hI1.after hb
  have hB2 := on hB1 hb
  obtain ⟨ao, cap, rfl, hc⟩ := own_cells hown
  clear hI1 hB1 hb i0 i1 i2 i3 i4 hown
  obtain ⟨i0, i1, i2, i3, i4⟩ := ins_cells hI2
  have hn2 : decide ((2 : Int) < ((rdL op a b c m).length : Int)) = false := decide_eq_false (by omega)
  generalize rdL op a b c m = L at *
  go_upto_region 4 with fail
  go_cut [24] (fun s wx => s = .bool false ∧ Holds wx w.heap.size 23 (insCells op a b c m) ∧ Below w.heap.size w wx ∧ Cells wx ao L)
  case first =>
    go_wp2_with fail
    refine (valid_any op a b c m _ h0 h1).mono ?_
    rintro e w3 ⟨rfl, hb⟩
    have hI3 := hI2.after hb
    have hB3 := on hB2 hb
    have hc3 := hc.after hb
    clear hI2 hB2 hb hc i0 i1 i2 i3 i4
    obtain ⟨vv, hv⟩ : ∃ vv, validV op a b c m = vv := ⟨_, rfl⟩
    have HV := Lib.hid hv
    rw [hv]
    clear hv
    rcases vv with _ | _
    · have hz0 : L.length = 0 := by rw [HL2.out HV.out]; rfl
      have hz : decide (0 < L.length) = false := decide_eq_false (by omega)
      clear hz0
      go_wp2_with fail
      go_meet
      exact ⟨rfl, hI3, hB3, hc3⟩
    · go_wp2_with fail
      go_meet
      exact ⟨rfl, hI3, hB3, hc3⟩
  case rest =>
    obtain ⟨rfl, hI3, hB3, hc3⟩ := hcut
    clear hI2 hB2 hc i0 i1 i2 i3 i4 hn2
    obtain ⟨i0, i1, i2, i3, i4⟩ := ins_cells hI3
    go_wp2_with fail
    go_loopw [27] (fun i wr => ∃ (k : Nat), k ≤ L.length ∧ i = .int .i64 (k : Int) ∧ wr = wc) (fun i _ => L.length - (intOf i).toNat)
    case atStart => exact ⟨0, by omega, rfl, rfl⟩
    case round =>
      obtain ⟨k, hk, rfl, rfl⟩ := hrel
      by_cases hlt : k < L.length
      · obtain ⟨g, rfl, _, hg⟩ := hc3 k hlt
        have c1 := hg k hlt
        have HG := Lib.hid hg
        clear hg
        obtain ⟨r, hr⟩ : ∃ r, L.getD k 0 = r := ⟨_, rfl⟩
        have HRk := Lib.hid hr
        have hmem : r ∈ L := by rw [← hr, List.getD_eq_getElem?_getD, List.getElem?_eq_getElem hlt]; simp
        obtain ⟨r1, r2, r3⟩ := HL3.out r hmem
        have q1 : decide (r < 1) = false := decide_eq_false (by omega)
        have q2 : decide ((16 : Int) ≤ r) = false := decide_eq_false (by omega)
        rw [hr] at c1
        have R3 := Lib.hid r3
        clear hr hmem r1 r2 r3
        go_upto_region 9 with fail
        go_cut [68] (fun s wx => s = .bool false ∧ wx = wr)
        case first =>
          rcases k with _ | k
          · by_cases e1 : (r == a) = true
            · have f1 : (r != a) = false := by simp [bne, e1]
              clear e1
              go_wp2_with fail
              go_meet
              exact ⟨rfl, rfl⟩
            · have f1 : (r != a) = true := by simpa [bne] using e1
              by_cases e2 : (r == b) = true
              · have f2 : (r != b) = false := by simp [bne, e2]
                clear e1 e2
                go_wp2_with fail
                go_meet
                exact ⟨rfl, rfl⟩
              · have f2 : (r != b) = true := by simpa [bne] using e2
                have f3 : (r != c) = false := by
                  rcases R3.out with h | h | h
                  · exact absurd h (by simpa using e1)
                  · exact absurd h (by simpa using e2)
                  · simp [bne, h]
                clear e1 e2
                go_wp2_with fail
                go_meet
                exact ⟨rfl, rfl⟩
          · have c2 := HG.out k (by omega)
            obtain ⟨r', hr'⟩ : ∃ r', L.getD k 0 = r' := ⟨_, rfl⟩
            rw [hr'] at c2
            have hlt' := HL4.out k hlt
            rw [hr', HRk.out] at hlt'
            have q3 : decide (r ≤ r') = false := decide_eq_false (by omega)
            have q4 : decide ((0 : Int) < (k : Int) + 1) = true := decide_eq_true (by omega)
            clear hr' hlt'
            by_cases e1 : (r == a) = true
            · have f1 : (r != a) = false := by simp [bne, e1]
              clear e1
              go_wp2_with fail
              go_meet
              exact ⟨rfl, rfl⟩
            · have f1 : (r != a) = true := by simpa [bne] using e1
              by_cases e2 : (r == b) = true
              · have f2 : (r != b) = false := by simp [bne, e2]
                clear e1 e2
                go_wp2_with fail
                go_meet
                exact ⟨rfl, rfl⟩
              · have f2 : (r != b) = true := by simpa [bne] using e2
                have f3 : (r != c) = false := by
                  rcases R3.out with h | h | h
                  · exact absurd h (by simpa using e1)
                  · exact absurd h (by simpa using e2)
                  · simp [bne, h]
                clear e1 e2
                go_wp2_with fail
                go_meet
                exact ⟨rfl, rfl⟩
        case rest =>
          obtain ⟨rfl, rfl⟩ := hcut
          go_wp2_with fail
          go_roundw
          case rel => exact ⟨k + 1, by omega, by go_num, trivial⟩
          case measure => simp [intOf]; omega
      · obtain rfl : k = L.length := by omega
        go_wp2_with fail
        refine (writes_any op a b c m _ h0 h1).mono ?_
        rintro e w5 ⟨rfl, hb⟩
        have hI5 := hI3.after hb
        have hB5 := on hB3 hb
        clear hI3 hB3 hb i0 i1 i2 i3 i4 hc3 hk hlt
        obtain ⟨i0, i1, i2, i3, i4⟩ := ins_cells hI5
        obtain ⟨wb, hwb⟩ : ∃ wb, wrB op a b c m = wb := ⟨_, rfl⟩
        have HWB := Lib.hid hwb
        rw [hwb]
        clear hwb
        rcases wb with _ | _
        · rw [HW.out.2.2.2 HWB.out]
          go_wp2_with fail
          go_ret
          exact ⟨by simp, hB5⟩
        · obtain ⟨e1, e2, e3⟩ := HW.out.2.2.1 HWB.out
          rw [e1]
          have HE3 := Lib.hid e3
          clear e1 e3
          go_wp2_with fail
          refine (valid_any op a b c m _ h0 h1).mono ?_
          rintro e w6 ⟨rfl, hb⟩
          rw [HE3.out]
          have hB6 := on hB5 hb
          clear hI5 hB5 hb i0 i1 i2 i3 i4
          go_wp2_with fail
          go_ret
          exact ⟨by simp, hB6⟩
end Go.Proofs.Ytchmhnodcjidkaa
