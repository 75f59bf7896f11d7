/-
  The law PipelineReads.
-/
import Derived.Test.YtchmhnodcjidkaaP5
namespace Go.Proofs.Ytchmhnodcjidkaa
open Go.RowKit Go.Maps

/-- What stands of the two boxes of instructions in a world that lies behind wr. -/
theorem two_after {wr w' : World} {g g2 : Nat} {op a b c m op2 a2 b2 c2 m2 : Int} (hI : Holds wr g 23 (insCells op a b c m)) (hJ : Holds wr g2 23 (insCells op2 a2 b2 c2 m2)) (hb : Below wr.heap.size wr w') :
    w'.cell? ⟨g, 0, none⟩ = some (.int .u8 op) ∧ w'.cell? ⟨g, 1, none⟩ = some (.int .i64 a) ∧ w'.cell? ⟨g, 2, none⟩ = some (.int .i64 b) ∧ w'.cell? ⟨g, 3, none⟩ = some (.int .i64 c) ∧ w'.cell? ⟨g, 4, none⟩ = some (.int .i64 m) ∧
    w'.cell? ⟨g2, 0, none⟩ = some (.int .u8 op2) ∧ w'.cell? ⟨g2, 1, none⟩ = some (.int .i64 a2) ∧ w'.cell? ⟨g2, 2, none⟩ = some (.int .i64 b2) ∧ w'.cell? ⟨g2, 3, none⟩ = some (.int .i64 c2) ∧ w'.cell? ⟨g2, 4, none⟩ = some (.int .i64 m2) ∧ Below wr.heap.size wr w' := by
  obtain ⟨i0, i1, i2, i3, i4⟩ := ins_cells (hI.after hb)
  obtain ⟨j0, j1, j2, j3, j4⟩ := ins_cells (hJ.after hb)
  exact ⟨i0, i1, i2, i3, i4, j0, j1, j2, j3, j4, hb⟩

/-- Is the instruction a load that writes. -/
def loadB (op a b c m : Int) : Bool := wrB op a b c m && ldB op
theorem haz_law (op a b c m op2 a2 b2 c2 m2 : Int) (h0 : 0 ≤ op) (h1 : op ≤ 255) (k0 : 0 ≤ op2) (k1 : op2 ≤ 255) :
    hzV (nxtV op a b c m) op2 a2 b2 c2 m2 = (loadB op a b c m && hzV (wrA op a b c m) op2 a2 b2 c2 m2) := by
  unfold nxtV loadB
  obtain ⟨_, _, _, w4⟩ := wr_eq op a b c m h0 h1
  by_cases hl : ldB op = true
  · rw [if_pos hl, hl, Bool.and_true]
    cases hw : wrB op a b c m with
    | true => rw [Bool.true_and]
    | false => rw [w4 hw, haz_zero op2 a2 b2 c2 m2 k0 k1]; rfl
  · rw [if_neg hl, haz_zero op2 a2 b2 c2 m2 k0 k1]
    simp [hl]

set_option maxRecDepth 100000 in
set_option maxHeartbeats 4000000 in
theorem walk_PipelineReads (op a b c m op2 a2 b2 c2 m2 : Int) (w : World) (h0 : 0 ≤ op) (h1 : op ≤ 255) (k0 : 0 ≤ op2) (k1 : op2 ≤ 255) :
    Calls Try.prog 16 #[.agg #[.int .u8 op, .int .i64 a, .int .i64 b, .int .i64 c, .int .i64 m], .agg #[.int .u8 op2, .int .i64 a2, .int .i64 b2, .int .i64 c2, .int .i64 m2]] w fun e w' => e = .returned (.bool true) ∧ Below w.heap.size w w' := by
  have HH := Lib.hid (haz_law op a b c m op2 a2 b2 c2 m2 h0 h1 k0 k1)
  have HZ := Lib.hid (haz_zero op2 a2 b2 c2 m2 k0 k1)
  have hlen := (rdL_facts op2 a2 b2 c2 m2 k0 k1).1
  have HRd : Hid (hzV (wrA op a b c m) op2 a2 b2 c2 m2 = (rdL op2 a2 b2 c2 m2).contains (wrA op a b c m)) := rfl
  have HLd : Hid (loadB op a b c m = (wrB op a b c m && (op == 18 || op == 20 || op == 26))) := rfl
  have hI0 := holds_new w 23 (insCells op a b c m)
  have hB0 := (Below.refl w.heap.size w).alloc (Nat.le_refl _) (.cells (insCells op a b c m) 23)
  have hJ0 := holds_new (w.alloc (.cells (insCells op a b c m) 23)) 23 (insCells op2 a2 b2 c2 m2)
  rw [World.size_alloc] at hJ0
  have hI1 := hI0.alloc (.cells (insCells op2 a2 b2 c2 m2) 23)
  have hB1 := hB0.alloc hB0.size (.cells (insCells op2 a2 b2 c2 m2) 23)
  clear hI0 hB0
  go_enter Try.func16, Try.ntmps16
  go_wp2_with fail
  refine (awake8 _).mono ?_
  rintro e w1 ⟨rfl, hb⟩
  have hI2 := hI1.after hb
  have hJ2 := hJ0.after hb
  have hB2 := on hB1 hb
  clear hI1 hJ0 hB1 hb
  obtain ⟨i0, i1, i2, i3, i4⟩ := ins_cells hI2
  go_wp2_with fail
  refine (writes_any op a b c m _ h0 h1).mono ?_
  rintro e w2 ⟨rfl, hb⟩
  have hI := hI2.after hb
  have hJ := hJ2.after hb
  have hB := on hB2 hb
  clear hI2 hJ2 hB2 hb i0 i1 i2 i3 i4
  obtain ⟨i0, i1, i2, i3, i4⟩ := ins_cells hI
  generalize wrA op a b c m = r at *
  go_upto_region 4 with fail
  go_cut [7] (fun s wx => s = .bool (loadB op a b c m) ∧ wx = w2)
  case first =>
    generalize hlb : loadB op a b c m = lb at *
    generalize hwb : wrB op a b c m = wb at *
    have HL := HLd.out
    clear hlb hwb HLd
    rcases wb with _ | _
    · rw [Bool.false_and] at HL
      subst HL
      go_wp2_with fail
      go_meet
      exact ⟨rfl, rfl⟩
    · rw [Bool.true_and] at HL
      by_cases q0 : (op == 18) = true
      · rw [q0] at HL
        simp only [Bool.true_or] at HL
        subst HL
        go_wp2_with fail
        go_meet
        exact ⟨rfl, rfl⟩
      · replace q0 : (op == 18) = false := by simpa using q0
        by_cases q1 : (op == 20) = true
        · rw [q1] at HL
          simp only [Bool.true_or, Bool.or_true] at HL
          subst HL
          go_wp2_with fail
          go_meet
          exact ⟨rfl, rfl⟩
        · replace q1 : (op == 20) = false := by simpa using q1
          rw [q0, q1] at HL
          simp only [Bool.false_or] at HL
          subst HL
          go_wp2_with fail
          go_meet
          exact ⟨rfl, rfl⟩
  case rest =>
    obtain ⟨rfl, rfl⟩ := hcut
    clear i0 i1 i2 i3 i4 HLd
    obtain ⟨j0, j1, j2, j3, j4⟩ := ins_cells hJ
    generalize loadB op a b c m = lb at *
    go_wp2_with fail
    refine (reads_any op2 a2 b2 c2 m2 _ k0 k1).mono ?_
    rintro e w3 ⟨v3, rfl, hown, hb⟩
    have hI3 := hI.after hb
    have hJ3 := hJ.after hb
    have hB3 := on hB hb
    obtain ⟨ao, cap, rfl, hc⟩ := own_cells hown
    clear hI hJ hB hb hown j0 j1 j2 j3 j4
    generalize hLL : rdL op2 a2 b2 c2 m2 = L at *
    clear hLL
    go_wp2_with fail
    go_loopw [8, 37] (fun v i wr => ∃ (k : Nat), k ≤ L.length ∧ i = .int .i64 (k : Int) ∧ v = .bool ((L.take k).contains r) ∧ wr = w3) (fun _ i _ => L.length - (intOf i).toNat)
    case atStart => exact ⟨0, by omega, rfl, by simp, rfl⟩
    case round =>
      obtain ⟨k, hk, rfl, rfl, rfl⟩ := hrel
      by_cases hlt : k < L.length
      · obtain ⟨g, rfl, _, hg⟩ := hc k hlt
        have c1 := hg k hlt
        have HS := Lib.hid (contains_take_succ L r k hlt)
        obtain ⟨x, hx⟩ : ∃ x, L.getD k 0 = x := ⟨_, rfl⟩
        rw [hx] at c1
        have HX := Lib.hid hx
        clear hx hg hc
        obtain ⟨acc, hacc⟩ : ∃ acc, (L.take k).contains r = acc := ⟨_, rfl⟩
        have HA := Lib.hid hacc
        rw [hacc]
        clear hacc
        rcases acc with _ | _
        · by_cases e1 : (x == r) = true
          · go_wp2_with fail
            go_roundw
            case rel =>
              refine ⟨k + 1, by omega, by go_num, ?_, trivial⟩
              rw [HS.out, HX.out, HA.out, show (r == x) = true by rw [beq_iff_eq] at e1 ⊢; exact e1.symm]
              rfl
            case measure => simp [intOf]; omega
          · replace e1 : (x == r) = false := by simpa using e1
            go_wp2_with fail
            go_roundw
            case rel =>
              refine ⟨k + 1, by omega, by go_num, ?_, trivial⟩
              rw [HS.out, HX.out, HA.out, show (r == x) = false by rw [beq_eq_false_iff_ne] at e1 ⊢; exact fun h => e1 h.symm]
              rfl
            case measure => simp [intOf]; omega
        · go_wp2_with fail
          go_roundw
          case rel =>
            refine ⟨k + 1, by omega, by go_num, ?_, trivial⟩
            rw [HS.out, HA.out]
            rfl
          case measure => simp [intOf]; omega
      · obtain rfl : k = L.length := by omega
        have hfull : (L.take L.length).contains r = hzV r op2 a2 b2 c2 m2 := by rw [List.take_length, HRd.out]
        rw [hfull]
        generalize hzV r op2 a2 b2 c2 m2 = hv at *
        clear hfull hc hlen HRd
        have hnx : Hid (∀ w', Calls Try.prog 39 #[.agg #[.int .u8 op, .int .i64 a, .int .i64 b, .int .i64 c, .int .i64 m]] w' fun e w2 => e = .returned (.int .i64 (nxtV op a b c m)) ∧ Below w'.heap.size w' w2) := fun w' => next_any op a b c m w' h0 h1
        have hhz : Hid (∀ w', Calls Try.prog 41 #[.int .i64 (nxtV op a b c m), .agg #[.int .u8 op2, .int .i64 a2, .int .i64 b2, .int .i64 c2, .int .i64 m2]] w' fun e w2 => e = .returned (.bool (lb && hv)) ∧ Below w'.heap.size w' w2) := fun w' => by
          rw [← HH.out]; exact hazard_any _ op2 a2 b2 c2 m2 w' k0 k1
        have hz0 : Hid (∀ w', Calls Try.prog 41 #[.int .i64 0, .agg #[.int .u8 op2, .int .i64 a2, .int .i64 b2, .int .i64 c2, .int .i64 m2]] w' fun e w2 => e = .returned (.bool false) ∧ Below w'.heap.size w' w2) := fun w' => by
          rw [← HZ.out]; exact hazard_any _ op2 a2 b2 c2 m2 w' k0 k1
        generalize nxtV op a b c m = nv at *
        clear HH HZ
        obtain ⟨i0, i1, i2, i3, i4⟩ := ins_cells hI3
        obtain ⟨j0, j1, j2, j3, j4⟩ := ins_cells hJ3
        have hb0 : Below wr.heap.size wr wr.drew := below_drewN (Below.refl wr.heap.size wr) 1
        rcases lb with _ | _
        · rw [Bool.false_and] at hhz
          go_wp2_with fail
          first
            | (go_region_with (first
                | (go_at_call 39; refine (hnx.out _).mono ?_; (rintro e w' ⟨rfl, hb⟩); have hbn := on (by assumption) hb; obtain ⟨_, _, _, _, _, _, _, _, _, _, _⟩ := two_after hI3 hJ3 hbn)
                | (go_at_call 41; refine (hhz.out _).mono ?_; (rintro e w' ⟨rfl, hb⟩); have hbn := on (by assumption) hb; obtain ⟨_, _, _, _, _, _, _, _, _, _, _⟩ := two_after hI3 hJ3 hbn)
                | (go_at_call 41; refine (hz0.out _).mono ?_; (rintro e w' ⟨rfl, hb⟩); have hbn := on (by assumption) hb; obtain ⟨_, _, _, _, _, _, _, _, _, _, _⟩ := two_after hI3 hJ3 hbn)))
            | fail "region"
          all_goals
            have hB' := on hB3 hbn
            clear hI3 hJ3 hB3 i0 i1 i2 i3 i4 j0 j1 j2 j3 j4 hb0
            go_wp2_with fail
            go_ret
            exact ⟨rfl, hB'⟩
        · rw [Bool.true_and] at hhz
          rcases hv with _ | _
          · go_wp2_with fail
            go_region_held3 (fun w' => w'.cell? ⟨w.heap.size, 0, none⟩ = some (.int .u8 op) ∧ w'.cell? ⟨w.heap.size, 1, none⟩ = some (.int .i64 a) ∧ w'.cell? ⟨w.heap.size, 2, none⟩ = some (.int .i64 b) ∧ w'.cell? ⟨w.heap.size, 3, none⟩ = some (.int .i64 c) ∧ w'.cell? ⟨w.heap.size, 4, none⟩ = some (.int .i64 m) ∧
                w'.cell? ⟨w.heap.size + 1, 0, none⟩ = some (.int .u8 op2) ∧ w'.cell? ⟨w.heap.size + 1, 1, none⟩ = some (.int .i64 a2) ∧ w'.cell? ⟨w.heap.size + 1, 2, none⟩ = some (.int .i64 b2) ∧ w'.cell? ⟨w.heap.size + 1, 3, none⟩ = some (.int .i64 c2) ∧ w'.cell? ⟨w.heap.size + 1, 4, none⟩ = some (.int .i64 m2) ∧ Below wr.heap.size wr w')
              (first | assumption | go_keep)
              (first
                | (go_at_call 39; refine (hnx.out _).mono ?_; (rintro e w' ⟨rfl, hb⟩); have hbn := on (by assumption) hb; have hS := two_after hI3 hJ3 hbn)
                | (go_at_call 41; refine (hhz.out _).mono ?_; (rintro e w' ⟨rfl, hb⟩); have hbn := on (by assumption) hb; have hS := two_after hI3 hJ3 hbn)
                | (go_at_call 41; refine (hz0.out _).mono ?_; (rintro e w' ⟨rfl, hb⟩); have hbn := on (by assumption) hb; have hS := two_after hI3 hJ3 hbn))
            all_goals
              have hB' := on hB3 hbn
              clear hI3 hJ3 hB3 i0 i1 i2 i3 i4 j0 j1 j2 j3 j4 hb0 hS
              go_wp2_with fail
              go_ret
              exact ⟨rfl, hB'⟩
          · go_wp2_with fail
            go_region_held3 (fun w' => w'.cell? ⟨w.heap.size, 0, none⟩ = some (.int .u8 op) ∧ w'.cell? ⟨w.heap.size, 1, none⟩ = some (.int .i64 a) ∧ w'.cell? ⟨w.heap.size, 2, none⟩ = some (.int .i64 b) ∧ w'.cell? ⟨w.heap.size, 3, none⟩ = some (.int .i64 c) ∧ w'.cell? ⟨w.heap.size, 4, none⟩ = some (.int .i64 m) ∧
                w'.cell? ⟨w.heap.size + 1, 0, none⟩ = some (.int .u8 op2) ∧ w'.cell? ⟨w.heap.size + 1, 1, none⟩ = some (.int .i64 a2) ∧ w'.cell? ⟨w.heap.size + 1, 2, none⟩ = some (.int .i64 b2) ∧ w'.cell? ⟨w.heap.size + 1, 3, none⟩ = some (.int .i64 c2) ∧ w'.cell? ⟨w.heap.size + 1, 4, none⟩ = some (.int .i64 m2) ∧ Below wr.heap.size wr w')
              (first | assumption | go_keep)
              (first
                | (go_at_call 39; refine (hnx.out _).mono ?_; (rintro e w' ⟨rfl, hb⟩); have hbn := on (by assumption) hb; have hS := two_after hI3 hJ3 hbn)
                | (go_at_call 41; refine (hhz.out _).mono ?_; (rintro e w' ⟨rfl, hb⟩); have hbn := on (by assumption) hb; have hS := two_after hI3 hJ3 hbn)
                | (go_at_call 41; refine (hz0.out _).mono ?_; (rintro e w' ⟨rfl, hb⟩); have hbn := on (by assumption) hb; have hS := two_after hI3 hJ3 hbn))
            all_goals
              have hB' := on hB3 hbn
              clear hI3 hJ3 hB3 i0 i1 i2 i3 i4 j0 j1 j2 j3 j4 hb0 hS
              go_wp2_with fail
              go_ret
              exact ⟨rfl, hB'⟩
end Go.Proofs.Ytchmhnodcjidkaa
