/-
  The walk of the reference's Reads.
-/
import Derived.Test.YtchmhnodcjidkaaB5
import Derived.Deep.DeepCutAuto
namespace Go.Proofs.Ytchmhnodcjidkaa
open Go.RowKit Go.Maps

/-- Does the opcode read its first operand: the reference's own list. -/
def rdA (op : Int) : Bool := decide (op = 19 ∨ op = 21 ∨ op = 22 ∨ op = 23 ∨ op = 25 ∨ op = 27)
/-- Is the register among those that the reference lists. -/
def refP (op a b c r : Int) : Bool := (rdA op && (a == r)) || (decide ((1 : Int) < ((fmtS op).size : Int)) && (b == r)) || (decide ((2 : Int) < ((fmtS op).size : Int)) && (c == r))
def refL (op a b c : Int) (n : Nat) : List Int := ((List.range n).map fun (i : Nat) => ((i : Int) + 1)).filter (refP op a b c)
theorem refL_succ (op a b c : Int) (n : Nat) : refL op a b c (n + 1) = refL op a b c n ++ (if refP op a b c ((n : Int) + 1) = true then [(n : Int) + 1] else []) := by
  unfold refL
  rw [List.range_succ, List.map_append, List.filter_append]
  congr 1
  simp only [List.map_cons, List.map_nil]
  by_cases h : refP op a b c ((n : Int) + 1) = true
  · rw [List.filter_cons_of_pos h, if_pos h]; rfl
  · rw [List.filter_cons_of_neg h, if_neg h]; rfl
theorem refL_length (op a b c : Int) (n : Nat) : (refL op a b c n).length ≤ n := by
  unfold refL
  exact Nat.le_trans (List.length_filter_le _ _) (by simp)
/-- What the reference's Reads answers. -/
def rrdL (op a b c m : Int) : List Int := if rvalidV op a b c m then refL op a b c 15 else []

theorem own_empty (w : World) (g base cap : Nat) (hb : base ≤ g) (hh : Holds w g 3 #[]) (hc : cap = 0) : OwnInts w base (.slice (some ⟨g, 0, none⟩) 0 cap) [] := by
  subst hc
  exact own_mk (L := []) hb hh (by simp) (by unfold maxLen; omega) rfl (fun j hj => absurd hj (by simp))

set_option maxRecDepth 100000 in
set_option maxHeartbeats 4000000 in
theorem rreads_any (op a b c m : Int) (w : World) (h0 : 0 ≤ op) (h1 : op ≤ 255) :
    Calls Try.prog 33 #[.agg #[.int .u8 op, .int .i64 a, .int .i64 b, .int .i64 c, .int .i64 m]] w (ReadsPost (rrdL op a b c m) w) := by
  obtain ⟨vv, hv⟩ : ∃ vv, rvalidV op a b c m = vv := ⟨_, rfl⟩
  have HB : Hid (rrdL op a b c m = if vv then refL op a b c 15 else []) := by
    show _ = _
    unfold rrdL
    rw [hv]
  obtain ⟨i0, hi, hi2⟩ : ∃ i0, Try.prog.info? 3 = some i0 ∧ i0.zero = some (.int .i64 0) ∧ i0.size = 1 ∧ i0.bytes = 8 := by
    have := info3
    cases e : Try.prog.info? 3 with
    | none => rw [e] at this; simp at this
    | some i0 => rw [e] at this; simp at this; exact ⟨i0, rfl, this⟩
  obtain ⟨hz0, hz1, hz2⟩ := hi2
  have hI0 := holds_new w 23 (insCells op a b c m)
  have hB0 := (Below.refl w.heap.size w).alloc (Nat.le_refl _) (.cells (insCells op a b c m) 23)
  go_enter Try.func33, Try.ntmps33
  go_wp2_with fail
  refine (rvalid_any op a b c m _ h0 h1).mono ?_
  rintro e w1 ⟨rfl, hb⟩
  rw [hv]
  clear hv
  have hI1 := (hI0.alloc (.cells #[] 3)).after hb
  have hO1 := (holds_new (w.alloc (.cells (insCells op a b c m) 23)) 3 #[]).after hb
  rw [World.size_alloc] at hO1
  have hB1 := on (hB0.alloc hB0.size (.cells #[] 3)) hb
  clear hI0 hB0 hb
  obtain ⟨j0, j1, j2, j3, j4⟩ := ins_cells hI1
  clear j4
  rcases vv with _ | _
  · go_wp2_with fail
    go_ret
    exact ⟨_, rfl, by rw [HB.out]; exact own_empty _ _ _ _ (by simp) hO1 rfl, hB1⟩
  · go_wp2_with fail
    refine (format_any op _ h0 h1).mono ?_
    rintro e w3 ⟨rfl, rfl⟩
    go_upto_region 5 with fail
    go_cut [8] (fun s wx => s = .bool (rdA op) ∧ wx = w1)
    case first =>
      by_cases q0 : (op == 19) = true
      · have hr : rdA op = true := by simp only [beq_iff_eq] at q0; unfold rdA; rw [decide_eq_true_iff]; omega
        have HR := Lib.hid hr
        clear hr
        go_wp2_with fail
        go_meet
        exact ⟨by rw [HR.out], rfl⟩
      replace q0 : (op == 19) = false := by simpa using q0
      by_cases q1 : (op == 21) = true
      · have hr : rdA op = true := by simp only [beq_iff_eq] at q1; unfold rdA; rw [decide_eq_true_iff]; omega
        have HR := Lib.hid hr
        clear hr
        go_wp2_with fail
        go_meet
        exact ⟨by rw [HR.out], rfl⟩
      replace q1 : (op == 21) = false := by simpa using q1
      by_cases q2 : (op == 22) = true
      · have hr : rdA op = true := by simp only [beq_iff_eq] at q2; unfold rdA; rw [decide_eq_true_iff]; omega
        have HR := Lib.hid hr
        clear hr
        go_wp2_with fail
        go_meet
        exact ⟨by rw [HR.out], rfl⟩
      replace q2 : (op == 22) = false := by simpa using q2
      by_cases q3 : (op == 23) = true
      · have hr : rdA op = true := by simp only [beq_iff_eq] at q3; unfold rdA; rw [decide_eq_true_iff]; omega
        have HR := Lib.hid hr
        clear hr
        go_wp2_with fail
        go_meet
        exact ⟨by rw [HR.out], rfl⟩
      replace q3 : (op == 23) = false := by simpa using q3
      by_cases q4 : (op == 25) = true
      · have hr : rdA op = true := by simp only [beq_iff_eq] at q4; unfold rdA; rw [decide_eq_true_iff]; omega
        have HR := Lib.hid hr
        clear hr
        go_wp2_with fail
        go_meet
        exact ⟨by rw [HR.out], rfl⟩
      replace q4 : (op == 25) = false := by simpa using q4
      by_cases q5 : (op == 27) = true
      · have hr : rdA op = true := by simp only [beq_iff_eq] at q5; unfold rdA; rw [decide_eq_true_iff]; omega
        have HR := Lib.hid hr
        clear hr
        go_wp2_with fail
        go_meet
        exact ⟨by rw [HR.out], rfl⟩
      replace q5 : (op == 27) = false := by simpa using q5
      have hr : rdA op = false := by simp only [beq_eq_false_iff_ne, ne_eq] at q0 q1 q2 q3 q4 q5; unfold rdA; rw [decide_eq_false_iff_not]; omega
      have HR := Lib.hid hr
      clear hr
      go_wp2_with fail
      go_meet
      exact ⟨by rw [HR.out], rfl⟩
    case rest =>
      obtain ⟨rfl, rfl⟩ := hcut
      obtain ⟨s8, hs8⟩ : ∃ s8, rdA op = s8 := ⟨_, rfl⟩
      have HS := Lib.hid hs8
      rw [hs8]
      clear hs8
      go_wp2_with fail
      go_loopw [3, 9] (fun v i wr => ∃ (k : Nat), k ≤ 15 ∧ i = .int .i64 ((k : Int) + 1) ∧ OwnInts wr (w.heap.size + 1) v (refL op a b c k) ∧ Below (w.heap.size + 1) wc wr) (fun _ i _ => 17 - (intOf i).toNat)
      case atStart => exact ⟨0, by omega, rfl, own_empty _ _ _ _ (Nat.le_refl _) hO1 rfl, Below.refl _ _⟩
      case round =>
        obtain ⟨k, hk, rfl, hown, hbr⟩ := hrel
        have hbs := hbr.size
        have hsz := hO1.lt
        have hlen := refL_length op a b c k
        by_cases hlt : k < 15
        · have c1 := (hbr.cell (p := ⟨w.heap.size, 1, none⟩) (Nat.lt_succ_self _)).trans j1
          have c2 := (hbr.cell (p := ⟨w.heap.size, 2, none⟩) (Nat.lt_succ_self _)).trans j2
          have c3 := (hbr.cell (p := ⟨w.heap.size, 3, none⟩) (Nat.lt_succ_self _)).trans j3
          have HL := Lib.hid (refL_succ op a b c k)
          go_upto_region 9 with fail
          go_cut [83] (fun s wx => s = .bool (refP op a b c ((k : Int) + 1)) ∧ wx = wr)
          case first =>
            rcases s8 with _ | _
            · by_cases g1 : decide ((1 : Int) < ((fmtS op).size : Int)) = true
              · by_cases e2 : (b == (k : Int) + 1) = true
                · have hr : refP op a b c ((k : Int) + 1) = true := by unfold refP; simp only [HS.out]; simp [*]
                  have HR := Lib.hid hr
                  clear hr
                  go_wp2_with fail
                  go_meet
                  exact ⟨by rw [HR.out], rfl⟩
                · replace e2 : (b == (k : Int) + 1) = false := by simpa using e2
                  by_cases g2 : decide ((2 : Int) < ((fmtS op).size : Int)) = true
                  · by_cases e3 : (c == (k : Int) + 1) = true
                    · have hr : refP op a b c ((k : Int) + 1) = true := by unfold refP; simp only [HS.out]; simp [*]
                      have HR := Lib.hid hr
                      clear hr
                      go_wp2_with fail
                      go_meet
                      exact ⟨by rw [HR.out], rfl⟩
                    · replace e3 : (c == (k : Int) + 1) = false := by simpa using e3
                      have hr : refP op a b c ((k : Int) + 1) = false := by unfold refP; simp only [HS.out]; simp [*]
                      have HR := Lib.hid hr
                      clear hr
                      go_wp2_with fail
                      go_meet
                      exact ⟨by rw [HR.out], rfl⟩
                  · replace g2 : decide ((2 : Int) < ((fmtS op).size : Int)) = false := by simpa using g2
                    have hr : refP op a b c ((k : Int) + 1) = false := by unfold refP; simp only [HS.out]; simp [*]
                    have HR := Lib.hid hr
                    clear hr
                    go_wp2_with fail
                    go_meet
                    exact ⟨by rw [HR.out], rfl⟩
              · replace g1 : decide ((1 : Int) < ((fmtS op).size : Int)) = false := by simpa using g1
                by_cases g2 : decide ((2 : Int) < ((fmtS op).size : Int)) = true
                · by_cases e3 : (c == (k : Int) + 1) = true
                  · have hr : refP op a b c ((k : Int) + 1) = true := by unfold refP; simp only [HS.out]; simp [*]
                    have HR := Lib.hid hr
                    clear hr
                    go_wp2_with fail
                    go_meet
                    exact ⟨by rw [HR.out], rfl⟩
                  · replace e3 : (c == (k : Int) + 1) = false := by simpa using e3
                    have hr : refP op a b c ((k : Int) + 1) = false := by unfold refP; simp only [HS.out]; simp [*]
                    have HR := Lib.hid hr
                    clear hr
                    go_wp2_with fail
                    go_meet
                    exact ⟨by rw [HR.out], rfl⟩
                · replace g2 : decide ((2 : Int) < ((fmtS op).size : Int)) = false := by simpa using g2
                  have hr : refP op a b c ((k : Int) + 1) = false := by unfold refP; simp only [HS.out]; simp [*]
                  have HR := Lib.hid hr
                  clear hr
                  go_wp2_with fail
                  go_meet
                  exact ⟨by rw [HR.out], rfl⟩
            · by_cases e1 : (a == (k : Int) + 1) = true
              · have hr : refP op a b c ((k : Int) + 1) = true := by unfold refP; simp only [HS.out]; simp [*]
                have HR := Lib.hid hr
                clear hr
                go_wp2_with fail
                go_meet
                exact ⟨by rw [HR.out], rfl⟩
              · replace e1 : (a == (k : Int) + 1) = false := by simpa using e1
                by_cases g1 : decide ((1 : Int) < ((fmtS op).size : Int)) = true
                · by_cases e2 : (b == (k : Int) + 1) = true
                  · have hr : refP op a b c ((k : Int) + 1) = true := by unfold refP; simp only [HS.out]; simp [*]
                    have HR := Lib.hid hr
                    clear hr
                    go_wp2_with fail
                    go_meet
                    exact ⟨by rw [HR.out], rfl⟩
                  · replace e2 : (b == (k : Int) + 1) = false := by simpa using e2
                    by_cases g2 : decide ((2 : Int) < ((fmtS op).size : Int)) = true
                    · by_cases e3 : (c == (k : Int) + 1) = true
                      · have hr : refP op a b c ((k : Int) + 1) = true := by unfold refP; simp only [HS.out]; simp [*]
                        have HR := Lib.hid hr
                        clear hr
                        go_wp2_with fail
                        go_meet
                        exact ⟨by rw [HR.out], rfl⟩
                      · replace e3 : (c == (k : Int) + 1) = false := by simpa using e3
                        have hr : refP op a b c ((k : Int) + 1) = false := by unfold refP; simp only [HS.out]; simp [*]
                        have HR := Lib.hid hr
                        clear hr
                        go_wp2_with fail
                        go_meet
                        exact ⟨by rw [HR.out], rfl⟩
                    · replace g2 : decide ((2 : Int) < ((fmtS op).size : Int)) = false := by simpa using g2
                      have hr : refP op a b c ((k : Int) + 1) = false := by unfold refP; simp only [HS.out]; simp [*]
                      have HR := Lib.hid hr
                      clear hr
                      go_wp2_with fail
                      go_meet
                      exact ⟨by rw [HR.out], rfl⟩
                · replace g1 : decide ((1 : Int) < ((fmtS op).size : Int)) = false := by simpa using g1
                  by_cases g2 : decide ((2 : Int) < ((fmtS op).size : Int)) = true
                  · by_cases e3 : (c == (k : Int) + 1) = true
                    · have hr : refP op a b c ((k : Int) + 1) = true := by unfold refP; simp only [HS.out]; simp [*]
                      have HR := Lib.hid hr
                      clear hr
                      go_wp2_with fail
                      go_meet
                      exact ⟨by rw [HR.out], rfl⟩
                    · replace e3 : (c == (k : Int) + 1) = false := by simpa using e3
                      have hr : refP op a b c ((k : Int) + 1) = false := by unfold refP; simp only [HS.out]; simp [*]
                      have HR := Lib.hid hr
                      clear hr
                      go_wp2_with fail
                      go_meet
                      exact ⟨by rw [HR.out], rfl⟩
                  · replace g2 : decide ((2 : Int) < ((fmtS op).size : Int)) = false := by simpa using g2
                    have hr : refP op a b c ((k : Int) + 1) = false := by unfold refP; simp only [HS.out]; simp [*]
                    have HR := Lib.hid hr
                    clear hr
                    go_wp2_with fail
                    go_meet
                    exact ⟨by rw [HR.out], rfl⟩
          case rest =>
            obtain ⟨rfl, rfl⟩ := hcut
            obtain ⟨rp, hrp⟩ : ∃ rp, refP op a b c ((k : Int) + 1) = rp := ⟨_, rfl⟩
            have HRP := Lib.hid hrp
            rw [hrp]
            clear hrp c1 c2 c3
            rcases rp with _ | _
            · have hL : Hid (refL op a b c (k + 1) = refL op a b c k) := by
                show _ = _
                rw [HL.out, HRP.out]; simp
              clear HL HRP
              go_wp2_with fail
              go_roundw
              case rel => exact ⟨k + 1, by omega, by go_num, by rw [hL.out]; exact hown, hbr⟩
              case measure => simp [intOf]; omega
            · have hL : Hid (refL op a b c (k + 1) = refL op a b c k ++ [(k : Int) + 1]) := by
                show _ = _
                rw [HL.out, HRP.out]; simp
              clear HL HRP
              go_wp2_with (at_builtin; refine wpList_append_own _ rfl (.tmp 84) (.tmp 86) 44 rfl (w.heap.size + 1) 3 i0 (.int .i64 0) 1 8 Try.underlying44 hi hz0 hz1 hz2 rfl (by decide) _ _ _ rfl (World.ownsRow.alloc hown _) ⟨wc.heap.size, 0, none⟩ 1 1 [.int .i64 ((k : Int) + 1)] rfl rfl (cell_one_new _ _ _) (fun x hx => by simp at hx; subst hx; rfl) (by unfold maxLen; omega) (by omega) (by simp; omega) ?_; intro v' w3 hown3 hgrow3 hnil3)
              have ho3 : OwnInts w3 (w.heap.size + 1) v' (refL op a b c (k + 1)) := by rw [hL.out]; exact own_push hown3
              have hb3 := own_grown (hbr.alloc (by omega) _) (by simp; omega) (World.ownsRow.alloc hown _) hgrow3
              go_roundw
              case rel => exact ⟨k + 1, by omega, by go_num, ho3, hb3⟩
              case measure => simp [intOf]; omega
        · obtain rfl : k = 15 := by omega
          go_wp2_with fail
          go_ret
          refine ⟨_, rfl, by rw [HB.out]; exact own_mono hown (by omega), hB1.trans (hbr.mono (by omega))⟩
end Go.Proofs.Ytchmhnodcjidkaa
