/-
  The law PipelineDivides.
-/
import Derived.Test.YtchmhnodcjidkaaP8
namespace Go.Proofs.Ytchmhnodcjidkaa
open Go.RowKit Go.Maps

theorem sli_take {w : World} {ao : Option Addr} {L : List InsD} (h : SlI w ao L) (k : Nat) : SlI w ao (L.take k) := by
  intro j hj
  have hj' : j < L.length := by rw [List.length_take] at hj; omega
  obtain ⟨g, o, hao, hg, hc⟩ := h j hj'
  refine ⟨g, o, hao, hg, fun i hi => ?_⟩
  have hi' : i < L.length := by rw [List.length_take] at hi; omega
  rw [List.getElem_take]
  exact hc i hi'
theorem sli_drop {w : World} {ao : Option Addr} {L : List InsD} {cap : Nat} (h : SlI w ao L) (k : Nat) (hcap : L.length ≤ cap) : SlI w (if cap = k then ao else ao.map (·.add (k * 5))) (L.drop k) := by
  intro j hj
  have hj' : k + j < L.length := by rw [List.length_drop] at hj; omega
  obtain ⟨g, o, hao, hg, hc⟩ := h (k + j) hj'
  refine ⟨g, o + k * 5, ?_, hg, fun i hi => ?_⟩
  · rw [if_neg (by omega), hao, Option.map_some, Addr.add_lit]
  · have hi' : k + i < L.length := by rw [List.length_drop] at hi; omega
    rw [List.getElem_drop]
    have := hc (k + i) hi'
    rwa [Nat.add_mul, ← Nat.add_assoc] at this

theorem sequence_n (n : Nat) (x y z u s : Int) (ao : Option Addr) (cap : Nat) (L : List InsD) (w : World) (hn : n = L.length) (ht : TimOk x y z u) (hc : SlI w ao L) (h40 : n ≤ 40) :
    Calls Try.prog 43 #[.agg #[.int .i64 x, .int .i64 y, .int .i64 z, .int .i64 u], .int .i64 s, .slice ao n cap] w (SeqPost (seqV x y z u s L) w) := by
  subst hn
  exact sequence_any x y z u s ao cap L w ht hc h40

/-- What stands of the timing in a world that lies behind wr. -/
theorem tim_after {wr w' : World} {gt : Nat} {x y z u : Int} (hT : Holds wr gt 49 (timCells x y z u)) (hb : Below wr.heap.size wr w') :
    w'.cell? ⟨gt, 0, none⟩ = some (.int .i64 x) ∧ w'.cell? ⟨gt, 1, none⟩ = some (.int .i64 y) ∧ w'.cell? ⟨gt, 2, none⟩ = some (.int .i64 z) ∧ w'.cell? ⟨gt, 3, none⟩ = some (.int .i64 u) ∧ Below wr.heap.size wr w' := by
  obtain ⟨t0, t1, t2, t3⟩ := tim_cells (hT.after hb)
  exact ⟨t0, t1, t2, t3, hb⟩

set_option maxRecDepth 100000 in
set_option maxHeartbeats 4000000 in
theorem walk_PipelineDivides (x y z u s : Int) (ao : Option Addr) (cap : Nat) (L : List InsD) (cut : Int) (w : World) (hc : SlI w ao L) (hcap : L.length ≤ cap) (c0 : 0 ≤ cut) (c1 : cut ≤ 255) :
    Calls Try.prog 14 #[.agg #[.int .i64 x, .int .i64 y, .int .i64 z, .int .i64 u], .int .i64 s, .slice ao L.length cap, .int .u8 cut] w fun e w' => e = .returned (.bool true) ∧ Below w.heap.size w w' := by
  have hT0 := holds_new w 49 (timCells x y z u)
  have hB0 := (Below.refl w.heap.size w).alloc (Nat.le_refl _) (.cells (timCells x y z u) 49)
  go_enter Try.func14, Try.ntmps14
  go_wp2_with fail
  refine (awake8 _).mono ?_
  rintro e w1 ⟨rfl, hb⟩
  have hT1 := hT0.after hb
  have hB1 := on hB0 hb
  clear hT0 hB0 hb
  obtain ⟨t0, t1, t2, t3⟩ := tim_cells hT1
  go_wp2_with fail
  refine (pvalid_any x y z u _).mono ?_
  rintro e wr ⟨rfl, hb⟩
  have hT := hT1.after hb
  have hB := on hB1 hb
  clear hT1 hB1 hb t0 t1 t2 t3
  obtain ⟨vv, hvv⟩ : ∃ vv, okT x y z u = vv := ⟨_, rfl⟩
  have HV := Lib.hid hvv
  rw [hvv]
  clear hvv
  rcases vv with _ | _
  · go_wp2_with fail
    go_ret
    exact ⟨rfl, hB⟩
  have ht := Lib.hid (timOk_of HV.out)
  by_cases hn : L.length ≤ 40
  case neg =>
    have q40 : decide ((40 : Int) < (L.length : Int)) = true := decide_eq_true (by omega)
    clear hn
    go_wp2_with fail
    go_ret
    exact ⟨rfl, hB⟩
  have q40 : decide ((40 : Int) < (L.length : Int)) = false := decide_eq_false (by omega)
  have hsz := hT.lt
  have hcr := hc.after hB
  obtain ⟨t0, t1, t2, t3⟩ := tim_cells hT
  have hnz : ((L.length : Int) + 1 == 0) = false := by rw [beq_eq_false_iff_ne]; omega
  obtain ⟨k, hk⟩ : ∃ k : Nat, (k : Int) = cut % ((L.length : Int) + 1) := ⟨(cut % ((L.length : Int) + 1)).toNat, by have := Int.emod_nonneg cut (b := (L.length : Int) + 1) (by omega); omega⟩
  have hkl : k ≤ L.length := by have := Int.emod_lt_of_pos cut (b := (L.length : Int) + 1) (by omega); omega
  have hq := hk.symm
  clear hk
  have b0 : (0 : Int) ≤ (k : Int) := by omega
  have b1 : (k : Int) ≤ (cap : Int) := by omega
  have b2 : (k : Int) ≤ (L.length : Int) := by omega
  have b3 : k ≤ cap := by omega
  have hb0 : Below wr.heap.size wr wr.drew := below_drewN (Below.refl wr.heap.size wr) 1
  have hC1 : Hid (∀ w', Below wr.heap.size wr w' → Calls Try.prog 43 #[.agg #[.int .i64 x, .int .i64 y, .int .i64 z, .int .i64 u], .int .i64 s, .slice ao k cap] w' (SeqPost (seqV x y z u s (L.take k)) w')) := fun w' hb =>
    sequence_n k x y z u s ao cap (L.take k) w' (by rw [List.length_take]; omega) ht.out (sli_take (hcr.after hb) k) (by omega)
  go_wp2_with fail
  go_region_held3 (fun w' => w'.cell? ⟨w.heap.size, 0, none⟩ = some (.int .i64 x) ∧ w'.cell? ⟨w.heap.size, 1, none⟩ = some (.int .i64 y) ∧ w'.cell? ⟨w.heap.size, 2, none⟩ = some (.int .i64 z) ∧ w'.cell? ⟨w.heap.size, 3, none⟩ = some (.int .i64 u) ∧ Below wr.heap.size wr w')
    (first | assumption | go_keep)
    (first | (go_at_call 43; refine (hC1.out _ hb0).mono ?_; (rintro e w2 ⟨rfl, hb⟩); have hbn := on (by assumption) hb; have hS := tim_after hT hbn))
  have hT2 := hT.after hbn
  have hB2 := on hB hbn
  have hcr2 := hcr.after hbn
  clear hT hB hb hbn hcr t0 t1 t2 t3 hsz hb0 hS hC1 hnz hq c0 c1
  obtain ⟨p1, hp1⟩ : ∃ p, (seqV x y z u s (L.take k)).1 = p := ⟨_, rfl⟩
  obtain ⟨q1, hq1⟩ : ∃ q, (seqV x y z u s (L.take k)).2 = q := ⟨_, rfl⟩
  rw [hp1, hq1]
  have HP1 := Lib.hid hp1
  have HQ1 := Lib.hid hq1
  clear hp1 hq1
  obtain ⟨t0, t1, t2, t3⟩ := tim_cells hT2
  have hb0 : Below w2.heap.size w2 w2.drew := below_drewN (Below.refl w2.heap.size w2) 1
  have r1 := seqV_range ht.out s L k hkl
  rw [HP1.out] at r1
  have r2 := seqV_range ht.out q1 (L.drop k) (L.drop k).length (Nat.le_refl _)
  rw [List.take_length] at r2
  have hdl : (L.drop k).length ≤ 40 := by rw [List.length_drop]; omega
  have HSUM : Hid (seqV x y z u s L = (p1 + (seqV x y z u q1 (L.drop k)).1, (seqV x y z u q1 (L.drop k)).2)) := by
    show _ = _
    have := seqV_append x y z u s (L.take k) (L.drop k)
    rw [List.take_append_drop, HP1.out, HQ1.out] at this
    exact this
  by_cases hck : cap = k
  · obtain rfl := hck
    have hC2 : Hid (∀ w', Below w2.heap.size w2 w' → Calls Try.prog 43 #[.agg #[.int .i64 x, .int .i64 y, .int .i64 z, .int .i64 u], .int .i64 q1, .slice ao 0 0] w' (SeqPost (seqV x y z u q1 (L.drop cap)) w')) := fun w' hb => by
      have h2 := sli_drop (hcr2.after hb) cap hcap
      rw [if_pos rfl] at h2
      exact sequence_n 0 x y z u q1 _ _ (L.drop cap) w' (by rw [List.length_drop]; omega) ht.out h2 (by omega)
    go_wp2_with fail
    go_region_held3 (fun w' => w'.cell? ⟨w.heap.size, 0, none⟩ = some (.int .i64 x) ∧ w'.cell? ⟨w.heap.size, 1, none⟩ = some (.int .i64 y) ∧ w'.cell? ⟨w.heap.size, 2, none⟩ = some (.int .i64 z) ∧ w'.cell? ⟨w.heap.size, 3, none⟩ = some (.int .i64 u) ∧ Below w2.heap.size w2 w')
      (first | assumption | go_keep)
      (first | (go_at_call 43; refine (hC2.out _ hb0).mono ?_; (rintro e w3 ⟨rfl, hb⟩); have hbn := on (by assumption) hb; have hS := tim_after hT2 hbn))
    have hT3 := hT2.after hbn
    have hB3 := on hB2 hbn
    have hcr3 := hcr2.after hbn
    clear hT2 hB2 hb hbn hcr2 t0 t1 t2 t3 hb0 hS hC2
    obtain ⟨t0, t1, t2, t3⟩ := tim_cells hT3
    go_wp2_with fail
    refine (sequence_any x y z u s ao _ L _ ht.out hcr3 hn).mono ?_
    rintro e w4 ⟨rfl, hb⟩
    have hB4 := on hB3 hb
    clear hT3 hB3 hb hcr3 t0 t1 t2 t3
    rw [HSUM.out]
    obtain ⟨p2, hp2⟩ : ∃ p, (seqV x y z u q1 (L.drop cap)).1 = p := ⟨_, rfl⟩
    obtain ⟨q2, hq2⟩ : ∃ q, (seqV x y z u q1 (L.drop cap)).2 = q := ⟨_, rfl⟩
    rw [hp2, hq2]
    rw [hp2] at r2
    clear hp2 hq2
    go_wp2_with fail
    go_ret
    exact ⟨rfl, hB4⟩
  · have hC2 : Hid (∀ w', Below w2.heap.size w2 w' → Calls Try.prog 43 #[.agg #[.int .i64 x, .int .i64 y, .int .i64 z, .int .i64 u], .int .i64 q1, .slice (ao.map (·.add (k * 5))) (L.length - k) (cap - k)] w' (SeqPost (seqV x y z u q1 (L.drop k)) w')) := fun w' hb => by
      have h2 := sli_drop (hcr2.after hb) k hcap
      rw [if_neg hck] at h2
      exact sequence_n (L.length - k) x y z u q1 _ _ (L.drop k) w' (by rw [List.length_drop]) ht.out h2 (by omega)
    go_wp2_with fail
    go_region_held3 (fun w' => w'.cell? ⟨w.heap.size, 0, none⟩ = some (.int .i64 x) ∧ w'.cell? ⟨w.heap.size, 1, none⟩ = some (.int .i64 y) ∧ w'.cell? ⟨w.heap.size, 2, none⟩ = some (.int .i64 z) ∧ w'.cell? ⟨w.heap.size, 3, none⟩ = some (.int .i64 u) ∧ Below w2.heap.size w2 w')
      (first | assumption | go_keep)
      (first | (go_at_call 43; refine (hC2.out _ hb0).mono ?_; (rintro e w3 ⟨rfl, hb⟩); have hbn := on (by assumption) hb; have hS := tim_after hT2 hbn))
    have hT3 := hT2.after hbn
    have hB3 := on hB2 hbn
    have hcr3 := hcr2.after hbn
    clear hT2 hB2 hb hbn hcr2 t0 t1 t2 t3 hb0 hS hC2
    obtain ⟨t0, t1, t2, t3⟩ := tim_cells hT3
    go_wp2_with fail
    refine (sequence_any x y z u s ao _ L _ ht.out hcr3 hn).mono ?_
    rintro e w4 ⟨rfl, hb⟩
    have hB4 := on hB3 hb
    clear hT3 hB3 hb hcr3 t0 t1 t2 t3
    rw [HSUM.out]
    obtain ⟨p2, hp2⟩ : ∃ p, (seqV x y z u q1 (L.drop k)).1 = p := ⟨_, rfl⟩
    obtain ⟨q2, hq2⟩ : ∃ q, (seqV x y z u q1 (L.drop k)).2 = q := ⟨_, rfl⟩
    rw [hp2, hq2]
    rw [hp2] at r2
    clear hp2 hq2
    go_wp2_with fail
    go_ret
    exact ⟨rfl, hB4⟩
end Go.Proofs.Ytchmhnodcjidkaa
