/-
  The law PipelineSums.
-/
import Derived.Test.YtchmhnodcjidkaaP5
namespace Go.Proofs.Ytchmhnodcjidkaa
open Go.RowKit Go.Maps

set_option maxRecDepth 100000 in
set_option maxHeartbeats 4000000 in
theorem walk_PipelineSums (x y z u s : Int) (ao : Option Addr) (cap : Nat) (L : List InsD) (w : World) (hc : SlI w ao L) :
    Calls Try.prog 13 #[.agg #[.int .i64 x, .int .i64 y, .int .i64 z, .int .i64 u], .int .i64 s, .slice ao L.length cap] w fun e w' => e = .returned (.bool true) ∧ Below w.heap.size w w' := by
  have hT0 := holds_new w 49 (timCells x y z u)
  have hB0 := (Below.refl w.heap.size w).alloc (Nat.le_refl _) (.cells (timCells x y z u) 49)
  go_enter Try.func13, Try.ntmps13
  go_wp2_with fail
  refine (awake8 _).mono ?_
  rintro e w1 ⟨rfl, hb⟩
  have hT1 := hT0.after hb
  have hB1 := on hB0 hb
  clear hT0 hB0 hb
  obtain ⟨t0, t1, t2, t3⟩ := tim_cells hT1
  go_wp2_with fail
  refine (pvalid_any x y z u _).mono ?_
  rintro e wr ⟨rfl, hb⟩
  have hT := hT1.after hb
  have hB := on hB1 hb
  clear hT1 hB1 hb t0 t1 t2 t3
  obtain ⟨vv, hvv⟩ : ∃ vv, okT x y z u = vv := ⟨_, rfl⟩
  have HV := Lib.hid hvv
  rw [hvv]
  clear hvv
  rcases vv with _ | _
  · go_wp2_with fail
    go_ret
    exact ⟨rfl, hB⟩
  have ht := Lib.hid (timOk_of HV.out)
  by_cases hn : L.length ≤ 40
  case neg =>
    have q40 : decide ((40 : Int) < (L.length : Int)) = true := decide_eq_true (by omega)
    clear hn
    go_wp2_with fail
    go_ret
    exact ⟨rfl, hB⟩
  have q40 : decide ((40 : Int) < (L.length : Int)) = false := decide_eq_false (by omega)
  have hsz := hT.lt
  have hcr := hc.after hB
  obtain ⟨t0, t1, t2, t3⟩ := tim_cells hT
  go_wp2_with fail
  refine (sequence_any x y z u s ao cap L _ ht.out hcr hn).mono ?_
  rintro e w2 ⟨rfl, hb⟩
  have hT2 := hT.after hb
  have hB2 := on hB hb
  clear hT hB hb hcr t0 t1 t2 t3 hsz
  have hfull := Lib.hid (show L.take L.length = L from List.take_length)
  go_wp2_with fail
  go_loopw [9, 10, 35] (fun v q i wr => ∃ (k : Nat), k ≤ L.length ∧ i = .int .i64 (k : Int) ∧ v = .int .i64 (seqV x y z u s (L.take k)).1 ∧ q = .int .i64 (seqV x y z u s (L.take k)).2 ∧ Holds wr w.heap.size 49 (timCells x y z u) ∧ Below w.heap.size w wr) (fun _ _ i _ => L.length - (intOf i).toNat)
  case atStart => exact ⟨0, by omega, rfl, rfl, rfl, hT2, hB2⟩
  case round =>
    clear hT2 hB2
    obtain ⟨k, hk, rfl, rfl, rfl, hTr, hBr⟩ := hrel
    have hcr := hc.after hBr
    have hsz := hTr.lt
    by_cases hlt : k < L.length
    · obtain ⟨g, o, rfl, hg, hI⟩ := hcr k hlt
      obtain ⟨hok, i0, i1, i2, i3, i4⟩ := hI k hlt
      have HS := Lib.hid (seqV_succ x y z u s L k hlt)
      have hr := seqV_range ht.out s L k hk
      generalize L[k] = I at *
      obtain ⟨op, a, b, c, m⟩ := I
      simp only at i0 i1 i2 i3 i4 hok
      obtain ⟨h0, h1⟩ := hok
      obtain ⟨n, hnv⟩ : ∃ n, (seqV x y z u s (L.take k)).1 = n := ⟨_, rfl⟩
      obtain ⟨q, hqv⟩ : ∃ q, (seqV x y z u s (L.take k)).2 = q := ⟨_, rfl⟩
      rw [hnv] at hr ⊢
      rw [hqv]
      have HNV := Lib.hid hnv
      have HQV := Lib.hid hqv
      clear hnv hqv
      obtain ⟨t0, t1, t2, t3⟩ := tim_cells hTr
      have hcyc := cycV_range (s := q) (op := op) (a := a) (b := b) (c := c) (m := m) (tk := false) ht.out
      go_wp2_with fail
      refine (cycles_any x y z u q op a b c m false _ ht.out h0 h1).mono ?_
      rintro e w3 ⟨rfl, hb⟩
      have hI1 := (holds_new wr 23 (insCells op a b c m)).after hb
      have hT1 := (hTr.alloc (.cells (insCells op a b c m) 23)).after hb
      have hB1 := on (hBr.alloc hBr.size (.cells (insCells op a b c m) 23)) hb
      generalize hcv : cycV x y z u q op a b c m false = cv at *
      have HCV := Lib.hid hcv
      clear hTr hBr hb hcr hI i0 i1 i2 i3 i4 hsz hcv t0 t1 t2 t3
      obtain ⟨i0, i1, i2, i3, i4⟩ := ins_cells hI1
      go_wp2_with fail
      refine (next_any op a b c m _ h0 h1).mono ?_
      rintro e w4 ⟨rfl, hb⟩
      have hT2 := hT1.after hb
      have hB2 := on hB1 hb
      clear hT1 hI1 hB1 hb i0 i1 i2 i3 i4
      go_wp2_with fail
      go_roundw
      case rel =>
        refine ⟨k + 1, by omega, by go_num, ?_, ?_, hT2, hB2⟩
        · rw [HS.out]; simp only [HNV.out, HQV.out, HCV.out]
        · rw [HS.out]
      case measure => simp [intOf]; omega
    · obtain rfl : k = L.length := by omega
      rw [hfull.out]
      obtain ⟨t0, t1, t2, t3⟩ := tim_cells hTr
      go_wp2_with fail
      refine (rsequence_any x y z u s ao cap L _ ht.out hcr hn).mono ?_
      rintro e w5 ⟨rfl, hb⟩
      have hB5 := on hBr hb
      clear hTr hBr hb hcr t0 t1 t2 t3
      go_wp2_with fail
      go_ret
      exact ⟨rfl, hB5⟩
end Go.Proofs.Ytchmhnodcjidkaa
