/-
  The laws PipelineBounds and PipelineStarts.
-/
import Derived.Test.YtchmhnodcjidkaaP5
namespace Go.Proofs.Ytchmhnodcjidkaa
open Go.RowKit Go.Maps

theorem cyc_between {x y z u s op a b c m : Int} (ht : TimOk x y z u) : baseV x y op ≤ cycV x y z u s op a b c m false ∧ cycV x y z u s op a b c m false ≤ mostV x y z u op a b c m := by
  obtain ⟨hx, hy, hz, hu⟩ := ht
  unfold cycV mostV
  have hh : hzV s op a b c m = true → (rdL op a b c m).length ≠ 0 := by
    intro h e
    unfold hzV at h
    rw [List.eq_nil_of_length_eq_zero e] at h
    simp at h
  rw [Bool.false_and]
  by_cases h : hzV s op a b c m = true
  · rw [if_pos h, if_neg (hh h)]
    simp only [Bool.false_eq_true, if_false]
    split <;> omega
  · rw [if_neg h]
    simp only [Bool.false_eq_true, if_false]
    split <;> split <;> omega

theorem seqV_acc (x y z u : Int) (L : List InsD) : ∀ n s : Int, L.foldl (fun p i => (p.1 + cycV x y z u p.2 i.op i.a i.b i.c i.m false, nxtV i.op i.a i.b i.c i.m)) (n, s) = (n + (seqV x y z u s L).1, (seqV x y z u s L).2) := by
  induction L with
  | nil => intro n s; simp [seqV]
  | cons i L ih =>
    intro n s
    unfold seqV
    rw [List.foldl_cons, List.foldl_cons, ih, ih]
    simp only [Prod.mk.injEq, and_true]
    omega
theorem seqV_cons (x y z u s : Int) (i : InsD) (L : List InsD) : seqV x y z u s (i :: L) = (cycV x y z u s i.op i.a i.b i.c i.m false + (seqV x y z u (nxtV i.op i.a i.b i.c i.m) L).1, (seqV x y z u (nxtV i.op i.a i.b i.c i.m) L).2) := by
  show List.foldl _ (0 + cycV x y z u s i.op i.a i.b i.c i.m false, nxtV i.op i.a i.b i.c i.m) L = _
  rw [seqV_acc, Int.zero_add]
theorem seqV_append (x y z u s : Int) (A B : List InsD) : seqV x y z u s (A ++ B) = ((seqV x y z u s A).1 + (seqV x y z u (seqV x y z u s A).2 B).1, (seqV x y z u (seqV x y z u s A).2 B).2) := by
  have : seqV x y z u s (A ++ B) = B.foldl (fun p i => (p.1 + cycV x y z u p.2 i.op i.a i.b i.c i.m false, nxtV i.op i.a i.b i.c i.m)) (seqV x y z u s A) := by
    simp only [seqV, List.foldl_append]
  rw [this]
  exact seqV_acc x y z u B _ _

theorem cyc_diff {x y z u s s' op a b c m : Int} (ht : TimOk x y z u) : cycV x y z u s op a b c m false - cycV x y z u s' op a b c m false ≤ u := by
  obtain ⟨hx, hy, hz, hu⟩ := ht
  unfold cycV
  rw [Bool.false_and]
  simp only [Bool.false_eq_true, if_false]
  split <;> split <;> omega
theorem cyc_least {x y z u s op a b c m : Int} (ht : TimOk x y z u) (h0 : 0 ≤ op) (h1 : op ≤ 255) : cycV x y z u 0 op a b c m false ≤ cycV x y z u s op a b c m false := by
  obtain ⟨hx, hy, hz, hu⟩ := ht
  unfold cycV
  rw [haz_zero op a b c m h0 h1, Bool.false_and]
  simp only [Bool.false_eq_true, if_false]
  split <;> omega

/-- What the initial state can turn. -/
theorem seqV_starts {x y z u : Int} (ht : TimOk x y z u) (L : List InsD) (hok : ∀ i ∈ L, i.ok) (a b : Int) :
    (seqV x y z u a L).1 - (seqV x y z u b L).1 ≤ u ∧ (seqV x y z u b L).1 - (seqV x y z u a L).1 ≤ u ∧ (seqV x y z u 0 L).1 ≤ (seqV x y z u a L).1 ∧
    (L.length = 0 → (seqV x y z u a L).1 = 0 ∧ (seqV x y z u a L).2 = a ∧ (seqV x y z u b L).2 = b) ∧ (L.length ≠ 0 → (seqV x y z u a L).2 = (seqV x y z u b L).2) := by
  cases L with
  | nil =>
    have hu := ht.2.2.2
    simp [seqV]; omega
  | cons i L =>
    have h1 := cyc_diff (s := a) (s' := b) (op := i.op) (a := i.a) (b := i.b) (c := i.c) (m := i.m) ht
    have h2 := cyc_diff (s := b) (s' := a) (op := i.op) (a := i.a) (b := i.b) (c := i.c) (m := i.m) ht
    have hi := hok i (by simp)
    have h3 := cyc_least (s := a) (op := i.op) (a := i.a) (b := i.b) (c := i.c) (m := i.m) ht hi.1 hi.2
    rw [seqV_cons, seqV_cons, seqV_cons]
    simp only
    refine ⟨by omega, by omega, by omega, fun h => by simp at h, fun _ => trivial⟩

theorem sli_ok {w : World} {ao : Option Addr} {L : List InsD} (h : SlI w ao L) : ∀ i ∈ L, i.ok := by
  intro i hi
  obtain ⟨k, hk, rfl⟩ := List.getElem_of_mem hi
  obtain ⟨g, o, _, _, hc⟩ := h k hk
  exact (hc k hk).1

set_option maxRecDepth 100000 in
set_option maxHeartbeats 4000000 in
theorem walk_PipelineBounds (x y z u s : Int) (ao : Option Addr) (cap : Nat) (L : List InsD) (w : World) (hc : SlI w ao L) :
    Calls Try.prog 19 #[.agg #[.int .i64 x, .int .i64 y, .int .i64 z, .int .i64 u], .int .i64 s, .slice ao L.length cap] w fun e w' => e = .returned (.bool true) ∧ Below w.heap.size w w' := by
  have hT0 := holds_new w 49 (timCells x y z u)
  have hB0 := (Below.refl w.heap.size w).alloc (Nat.le_refl _) (.cells (timCells x y z u) 49)
  go_enter Try.func19, Try.ntmps19
  go_wp2_with fail
  refine (awake8 _).mono ?_
  rintro e w1 ⟨rfl, hb⟩
  have hT1 := hT0.after hb
  have hB1 := on hB0 hb
  clear hT0 hB0 hb
  obtain ⟨t0, t1, t2, t3⟩ := tim_cells hT1
  go_wp2_with fail
  refine (pvalid_any x y z u _).mono ?_
  rintro e wr ⟨rfl, hb⟩
  have hT := hT1.after hb
  have hB := on hB1 hb
  clear hT1 hB1 hb t0 t1 t2 t3
  obtain ⟨vv, hvv⟩ : ∃ vv, okT x y z u = vv := ⟨_, rfl⟩
  have HV := Lib.hid hvv
  rw [hvv]
  clear hvv
  rcases vv with _ | _
  · go_wp2_with fail
    go_ret
    exact ⟨rfl, hB⟩
  have ht := Lib.hid (timOk_of HV.out)
  by_cases hn : L.length ≤ 40
  case neg =>
    have q40 : decide ((40 : Int) < (L.length : Int)) = true := decide_eq_true (by omega)
    clear hn
    go_wp2_with fail
    go_ret
    exact ⟨rfl, hB⟩
  have q40 : decide ((40 : Int) < (L.length : Int)) = false := decide_eq_false (by omega)
  have hsz := hT.lt
  have hcr := hc.after hB
  have hfull := Lib.hid (show L.take L.length = L from List.take_length)
  go_wp2_with fail
  go_loopw [7, 8, 25] (fun v q i wx => ∃ (k : Nat) (lo hi : Int), k ≤ L.length ∧ i = .int .i64 (k : Int) ∧ v = .int .i64 lo ∧ q = .int .i64 hi ∧ (0 ≤ lo ∧ lo ≤ (seqV x y z u s (L.take k)).1 ∧ (seqV x y z u s (L.take k)).1 ≤ hi ∧ hi ≤ 3001 * (k : Int)) ∧ Holds wx w.heap.size 49 (timCells x y z u) ∧ Below w.heap.size w wx) (fun _ _ i _ => L.length - (intOf i).toNat)
  case atStart => exact ⟨0, 0, 0, by omega, rfl, rfl, rfl, by simp [seqV], hT, hB⟩
  case round =>
    clear hT hB hcr hsz
    obtain ⟨k, lo, hi, hk, rfl, rfl, rfl, hlohi, hTr, hBr⟩ := hrel
    have hcr := hc.after hBr
    have hsz := hTr.lt
    by_cases hlt : k < L.length
    · obtain ⟨g, o, rfl, hg, hI⟩ := hcr k hlt
      obtain ⟨hok, i0, i1, i2, i3, i4⟩ := hI k hlt
      have HS := Lib.hid (seqV_succ x y z u s L k hlt)
      have hr := seqV_range ht.out s L k hk
      generalize L[k] = I at *
      obtain ⟨op, a, b, c, m⟩ := I
      simp only at i0 i1 i2 i3 i4 hok
      obtain ⟨h0, h1⟩ := hok
      obtain ⟨n, hnv⟩ : ∃ n, (seqV x y z u s (L.take k)).1 = n := ⟨_, rfl⟩
      obtain ⟨q, hqv⟩ : ∃ q, (seqV x y z u s (L.take k)).2 = q := ⟨_, rfl⟩
      rw [hnv] at hr hlohi
      have HNV := Lib.hid hnv
      have HQV := Lib.hid hqv
      clear hnv hqv
      obtain ⟨t0, t1, t2, t3⟩ := tim_cells hTr
      have hbet := Lib.hid (cyc_between (s := q) (op := op) (a := a) (b := b) (c := c) (m := m) ht.out)
      have hbr := baseV_range (op := op) ht.out.1 ht.out.2.1
      have hmr := mostV_range (op := op) (a := a) (b := b) (c := c) (m := m) ht.out
      obtain ⟨l0, l1, l2, l3⟩ := hlohi
      go_wp2_with fail
      refine (least_any x y z u op a b c m _ ht.out).mono ?_
      rintro e w3 ⟨rfl, hb⟩
      have hI1 := (holds_new _ 23 (insCells op a b c m)).after hb
      have hT1 := (hTr.alloc (.cells (insCells op a b c m) 23)).after hb
      have hB1 := on (hBr.alloc hBr.size (.cells (insCells op a b c m) 23)) hb
      generalize hbv : baseV x y op = bv at *
      have HBV := Lib.hid hbv
      clear hTr hBr hb hcr hI i0 i1 i2 i3 i4 hsz hbv t0 t1 t2 t3
      obtain ⟨i0, i1, i2, i3, i4⟩ := ins_cells hI1
      obtain ⟨t0, t1, t2, t3⟩ := tim_cells hT1
      go_wp2_with fail
      refine (most_any x y z u op a b c m _ ht.out h0 h1).mono ?_
      rintro e w4 ⟨rfl, hb⟩
      have hT2 := hT1.after hb
      have hB2 := on hB1 hb
      generalize hmv : mostV x y z u op a b c m = mv at *
      have HMV := Lib.hid hmv
      clear hT1 hI1 hB1 hb i0 i1 i2 i3 i4 t0 t1 t2 t3 hmv
      go_wp2_with fail
      go_roundw
      case rel =>
        refine ⟨k + 1, _, _, by omega, by go_num, rfl, rfl, ?_, hT2, hB2⟩
        have hb := hbet.out
        rw [HS.out]
        simp only [HNV.out, HQV.out]
        omega
      case measure => simp [intOf]; omega
    · obtain rfl : k = L.length := by omega
      rw [hfull.out] at hlohi
      obtain ⟨t0, t1, t2, t3⟩ := tim_cells hTr
      obtain ⟨l0, l1, l2, l3⟩ := hlohi
      go_wp2_with fail
      refine (sequence_any x y z u s ao cap L _ ht.out hcr hn).mono ?_
      rintro e w5 ⟨rfl, hb⟩
      have hB5 := on hBr hb
      obtain ⟨n, hnv⟩ : ∃ n, (seqV x y z u s L).1 = n := ⟨_, rfl⟩
      rw [hnv] at l1 l2 ⊢
      have q1 : decide (lo ≤ n) = true := decide_eq_true l1
      have q2 : decide (n ≤ hi) = true := decide_eq_true l2
      clear hTr hBr hb hcr t0 t1 t2 t3 l0 l1 l2 l3 hnv
      go_wp2_with fail
      go_ret
      exact ⟨rfl, hB5⟩

set_option maxRecDepth 100000 in
set_option maxHeartbeats 4000000 in
theorem walk_PipelineStarts (x y z u a b : Int) (ao : Option Addr) (cap : Nat) (L : List InsD) (w : World) (hc : SlI w ao L) :
    Calls Try.prog 15 #[.agg #[.int .i64 x, .int .i64 y, .int .i64 z, .int .i64 u], .int .i64 a, .int .i64 b, .slice ao L.length cap] w fun e w' => e = .returned (.bool true) ∧ Below w.heap.size w w' := by
  have hT0 := holds_new w 49 (timCells x y z u)
  have hB0 := (Below.refl w.heap.size w).alloc (Nat.le_refl _) (.cells (timCells x y z u) 49)
  go_enter Try.func15, Try.ntmps15
  go_wp2_with fail
  refine (awake8 _).mono ?_
  rintro e w1 ⟨rfl, hb⟩
  have hT1 := hT0.after hb
  have hB1 := on hB0 hb
  clear hT0 hB0 hb
  obtain ⟨t0, t1, t2, t3⟩ := tim_cells hT1
  go_wp2_with fail
  refine (pvalid_any x y z u _).mono ?_
  rintro e wr ⟨rfl, hb⟩
  have hT := hT1.after hb
  have hB := on hB1 hb
  clear hT1 hB1 hb t0 t1 t2 t3
  obtain ⟨vv, hvv⟩ : ∃ vv, okT x y z u = vv := ⟨_, rfl⟩
  have HV := Lib.hid hvv
  rw [hvv]
  clear hvv
  rcases vv with _ | _
  · go_wp2_with fail
    go_ret
    exact ⟨rfl, hB⟩
  have ht := Lib.hid (timOk_of HV.out)
  by_cases hn : L.length ≤ 40
  case neg =>
    have q40 : decide ((40 : Int) < (L.length : Int)) = true := decide_eq_true (by omega)
    clear hn
    go_wp2_with fail
    go_ret
    exact ⟨rfl, hB⟩
  have q40 : decide ((40 : Int) < (L.length : Int)) = false := decide_eq_false (by omega)
  have hsz := hT.lt
  have hcr := hc.after hB
  have hfa := seqV_range ht.out a L L.length (Nat.le_refl _)
  have hfb := seqV_range ht.out b L L.length (Nat.le_refl _)
  rw [List.take_length] at hfa hfb
  obtain ⟨s1, s2, s3, s4, s5⟩ := seqV_starts ht.out L (sli_ok hc) a b
  have S4 := Lib.hid s4
  have S5 := Lib.hid s5
  clear s4 s5
  obtain ⟨t0, t1, t2, t3⟩ := tim_cells hT
  go_wp2_with fail
  refine (sequence_any x y z u a ao cap L _ ht.out hcr hn).mono ?_
  rintro e w2 ⟨rfl, hb⟩
  have hT2 := hT.after hb
  have hB2 := on hB hb
  have hcr2 := hcr.after hb
  clear hT hB hb hcr t0 t1 t2 t3 hsz
  obtain ⟨t0, t1, t2, t3⟩ := tim_cells hT2
  go_wp2_with fail
  refine (sequence_any x y z u b ao cap L _ ht.out hcr2 hn).mono ?_
  rintro e w3 ⟨rfl, hb⟩
  have hT3 := hT2.after hb
  have hB3 := on hB2 hb
  have hcr3 := hcr2.after hb
  clear hT2 hB2 hb hcr2 t0 t1 t2 t3
  obtain ⟨t0, t1, t2, t3⟩ := tim_cells hT3
  go_wp2_with fail
  refine (sequence_any x y z u 0 ao cap L _ ht.out hcr3 hn).mono ?_
  rintro e w4 ⟨rfl, hb⟩
  have hT4 := hT3.after hb
  have hB4 := on hB3 hb
  clear hT3 hB3 hb hcr3 t0 t1 t2 t3
  obtain ⟨t0, t1, t2, t3⟩ := tim_cells hT4
  clear t0 t1 t2
  obtain ⟨na, hna⟩ : ∃ n, (seqV x y z u a L).1 = n := ⟨_, rfl⟩
  obtain ⟨nb, hnb⟩ : ∃ n, (seqV x y z u b L).1 = n := ⟨_, rfl⟩
  obtain ⟨nz, hnz⟩ : ∃ n, (seqV x y z u 0 L).1 = n := ⟨_, rfl⟩
  obtain ⟨qa, hqa⟩ : ∃ n, (seqV x y z u a L).2 = n := ⟨_, rfl⟩
  obtain ⟨qb, hqb⟩ : ∃ n, (seqV x y z u b L).2 = n := ⟨_, rfl⟩
  rw [hna] at hfa s1 s2 s3 ⊢
  rw [hnb] at hfb s1 s2 ⊢
  rw [hnz] at s3 ⊢
  rw [hqa, hqb]
  have e4 := S4.out
  have e5 := S5.out
  rw [hna, hqa, hqb] at e4
  rw [hqa, hqb] at e5
  have E4 := Lib.hid e4
  have E5 := Lib.hid e5
  have q1 : decide (u < na - nb) = false := decide_eq_false (by omega)
  have q2 : decide (u < nb - na) = false := decide_eq_false (by omega)
  have q3 : decide (na < nz) = false := decide_eq_false (by omega)
  clear hna hnb hnz hqa hqb s1 s2 s3 e4 e5 S4 S5 hT4
  by_cases hz : L.length = 0
  · have z0 : (na == 0) = true := by rw [beq_iff_eq]; exact (E4.out hz).1
    have z1 : (qa == a) = true := by rw [beq_iff_eq]; exact (E4.out hz).2.1
    have z2 : (qb == b) = true := by rw [beq_iff_eq]; exact (E4.out hz).2.2
    have qz : ((L.length : Int) == 0) = true := by rw [hz]; rfl
    clear hz E4 E5
    go_wp2_with fail
    go_ret
    exact ⟨rfl, hB4⟩
  · have z1 : (qa == qb) = true := by rw [beq_iff_eq]; exact E5.out hz
    have qz : ((L.length : Int) == 0) = false := by rw [beq_eq_false_iff_ne]; omega
    clear hz E4 E5
    go_wp2_with fail
    go_ret
    exact ⟨rfl, hB4⟩
end Go.Proofs.Ytchmhnodcjidkaa
