/-
  A slice of instructions as a list; Sequence of pipeline and of the reference.
-/
import Derived.Test.YtchmhnodcjidkaaP3
import Derived.Deep.RegionHeld3
namespace Go.Proofs.Ytchmhnodcjidkaa
open Go.RowKit Go.Maps

/-- An instruction's five numbers. -/
structure InsD where
  op : Int
  a : Int
  b : Int
  c : Int
  m : Int
deriving Inhabited
def InsD.val (i : InsD) : Value := .agg #[.int .u8 i.op, .int .i64 i.a, .int .i64 i.b, .int .i64 i.c, .int .i64 i.m]
def InsD.ok (i : InsD) : Prop := 0 ≤ i.op ∧ i.op ≤ 255
/-- The five cells from an address on. -/
def InsAt (w : World) (g o : Nat) (i : InsD) : Prop :=
  w.cell? ⟨g, o, none⟩ = some (.int .u8 i.op) ∧ w.cell? ⟨g, o + 1, none⟩ = some (.int .i64 i.a) ∧ w.cell? ⟨g, o + 2, none⟩ = some (.int .i64 i.b) ∧ w.cell? ⟨g, o + 3, none⟩ = some (.int .i64 i.c) ∧ w.cell? ⟨g, o + 4, none⟩ = some (.int .i64 i.m)
/-- The slice from ao on reads as L. -/
def SlI (w : World) (ao : Option Addr) (L : List InsD) : Prop :=
  ∀ k, k < L.length → ∃ g o, ao = some ⟨g, o, none⟩ ∧ g < w.heap.size ∧ ∀ k (h : k < L.length), (L[k]).ok ∧ InsAt w g (o + k * 5) L[k]
theorem InsAt.after {w w' : World} {g o : Nat} {i : InsD} (h : InsAt w g o i) (hg : g < w.heap.size) (hb : Below w.heap.size w w') : InsAt w' g o i := by
  obtain ⟨h0, h1, h2, h3, h4⟩ := h
  exact ⟨(hb.cell (p := ⟨g, o, none⟩) hg).trans h0, (hb.cell (p := ⟨g, o + 1, none⟩) hg).trans h1, (hb.cell (p := ⟨g, o + 2, none⟩) hg).trans h2, (hb.cell (p := ⟨g, o + 3, none⟩) hg).trans h3, (hb.cell (p := ⟨g, o + 4, none⟩) hg).trans h4⟩
theorem SlI.after {w w' : World} {ao : Option Addr} {L : List InsD} (h : SlI w ao L) (hb : Below w.heap.size w w') : SlI w' ao L := by
  intro k hk
  obtain ⟨g, o, hao, hg, hc⟩ := h k hk
  exact ⟨g, o, hao, Nat.lt_of_lt_of_le hg hb.size, fun k h => ⟨(hc k h).1, (hc k h).2.after hg hb⟩⟩

/-- What stands of a timing and an instruction in a world that lies behind wr. -/
theorem held_after {wr w' : World} {gt gi o : Nat} {x y z u op a b c m : Int} (hT : Holds wr gt 49 (timCells x y z u)) (hI : InsAt wr gi o ⟨op, a, b, c, m⟩) (hg : gi < wr.heap.size) (hb : Below wr.heap.size wr w') :
    w'.cell? ⟨gt, 0, none⟩ = some (.int .i64 x) ∧ w'.cell? ⟨gt, 1, none⟩ = some (.int .i64 y) ∧ w'.cell? ⟨gt, 2, none⟩ = some (.int .i64 z) ∧ w'.cell? ⟨gt, 3, none⟩ = some (.int .i64 u) ∧
    w'.cell? ⟨gi, o, none⟩ = some (.int .u8 op) ∧ w'.cell? ⟨gi, o + 1, none⟩ = some (.int .i64 a) ∧ w'.cell? ⟨gi, o + 2, none⟩ = some (.int .i64 b) ∧ w'.cell? ⟨gi, o + 3, none⟩ = some (.int .i64 c) ∧ w'.cell? ⟨gi, o + 4, none⟩ = some (.int .i64 m) ∧ Below wr.heap.size wr w' := by
  obtain ⟨t0, t1, t2, t3⟩ := tim_cells (hT.after hb)
  obtain ⟨i0, i1, i2, i3, i4⟩ := hI.after hg hb
  exact ⟨t0, t1, t2, t3, i0, i1, i2, i3, i4, hb⟩

/-- The time of a sequence, and the state behind it. -/
def seqV (x y z u s : Int) (L : List InsD) : Int × Int :=
  L.foldl (fun p i => (p.1 + cycV x y z u p.2 i.op i.a i.b i.c i.m false, nxtV i.op i.a i.b i.c i.m)) (0, s)
theorem seqV_succ (x y z u s : Int) (L : List InsD) (k : Nat) (h : k < L.length) : seqV x y z u s (L.take (k + 1)) =
    ((seqV x y z u s (L.take k)).1 + cycV x y z u (seqV x y z u s (L.take k)).2 L[k].op L[k].a L[k].b L[k].c L[k].m false, nxtV L[k].op L[k].a L[k].b L[k].c L[k].m) := by
  rw [List.take_succ_eq_append_getElem h]
  simp only [seqV, List.foldl_append, List.foldl_cons, List.foldl_nil]
theorem seqV_range {x y z u : Int} (ht : TimOk x y z u) (s : Int) (L : List InsD) : ∀ k, k ≤ L.length → 0 ≤ (seqV x y z u s (L.take k)).1 ∧ (seqV x y z u s (L.take k)).1 ≤ 3001 * (k : Int) := by
  intro k
  induction k with
  | zero => intro _; simp [seqV]
  | succ k ih =>
    intro hk
    have := ih (by omega)
    rw [seqV_succ _ _ _ _ _ _ _ (by omega)]
    have := cycV_range (s := (seqV x y z u s (L.take k)).2) (op := L[k].op) (a := L[k].a) (b := L[k].b) (c := L[k].c) (m := L[k].m) (tk := false) ht
    simp only
    omega

/-- What Sequence leaves. -/
def SeqPost (p : Int × Int) (w : World) (e : Ending) (w' : World) : Prop := e = .returned (.tuple #[.int .i64 p.1, .int .i64 p.2]) ∧ Below w.heap.size w w'

set_option maxRecDepth 100000 in
set_option maxHeartbeats 2000000 in
theorem sequence_any (x y z u s : Int) (ao : Option Addr) (cap : Nat) (L : List InsD) (w : World) (ht : TimOk x y z u) (hc : SlI w ao L) (hn : L.length ≤ 40) :
    Calls Try.prog 43 #[.agg #[.int .i64 x, .int .i64 y, .int .i64 z, .int .i64 u], .int .i64 s, .slice ao L.length cap] w (SeqPost (seqV x y z u s L) w) := by
  have hT0 := holds_new w 49 (timCells x y z u)
  have hB0 := (Below.refl w.heap.size w).alloc (Nat.le_refl _) (.cells (timCells x y z u) 49)
  have hT := Lib.hid ht
  go_enter Try.func43, Try.ntmps43
  go_wp2_with fail
  go_loopw [8, 1, 13] (fun v q i wr => ∃ (k : Nat), k ≤ L.length ∧ i = .int .i64 (k : Int) ∧ v = .int .i64 (seqV x y z u s (L.take k)).1 ∧ q = .int .i64 (seqV x y z u s (L.take k)).2 ∧ Holds wr w.heap.size 49 (timCells x y z u) ∧ Below w.heap.size w wr) (fun _ _ i _ => L.length - (intOf i).toNat)
  case atStart => exact ⟨0, by omega, rfl, rfl, rfl, hT0, hB0⟩
  case round =>
    clear hT0 hB0 ht
    obtain ⟨k, hk, rfl, rfl, rfl, hTr, hBr⟩ := hrel
    have hcr := hc.after hBr
    have hsz := hTr.lt
    by_cases hlt : k < L.length
    · obtain ⟨g, o, rfl, hg, hI⟩ := hcr k hlt
      obtain ⟨hok, i0, i1, i2, i3, i4⟩ := hI k hlt
      have HS := Lib.hid (seqV_succ x y z u s L k hlt)
      have hr := seqV_range hT.out s L k hk
      generalize L[k] = I at *
      obtain ⟨op, a, b, c, m⟩ := I
      simp only at i0 i1 i2 i3 i4 hok
      obtain ⟨h0, h1⟩ := hok
      obtain ⟨n, hnv⟩ : ∃ n, (seqV x y z u s (L.take k)).1 = n := ⟨_, rfl⟩
      obtain ⟨q, hqv⟩ : ∃ q, (seqV x y z u s (L.take k)).2 = q := ⟨_, rfl⟩
      rw [hnv] at hr ⊢
      rw [hqv]
      have HNV := Lib.hid hnv
      have HQV := Lib.hid hqv
      clear hnv hqv
      obtain ⟨t0, t1, t2, t3⟩ := tim_cells hTr
      have hcyc := cycV_range (s := q) (op := op) (a := a) (b := b) (c := c) (m := m) (tk := false) hT.out
      go_wp2_with fail
      refine (cycles_any x y z u q op a b c m false _ hT.out h0 h1).mono ?_
      rintro e w1 ⟨rfl, hb⟩
      have hI1 := (holds_new wr 23 (insCells op a b c m)).after hb
      have hT1 := (hTr.alloc (.cells (insCells op a b c m) 23)).after hb
      have hB1 := on (hBr.alloc hBr.size (.cells (insCells op a b c m) 23)) hb
      generalize hcv : cycV x y z u q op a b c m false = cv at *
      have HCV := Lib.hid hcv
      clear hTr hBr hb hcr hI i0 i1 i2 i3 i4 hsz hcv t0 t1 t2 t3
      obtain ⟨i0, i1, i2, i3, i4⟩ := ins_cells hI1
      go_wp2_with fail
      refine (next_any op a b c m _ h0 h1).mono ?_
      rintro e w2 ⟨rfl, hb⟩
      have hT2 := hT1.after hb
      have hB2 := on hB1 hb
      clear hT1 hI1 hB1 hb i0 i1 i2 i3 i4
      go_wp2_with fail
      go_roundw
      case rel =>
        refine ⟨k + 1, by omega, by go_num, ?_, ?_, hT2, hB2⟩
        · rw [HS.out]; simp only [HNV.out, HQV.out, HCV.out]
        · rw [HS.out]
      case measure => simp [intOf]; omega
    · obtain rfl : k = L.length := by omega
      have hfull : L.take L.length = L := List.take_length
      rw [hfull]
      clear hfull
      go_wp2_with fail
      go_ret2
      exact ⟨rfl, hBr⟩

set_option maxRecDepth 100000 in
set_option maxHeartbeats 2000000 in
theorem rsequence_any (x y z u s : Int) (ao : Option Addr) (cap : Nat) (L : List InsD) (w : World) (ht : TimOk x y z u) (hc : SlI w ao L) (hn : L.length ≤ 40) :
    Calls Try.prog 45 #[.agg #[.int .i64 x, .int .i64 y, .int .i64 z, .int .i64 u], .int .i64 s, .slice ao L.length cap] w (SeqPost (seqV x y z u s L) w) := by
  have hT0 := holds_new w 49 (timCells x y z u)
  have hB0 := (Below.refl w.heap.size w).alloc (Nat.le_refl _) (.cells (timCells x y z u) 49)
  have hT := Lib.hid ht
  go_enter Try.func45, Try.ntmps45
  go_wp2_with fail
  go_loopw [8, 1, 9] (fun v q i wr => ∃ (k : Nat), k ≤ L.length ∧ i = .int .i64 (k : Int) ∧ v = .int .i64 (seqV x y z u s (L.take k)).1 ∧ q = .int .i64 (seqV x y z u s (L.take k)).2 ∧ Holds wr w.heap.size 49 (timCells x y z u) ∧ Below w.heap.size w wr) (fun _ _ i _ => L.length - (intOf i).toNat)
  case atStart => exact ⟨0, by omega, rfl, rfl, rfl, hT0, hB0⟩
  case round =>
    clear hT0 hB0 ht
    obtain ⟨k, hk, rfl, rfl, rfl, hTr, hBr⟩ := hrel
    have hcr := hc.after hBr
    have hsz := hTr.lt
    by_cases hlt : k < L.length
    · obtain ⟨g, o, rfl, hg, hI⟩ := hcr k hlt
      have HI := Lib.hid hI
      obtain ⟨hok, i0, i1, i2, i3, i4⟩ := hI k hlt
      have HS := Lib.hid (seqV_succ x y z u s L k hlt)
      have hr := seqV_range hT.out s L k hk
      have hltz : (k : Int) < (L.length : Int) := by omega
      have hge : (0 : Int) ≤ (k : Int) := by omega
      clear hI
      generalize L[k] = I at *
      obtain ⟨op, a, b, c, m⟩ := I
      simp only at i0 i1 i2 i3 i4 hok
      obtain ⟨h0, h1⟩ := hok
      obtain ⟨n, hnv⟩ : ∃ n, (seqV x y z u s (L.take k)).1 = n := ⟨_, rfl⟩
      obtain ⟨q, hqv⟩ : ∃ q, (seqV x y z u s (L.take k)).2 = q := ⟨_, rfl⟩
      rw [hnv] at hr ⊢
      rw [hqv]
      have HNV := Lib.hid hnv
      have HQV := Lib.hid hqv
      clear hnv hqv
      obtain ⟨t0, t1, t2, t3⟩ := tim_cells hTr
      have hcyc := cycV_range (s := q) (op := op) (a := a) (b := b) (c := c) (m := m) (tk := false) hT.out
      have hIn : InsAt wr g (o + k * 5) ⟨op, a, b, c, m⟩ := ⟨i0, i1, i2, i3, i4⟩
      have hb0 : Below wr.heap.size wr wr.drew := below_drewN (Below.refl wr.heap.size wr) 1
      generalize hcv : cycV x y z u q op a b c m false = cv at *
      have hwr : IntKind.i64.wrap (n + cv) = n + cv := by rw [IntKind.wrap_i64]; omega
      have HWR := Lib.hid hwr
      have hR : ∀ w' : World, Calls Try.prog 46 #[.agg #[.int .i64 x, .int .i64 y, .int .i64 z, .int .i64 u], .int .i64 q, .agg #[.int .u8 op, .int .i64 a, .int .i64 b, .int .i64 c, .int .i64 m], .bool false] w' fun e w2 => e = .returned (.int .i64 cv) ∧ Below w'.heap.size w' w2 := by
        intro w'
        rw [← hcv]
        exact rcycles_any x y z u q op a b c m false _ hT.out h0 h1
      have HCV := Lib.hid hcv
      have HR := Lib.hid hR
      clear hcv hwr hR
      go_wp2_with fail
      go_region_held3 (fun w' => w'.cell? ⟨w.heap.size, 0, none⟩ = some (.int .i64 x) ∧ w'.cell? ⟨w.heap.size, 1, none⟩ = some (.int .i64 y) ∧ w'.cell? ⟨w.heap.size, 2, none⟩ = some (.int .i64 z) ∧ w'.cell? ⟨w.heap.size, 3, none⟩ = some (.int .i64 u) ∧
          w'.cell? ⟨g, o + k * 5, none⟩ = some (.int .u8 op) ∧ w'.cell? ⟨g, o + k * 5 + 1, none⟩ = some (.int .i64 a) ∧ w'.cell? ⟨g, o + k * 5 + 2, none⟩ = some (.int .i64 b) ∧ w'.cell? ⟨g, o + k * 5 + 3, none⟩ = some (.int .i64 c) ∧ w'.cell? ⟨g, o + k * 5 + 4, none⟩ = some (.int .i64 m) ∧ Below wr.heap.size wr w')
        (first | assumption | go_keep)
        (first | (go_at_call 46; refine (HR.out _).mono ?_; (rintro e w1 ⟨rfl, hb⟩); have hS := held_after hTr hIn hg (on (by assumption) hb)))
      rw [HWR.out]
      obtain ⟨_, _, _, _, j0, j1, j2, j3, j4, hbw⟩ := hS
      have hT2 := hTr.after hbw
      have hB2 := on hBr hbw
      have hg2 : g < w1.heap.size := Nat.lt_of_lt_of_le hg hbw.size
      clear hTr hBr hb hbw hcr HI i0 i1 i2 i3 i4 hsz t0 t1 t2 t3 hIn hb0
      go_wp2_with fail
      refine (rnext_any op a b c m _ h0 h1).mono ?_
      rintro e w2 ⟨rfl, hb⟩
      have hT3 := hT2.after hb
      have hB3 := on hB2 hb
      clear hT2 hB2 hb j0 j1 j2 j3 j4
      go_wp2_with fail
      go_roundw
      case rel =>
        refine ⟨k + 1, by omega, by go_num, ?_, ?_, hT3, hB3⟩
        · rw [HS.out]; simp only [HNV.out, HQV.out, HCV.out]
        · rw [HS.out]
      case measure => simp [intOf]; omega
    · obtain rfl : k = L.length := by omega
      have hfull : L.take L.length = L := List.take_length
      rw [hfull]
      clear hfull
      go_wp2_with fail
      go_ret2
      exact ⟨rfl, hBr⟩
end Go.Proofs.Ytchmhnodcjidkaa
