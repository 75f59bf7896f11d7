/-
  The walks of slices.Index, Contains, IndexFunc, ContainsFunc as package pipeline calls them; Valid of pipeline and of the reference.
-/
import Derived.Test.YtchmhnodcjidkaaA7
namespace Go.Proofs.Ytchmhnodcjidkaa
open Go.RowKit Go.Maps

theorem Cells.drewN {w : World} {ao : Option Addr} {L : List Int} (h : Cells w ao L) (n : Nat) : Cells (w.drewN n) ao L := h

theorem contains_take_succ (L : List Int) (s : Int) (k : Nat) (hk : k < L.length) : (L.take (k + 1)).contains s = ((L.take k).contains s || (s == L.getD k 0)) := by
  rw [List.take_succ_eq_append_getElem hk, List.getD_eq_getElem?_getD, List.getElem?_eq_getElem hk]
  simp only [List.contains_eq_any_beq, List.any_append, List.any_cons, List.any_nil, Bool.or_false, Option.getD_some]

/-- What Index leaves: -1 where s is not in L. -/
def IdxPost (b : Bool) (w : World) (e : Ending) (w' : World) : Prop := ∃ i : Int, e = .returned (.int .i64 i) ∧ (decide (0 ≤ i) = b) ∧ -1 ≤ i ∧ w = w'

set_option maxRecDepth 100000 in
set_option maxHeartbeats 1000000 in
theorem index_any (ao : Option Addr) (cap : Nat) (L : List Int) (s : Int) (w : World) (hc : Cells w ao L) (hm : L.length ≤ 16) :
    Calls Try.prog 72 #[.slice ao L.length cap, .int .i64 s] w (IdxPost (L.contains s) w) := by
  go_enter Try.func72, Try.ntmps72
  go_wp2_with fail
  go_loopw [8] (fun i wr => ∃ (k : Nat), k ≤ L.length ∧ i = .int .i64 (k : Int) ∧ (L.take k).contains s = false ∧ wr = w) (fun i _ => L.length - (intOf i).toNat)
  case atStart => exact ⟨0, by omega, rfl, by simp, rfl⟩
  case round =>
    obtain ⟨k, hk, rfl, hno, rfl⟩ := hrel
    have HN := Lib.hid hno
    clear hno
    by_cases hlt : k < L.length
    · obtain ⟨g, rfl, _, hg⟩ := hc k hlt
      have c1 := hg k hlt
      have HS := Lib.hid (contains_take_succ L s k hlt)
      obtain ⟨r, hr⟩ : ∃ r, L.getD k 0 = r := ⟨_, rfl⟩
      rw [hr] at c1
      have HRk := Lib.hid hr
      clear hr hg hc
      by_cases e1 : (s == r) = true
      · go_wp2_with fail
        go_ret
        refine ⟨_, rfl, ?_, by omega, rfl⟩
        have h1 := HS.out
        rw [HRk.out, e1, Bool.or_true] at h1
        have h2 : s ∈ L := List.mem_of_mem_take (List.contains_iff_mem.1 h1)
        rw [List.contains_iff_mem.2 h2]
        exact decide_eq_true (by omega)
      · replace e1 : (s == r) = false := by simpa using e1
        go_wp2_with fail
        go_roundw
        case rel => exact ⟨k + 1, by omega, by go_num, by rw [HS.out, HRk.out, e1, HN.out]; rfl, trivial⟩
        case measure => simp [intOf]; omega
    · obtain rfl : k = L.length := by omega
      go_wp2_with fail
      go_ret
      refine ⟨_, rfl, ?_, by omega, rfl⟩
      have := HN.out
      rw [List.take_length] at this
      rw [this]; rfl

set_option maxRecDepth 100000 in
theorem contains_any (ao : Option Addr) (cap : Nat) (L : List Int) (s : Int) (w : World) (hc : Cells w ao L) (hm : L.length ≤ 16) :
    Calls Try.prog 63 #[.slice ao L.length cap, .int .i64 s] w fun e w' => e = .returned (.bool (L.contains s)) ∧ w = w' := by
  go_enter Try.func63, Try.ntmps63
  go_wp2_with fail
  refine (index_any ao cap L s w hc hm).mono ?_
  rintro e w1 ⟨i, rfl, hi, _, rfl⟩
  have HI := Lib.hid hi
  clear hi
  go_wp2_with fail
  go_ret
  exact ⟨by rw [← HI.out]; simp, rfl⟩

/-- Out of the range of a timing. -/
def badV (n : Int) : Bool := decide (n < 0) || decide (1000 < n)
set_option maxRecDepth 100000 in
theorem bad_any (n : Int) (w : World) : Calls Try.prog 62 #[.int .i64 n] w fun e w' => e = .returned (.bool (badV n)) ∧ w = w' := by
  by_cases h : n < 0
  · have h1 : decide (n < 0) = true := decide_eq_true h
    have hB : badV n = true := by unfold badV; rw [h1]; rfl
    have HB := Lib.hid hB
    clear hB h
    go_enter Try.func62, Try.ntmps62
    go_wp2_with fail
    go_ret
    exact ⟨by rw [HB.out]; rfl, rfl⟩
  · have h1 : decide (n < 0) = false := decide_eq_false h
    have hB : badV n = decide (1000 < n) := by unfold badV; rw [h1]; rfl
    have HB := Lib.hid hB
    clear hB h
    go_enter Try.func62, Try.ntmps62
    go_wp2_with fail
    go_ret
    exact ⟨by rw [HB.out]; rfl, rfl⟩

theorem any_take_succ (L : List Int) (k : Nat) (hk : k < L.length) : (L.take (k + 1)).any badV = ((L.take k).any badV || badV (L.getD k 0)) := by
  rw [List.take_succ_eq_append_getElem hk, List.getD_eq_getElem?_getD, List.getElem?_eq_getElem hk]
  simp only [List.any_append, List.any_cons, List.any_nil, Bool.or_false, Option.getD_some]
theorem any_of_take (L : List Int) (k : Nat) (h : (L.take k).any badV = true) : L.any badV = true := by
  rw [List.any_eq_true] at h ⊢
  obtain ⟨x, hx, hb⟩ := h
  exact ⟨x, List.mem_of_mem_take hx, hb⟩

set_option maxRecDepth 100000 in
set_option maxHeartbeats 1000000 in
theorem indexf_any (ao : Option Addr) (cap : Nat) (L : List Int) (w : World) (hc : Cells w ao L) (hm : L.length ≤ 16) :
    Calls Try.prog 71 #[.slice ao L.length cap, .func (.func 62) #[] #[]] w (IdxPost (L.any badV) w) := by
  go_enter Try.func71, Try.ntmps71
  go_wp2_with fail
  go_loopw [8] (fun i wr => ∃ (k : Nat), k ≤ L.length ∧ i = .int .i64 (k : Int) ∧ (L.take k).any badV = false ∧ wr = w) (fun i _ => L.length - (intOf i).toNat)
  case atStart => exact ⟨0, by omega, rfl, by simp, rfl⟩
  case round =>
    obtain ⟨k, hk, rfl, hno, rfl⟩ := hrel
    have HN := Lib.hid hno
    clear hno
    by_cases hlt : k < L.length
    · obtain ⟨g, rfl, _, hg⟩ := hc k hlt
      have c1 := hg k hlt
      have HS := Lib.hid (any_take_succ L k hlt)
      obtain ⟨r, hr⟩ : ∃ r, L.getD k 0 = r := ⟨_, rfl⟩
      rw [hr] at c1
      have HRk := Lib.hid hr
      clear hr hg hc
      go_wp2_with fail
      refine (bad_any r _).mono ?_
      rintro e w1 ⟨rfl, rfl⟩
      obtain ⟨vb, hvb⟩ : ∃ vb, badV r = vb := ⟨_, rfl⟩
      have HV := Lib.hid hvb
      rw [hvb]
      clear hvb
      rcases vb with _ | _
      · go_wp2_with fail
        go_roundw
        case rel => exact ⟨k + 1, by omega, by go_num, by rw [HS.out, HRk.out, HV.out, HN.out]; rfl, trivial⟩
        case measure => simp [intOf]; omega
      · go_wp2_with fail
        go_ret
        refine ⟨_, rfl, ?_, by omega, rfl⟩
        have h1 := HS.out
        rw [HRk.out, HV.out, Bool.or_true] at h1
        rw [any_of_take L _ h1]
        exact decide_eq_true (by omega)
    · obtain rfl : k = L.length := by omega
      go_wp2_with fail
      go_ret
      refine ⟨_, rfl, ?_, by omega, rfl⟩
      have := HN.out
      rw [List.take_length] at this
      rw [this]; rfl

set_option maxRecDepth 100000 in
theorem containsf_any (ao : Option Addr) (cap : Nat) (L : List Int) (w : World) (hc : Cells w ao L) (hm : L.length ≤ 16) :
    Calls Try.prog 61 #[.slice ao L.length cap, .func (.func 62) #[] #[]] w fun e w' => e = .returned (.bool (L.any badV)) ∧ w = w' := by
  go_enter Try.func61, Try.ntmps61
  go_wp2_with fail
  refine (indexf_any ao cap L w hc hm).mono ?_
  rintro e w1 ⟨i, rfl, hi, _, rfl⟩
  have HI := Lib.hid hi
  clear hi
  go_wp2_with fail
  go_ret
  exact ⟨by rw [← HI.out]; simp, rfl⟩

/-- Is a timing valid. -/
def okT (x y z u : Int) : Bool := !([x, y, z, u].any badV)
theorem okT_range {x y z u : Int} (h : okT x y z u = true) : 0 ≤ x ∧ x ≤ 1000 ∧ 0 ≤ y ∧ y ≤ 1000 ∧ 0 ≤ z ∧ z ≤ 1000 ∧ 0 ≤ u ∧ u ≤ 1000 := by
  unfold okT badV at h
  simp at h
  omega
def timCells (x y z u : Int) : Array Value := #[.int .i64 x, .int .i64 y, .int .i64 z, .int .i64 u]
theorem tim_cells {w : World} {g : Nat} {x y z u : Int} (h : Holds w g 49 (timCells x y z u)) :
    w.cell? ⟨g, 0, none⟩ = some (.int .i64 x) ∧ w.cell? ⟨g, 1, none⟩ = some (.int .i64 y) ∧ w.cell? ⟨g, 2, none⟩ = some (.int .i64 z) ∧ w.cell? ⟨g, 3, none⟩ = some (.int .i64 u) :=
  ⟨h.cell 0, h.cell 1, h.cell 2, h.cell 3⟩
theorem cells_four {w : World} {g : Nat} {x y z u : Int} (h : Holds w g 3 (timCells x y z u)) : Cells w (some ⟨g, 0, none⟩) [x, y, z, u] := by
  intro j hj
  refine ⟨g, rfl, h.lt, fun j hj => ?_⟩
  match j, hj with
  | 0, _ => exact h.cell 0
  | 1, _ => exact h.cell 1
  | 2, _ => exact h.cell 2
  | 3, _ => exact h.cell 3

set_option maxRecDepth 100000 in
set_option maxHeartbeats 2000000 in
theorem pvalid_any (x y z u : Int) (w : World) : Calls Try.prog 37 #[.agg #[.int .i64 x, .int .i64 y, .int .i64 z, .int .i64 u]] w fun e w' => e = .returned (.bool (okT x y z u)) ∧ Below w.heap.size w w' := by
  have hB0 := (Below.refl w.heap.size w).alloc (Nat.le_refl _) (.cells (timCells x y z u) 49)
  have hB1 := hB0.alloc hB0.size (.cells (timCells x y z u) 3)
  have hI := holds_new (w.alloc (.cells (timCells x y z u) 49)) 3 (timCells x y z u)
  have hC := cells_four hI
  rw [World.size_alloc] at hC
  go_enter Try.func37, Try.ntmps37
  go_wp2_with fail
  refine (containsf_any _ 4 [x, y, z, u] _ hC (by simp)).mono ?_
  rintro e w1 ⟨rfl, rfl⟩
  go_wp2_with fail
  go_ret
  exact ⟨by show Ending.returned (Value.bool (!badV x && (!badV y && (!badV z && !badV u)))) = _; unfold okT; simp, hB1⟩

set_option maxRecDepth 100000 in
set_option maxHeartbeats 2000000 in
theorem rpvalid_any (x y z u : Int) (w : World) : Calls Try.prog 38 #[.agg #[.int .i64 x, .int .i64 y, .int .i64 z, .int .i64 u]] w fun e w' => e = .returned (.bool (okT x y z u)) ∧ Below w.heap.size w w' := by
  have hB0 := (Below.refl w.heap.size w).alloc (Nat.le_refl _) (.cells (timCells x y z u) 49)
  have hB1 := hB0.alloc hB0.size (.cells (timCells x y z u) 3)
  have hI := holds_new (w.alloc (.cells (timCells x y z u) 49)) 3 (timCells x y z u)
  have hC := cells_four hI
  rw [World.size_alloc] at hC
  have HO : Hid (okT x y z u = !([x, y, z, u].any badV)) := rfl
  go_enter Try.func38, Try.ntmps38
  go_wp2_with fail
  generalize hL : [x, y, z, u] = L at *
  have hn : L.length = 4 := by rw [← hL]; rfl
  have HL := Lib.hid hL
  clear hL
  go_loopw [4] (fun i wr => ∃ (k : Nat), k ≤ L.length ∧ i = .int .i64 (k : Int) ∧ (L.take k).any badV = false ∧ Below w.heap.size w wr ∧ Cells wr (some ⟨w.heap.size + 1, 0, none⟩) L) (fun i _ => 4 - (intOf i).toNat)
  case atStart => exact ⟨0, by omega, rfl, by simp, hB1, hC⟩
  case round =>
    clear hB0 hB1 hI hC
    obtain ⟨k, hk, rfl, hno, hB1, hC⟩ := hrel
    have HN := Lib.hid hno
    clear hno
    by_cases hlt : k < L.length
    · obtain ⟨g, hg0, _, hg⟩ := hC k hlt
      obtain rfl : w.heap.size + 1 = g := by simpa using hg0
      have c1 := hg k hlt
      have HS := Lib.hid (any_take_succ L k hlt)
      obtain ⟨r, hr⟩ : ∃ r, L.getD k 0 = r := ⟨_, rfl⟩
      rw [hr] at c1
      have HRk := Lib.hid hr
      clear hr hg hg0
      have hlt4 : (k : Int) < 4 := by omega
      by_cases q1 : decide (r < 0) = true
      · have hb : badV r = true := by unfold badV; rw [q1]; rfl
        have HV := Lib.hid hb
        clear hb
        go_wp2_with fail
        go_ret
        refine ⟨?_, hB1⟩
        have h1 := HS.out
        rw [HRk.out, HV.out, Bool.or_true] at h1
        rw [HO.out, any_of_take L _ h1]
        rfl
      · replace q1 : decide (r < 0) = false := by simpa using q1
        by_cases q2 : decide (1000 < r) = true
        · have hb : badV r = true := by unfold badV; rw [q2, Bool.or_true]
          have HV := Lib.hid hb
          clear hb
          go_wp2_with fail
          go_ret
          refine ⟨?_, hB1⟩
          have h1 := HS.out
          rw [HRk.out, HV.out, Bool.or_true] at h1
          rw [HO.out, any_of_take L _ h1]
          rfl
        · replace q2 : decide (1000 < r) = false := by simpa using q2
          have hb : badV r = false := by unfold badV; rw [q1, q2]; rfl
          have HV := Lib.hid hb
          clear hb
          go_wp2_with fail
          go_roundw
          case rel => exact ⟨k + 1, by omega, by go_num, by rw [HS.out, HRk.out, HV.out, HN.out]; rfl, hB1, hC⟩
          case measure => simp [intOf]; omega
    · obtain rfl : k = L.length := by omega
      have hlt4 : ¬ ((L.length : Int) < 4) := by omega
      go_wp2_with fail
      go_ret
      refine ⟨?_, hB1⟩
      have := HN.out
      rw [List.take_length] at this
      rw [HO.out, this]; rfl
end Go.Proofs.Ytchmhnodcjidkaa
