/-
  The walks of the library's sort, compact and delete over slices of at most two numbers.
-/
import Derived.Test.YtchmhnodcjidkaaK
import Derived.Test.YtchmhnodcjidkaaRows
import Derived.WalkSpells
import Derived.WalkLawsBesides
import Derived.BigQuiet
import Derived.Deep.QuietTactic
import Derived.RegionTactic
import Derived.BigRegion
namespace Go.Proofs.Ytchmhnodcjidkaa
open Go.RowKit

set_option maxHeartbeats 400000 in
theorem isnan_any (x : Int) (w : World) : Calls Try.prog 90 #[.int .i64 x] w fun e w' => e = .returned (.bool false) ∧ w = w' := by
  have h : (x != x) = false := by simp
  go_enter Try.func90, Try.ntmps90
  go_wp2
  go_ret
  exact ⟨by simp, rfl⟩

set_option maxHeartbeats 400000 in
theorem less_any (x y : Int) (w : World) : Calls Try.prog 80 #[.int .i64 x, .int .i64 y] w fun e w' => e = .returned (.bool (decide (x < y))) ∧ w' = w := by
  go_enter Try.func80, Try.ntmps80
  go_wp2_with fail
  refine (isnan_any x _).mono ?_
  rintro e w1 ⟨rfl, rfl⟩
  go_wp2_with fail
  go_ret
  exact ⟨by simp, rfl⟩

/-- What the sort leaves: block g holds cs', all else is as it was. -/
def Sorted2 (w : World) (g : Nat) (cs' : Array Value) (e : Ending) (w' : World) : Prop := e = .returned (.tuple #[]) ∧ Holds w' g 3 cs' ∧ w.grownBy w' (some g)

theorem grown_refl (w : World) (row : Option Nat) : w.grownBy w row := ⟨rfl, rfl, rfl, Nat.le_refl _, fun _ _ _ => rfl⟩
theorem grown_drewN {a w : World} {row : Option Nat} (h : a.grownBy w row) (n : Nat) : a.grownBy (w.drewN n) row := ⟨h.os, h.tape, h.output, h.size, h.block⟩
theorem grown_drew {a w : World} {row : Option Nat} (h : a.grownBy w row) : a.grownBy w.drew row := ⟨h.os, h.tape, h.output, h.size, h.block⟩
theorem grown_put {a w : World} {g : Nat} (h : a.grownBy w (some g)) (i : Nat) (u : Value) : a.grownBy (w.setCell ⟨g, i, none⟩ u) (some g) :=
  ⟨h.os, h.tape, h.output, by simpa [World.setCell] using h.size, fun k hk hne => (Below.heap_setCell w ⟨g, i, none⟩ u k (by
    rintro rfl
    exact hne rfl)).trans (h.block k hk hne)⟩

set_option maxRecDepth 100000 in
set_option maxHeartbeats 1000000 in
theorem isort_small (A : Option Addr) (n cap : Nat) (w : World) (hn : n ≤ 1) :
    Calls Try.prog 74 #[.slice A n cap, .int .i64 0, .int .i64 n] w fun e w' => e = .returned (.tuple #[]) ∧ w = w' := by
  go_enter Try.func74, Try.ntmps74
  go_wp2_with fail
  refine wp_loop_rounds 1 ?_
  rw [rounds_succ]
  go_wp2_with fail
  go_end0
  exact ⟨rfl, rfl⟩

set_option maxRecDepth 100000 in
set_option maxHeartbeats 1000000 in
theorem isort_two (g cap : Nat) (cs : Array Value) (x y : Int) (w : World) (hI : Holds w g 3 cs) (h0 : cs[0]? = some (.int .i64 x)) (h1 : cs[1]? = some (.int .i64 y)) (hxy : y < x) :
    Calls Try.prog 74 #[.slice (some ⟨g, 0, none⟩) 2 cap, .int .i64 0, .int .i64 2] w (Sorted2 w g ((cs.setIfInBounds 1 (.int .i64 x)).setIfInBounds 0 (.int .i64 y))) := by
  have c0 : w.cell? ⟨g, 0, none⟩ = some (.int .i64 x) := (hI.cell 0).trans h0
  have c1 : w.cell? ⟨g, 1, none⟩ = some (.int .i64 y) := (hI.cell 1).trans h1
  have f0 := hI.free 0
  have f1 := hI.free 1
  go_enter Try.func74, Try.ntmps74
  go_wp2_with fail
  refine wp_loop_rounds 2 ?_
  rw [rounds_succ]
  go_wp2_with fail
  refine wp_loop_rounds 2 ?_
  rw [rounds_succ]
  go_wp2_with fail
  go_quiet ((go_at_call 80; exact Calls.quiet_of_same (less_any _ _ _)))
  go_wp2_with fail
  go_region
  go_wp2_with fail
  rw [rounds_succ]
  go_wp2_with fail
  go_quiet (fail)
  go_wp2_with fail
  rw [rounds_succ]
  go_wp2_with fail
  go_end0
  exact ⟨rfl, ((hI.drewN _).put 1 _).put 0 _, grown_drewN (grown_put (grown_put (grown_drewN (grown_refl _ _) _) _ _) _ _) _⟩

set_option maxRecDepth 100000 in
set_option maxHeartbeats 1000000 in
theorem isort_keep (g cap : Nat) (cs : Array Value) (x y : Int) (w : World) (hI : Holds w g 3 cs) (h0 : cs[0]? = some (.int .i64 x)) (h1 : cs[1]? = some (.int .i64 y)) (hxy : ¬ y < x) :
    Calls Try.prog 74 #[.slice (some ⟨g, 0, none⟩) 2 cap, .int .i64 0, .int .i64 2] w (Sorted2 w g cs) := by
  have c0 : w.cell? ⟨g, 0, none⟩ = some (.int .i64 x) := (hI.cell 0).trans h0
  have c1 : w.cell? ⟨g, 1, none⟩ = some (.int .i64 y) := (hI.cell 1).trans h1
  go_enter Try.func74, Try.ntmps74
  go_wp2_with fail
  refine wp_loop_rounds 2 ?_
  rw [rounds_succ]
  go_wp2_with fail
  refine wp_loop_rounds 2 ?_
  rw [rounds_succ]
  go_wp2_with fail
  go_quiet ((go_at_call 80; exact Calls.quiet_of_same (less_any _ _ _)))
  go_wp2_with fail
  rw [rounds_succ]
  go_wp2_with fail
  go_end0
  exact ⟨rfl, hI.drewN _, grown_drewN (grown_refl _ _) _⟩

/-! ### math/bits.Len at 0, 1, 2 -/
set_option maxRecDepth 100000 in
set_option maxHeartbeats 1000000 in
theorem len_0 (w : World) : Calls Try.prog 70 #[.int .u64 0] w fun e w' => (∃ r : Int, e = .returned (.int .i64 r)) ∧ w = w' := by
  go_enter Try.func70, Try.ntmps70
  go_wp2
  go_ret
  exact ⟨⟨_, rfl⟩, rfl⟩
set_option maxRecDepth 100000 in
set_option maxHeartbeats 1000000 in
theorem len_1 (w : World) : Calls Try.prog 70 #[.int .u64 1] w fun e w' => (∃ r : Int, e = .returned (.int .i64 r)) ∧ w = w' := by
  go_enter Try.func70, Try.ntmps70
  go_wp2
  go_ret
  exact ⟨⟨_, rfl⟩, rfl⟩
set_option maxRecDepth 100000 in
set_option maxHeartbeats 1000000 in
theorem len_2 (w : World) : Calls Try.prog 70 #[.int .u64 2] w fun e w' => (∃ r : Int, e = .returned (.int .i64 r)) ∧ w = w' := by
  go_enter Try.func70, Try.ntmps70
  go_wp2
  go_ret
  exact ⟨⟨_, rfl⟩, rfl⟩

/-! ### the sort -/
set_option maxRecDepth 100000 in
set_option maxHeartbeats 1000000 in
theorem pdq_small (A : Option Addr) (n cap : Nat) (l : Int) (w : World) (hn : n ≤ 1) :
    Calls Try.prog 69 #[.slice A n cap, .int .i64 0, .int .i64 n, .int .i64 l] w fun e w' => e = .returned (.tuple #[]) ∧ w = w' := by
  go_enter Try.func69, Try.ntmps69
  go_wp2_with fail
  refine wp_loop_rounds 1 ?_
  rw [rounds_succ]
  go_wp2_with fail
  refine (isort_small A n cap _ hn).mono ?_
  rintro e w1 ⟨rfl, rfl⟩
  go_wp2_with fail
  refine bodyPost_ret (results_none rfl _ _ _) rfl ?_
  exact ⟨rfl, rfl⟩
set_option maxRecDepth 100000 in
set_option maxHeartbeats 1000000 in
theorem pdq_two (g cap : Nat) (l : Int) (cs' : Array Value) (w : World)
    (h : Calls Try.prog 74 #[.slice (some ⟨g, 0, none⟩) 2 cap, .int .i64 0, .int .i64 2] w (Sorted2 w g cs')) :
    Calls Try.prog 69 #[.slice (some ⟨g, 0, none⟩) 2 cap, .int .i64 0, .int .i64 2, .int .i64 l] w (Sorted2 w g cs') := by
  have H := Lib.hid h
  clear h
  go_enter Try.func69, Try.ntmps69
  go_wp2_with fail
  refine wp_loop_rounds 1 ?_
  rw [rounds_succ]
  go_wp2_with fail
  refine H.out.mono ?_
  rintro e w1 ⟨rfl, hH, hg⟩
  go_wp2_with fail
  refine bodyPost_ret (results_none rfl _ _ _) rfl ?_
  exact ⟨rfl, hH, hg⟩

set_option maxRecDepth 100000 in
set_option maxHeartbeats 1000000 in
theorem sort_0 (A : Option Addr) (cap : Nat) (w : World) :
    Calls Try.prog 57 #[.slice A 0 cap] w fun e w' => e = .returned (.tuple #[]) ∧ w = w' := by
  go_enter Try.func57, Try.ntmps57
  go_wp2_with fail
  refine (len_0 _).mono ?_
  rintro e w1 ⟨⟨r, rfl⟩, rfl⟩
  go_wp2_with fail
  refine (pdq_small A 0 cap r _ (by omega)).mono ?_
  rintro e w1 ⟨rfl, rfl⟩
  go_wp2_with fail
  go_end0
  exact ⟨rfl, rfl⟩
set_option maxRecDepth 100000 in
set_option maxHeartbeats 1000000 in
theorem sort_1 (A : Option Addr) (cap : Nat) (w : World) :
    Calls Try.prog 57 #[.slice A 1 cap] w fun e w' => e = .returned (.tuple #[]) ∧ w = w' := by
  go_enter Try.func57, Try.ntmps57
  go_wp2_with fail
  refine (len_1 _).mono ?_
  rintro e w1 ⟨⟨r, rfl⟩, rfl⟩
  go_wp2_with fail
  refine (pdq_small A 1 cap r _ (by omega)).mono ?_
  rintro e w1 ⟨rfl, rfl⟩
  go_wp2_with fail
  go_end0
  exact ⟨rfl, rfl⟩
set_option maxRecDepth 100000 in
set_option maxHeartbeats 1000000 in
theorem sort_2 (g cap : Nat) (cs' : Array Value) (w : World)
    (h : ∀ l : Int, Calls Try.prog 69 #[.slice (some ⟨g, 0, none⟩) 2 cap, .int .i64 0, .int .i64 2, .int .i64 l] w (Sorted2 w g cs')) :
    Calls Try.prog 57 #[.slice (some ⟨g, 0, none⟩) 2 cap] w (Sorted2 w g cs') := by
  have H := Lib.hid h
  clear h
  go_enter Try.func57, Try.ntmps57
  go_wp2_with fail
  refine (len_2 _).mono ?_
  rintro e w1 ⟨⟨r, rfl⟩, rfl⟩
  go_wp2_with fail
  refine (H.out r).mono ?_
  rintro e w1 ⟨rfl, hH, hg⟩
  go_wp2_with fail
  go_end0
  exact ⟨rfl, hH, hg⟩

/-- The sort of two numbers: block g holds them in order. -/
theorem sort_two (g cap : Nat) (cs : Array Value) (x y : Int) (w : World) (hI : Holds w g 3 cs) (h0 : cs[0]? = some (.int .i64 x)) (h1 : cs[1]? = some (.int .i64 y)) :
    Calls Try.prog 57 #[.slice (some ⟨g, 0, none⟩) 2 cap] w fun e w' => e = .returned (.tuple #[]) ∧ (∃ cs' : Array Value, Holds w' g 3 cs' ∧ cs'.size = cs.size ∧ cs'[0]? = some (.int .i64 (if y < x then y else x)) ∧ cs'[1]? = some (.int .i64 (if y < x then x else y))) ∧ w.grownBy w' (some g) := by
  have z0 : 0 < cs.size := (Array.getElem?_eq_some_iff.1 h0).1
  have z1 : 1 < cs.size := (Array.getElem?_eq_some_iff.1 h1).1
  by_cases h : y < x
  · refine (sort_2 g cap _ w fun l => pdq_two g cap l _ w (isort_two g cap cs x y w hI h0 h1 h)).mono ?_
    rintro e w' ⟨rfl, hH, hg⟩
    exact ⟨rfl, ⟨_, hH, by simp, by rw [if_pos h]; simp [z0], by rw [if_pos h]; simp [z1]⟩, hg⟩
  · refine (sort_2 g cap _ w fun l => pdq_two g cap l _ w (isort_keep g cap cs x y w hI h0 h1 h)).mono ?_
    rintro e w' ⟨rfl, hH, hg⟩
    exact ⟨rfl, ⟨cs, hH, rfl, by rw [if_neg h]; exact h0, by rw [if_neg h]; exact h1⟩, hg⟩
end Go.Proofs.Ytchmhnodcjidkaa
