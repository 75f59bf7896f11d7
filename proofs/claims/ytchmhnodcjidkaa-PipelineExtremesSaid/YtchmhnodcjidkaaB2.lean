/-
  The walks of slices.Compact and slices.DeleteFunc over slices of at most two numbers.
-/
import Derived.Test.YtchmhnodcjidkaaB1
import Derived.Lib.SliceRun
namespace Go.Proofs.Ytchmhnodcjidkaa
open Go.RowKit

set_option maxRecDepth 100000 in
set_option maxHeartbeats 1000000 in
theorem compact_small (A : Option Addr) (n cap : Nat) (w : World) (hn : n ≤ 1) :
    Calls Try.prog 58 #[.slice A n cap] w fun e w' => e = .returned (.slice A n cap) ∧ w = w' := by
  go_enter Try.func58, Try.ntmps58
  go_wp2_with fail
  go_ret
  exact ⟨rfl, rfl⟩

set_option maxRecDepth 100000 in
set_option maxHeartbeats 1000000 in
theorem compact_ne (g cap : Nat) (x y : Int) (w : World) (c0 : w.cell? ⟨g, 0, none⟩ = some (.int .i64 x)) (c1 : w.cell? ⟨g, 1, none⟩ = some (.int .i64 y)) (hne : (y == x) = false) :
    Calls Try.prog 58 #[.slice (some ⟨g, 0, none⟩) 2 cap] w fun e w' => e = .returned (.slice (some ⟨g, 0, none⟩) 2 cap) ∧ ∃ n, w' = w.drewN n := by
  go_enter Try.func58, Try.ntmps58
  go_wp2_with fail
  refine wp_loop_rounds 2 ?_
  rw [rounds_succ]
  go_wp2_with fail
  go_quiet (fail)
  go_wp2_with fail
  rw [rounds_succ]
  go_wp2_with fail
  go_ret
  exact ⟨rfl, _, rfl⟩

theorem zeroInt (w : World) : (zeroValue 3).run Try.prog w = .ok (.int .i64 0) w := by kernel_rfl
/-- clear of the cells behind k in a block of a draw's world. -/
theorem clear_at (w : World) (g o c : Nat) (hc : (w.cell? ⟨g, o, none⟩).isSome = true) (hf : w.frozen? ⟨g, o, none⟩ = false) (ty : TypeId) :
    (Builtin.clear_ #[44] ty #[.slice (some ⟨g, o, none⟩) 1 c]).run Try.prog w = .ok (.tuple #[]) (w.setCell ⟨g, o, none⟩ (.int .i64 0)) := by
  refine Lib.run_clear_slice w 44 3 ty (.int .i64 0) Try.underlying44 zeroInt rfl rfl g o 1 c (by omega) ?_ ?_
  · intro j hj
    obtain rfl : j = 0 := by omega
    exact hc
  · intro j hj
    obtain rfl : j = 0 := by omega
    exact hf

set_option maxRecDepth 100000 in
set_option maxHeartbeats 1000000 in
theorem compact_eq (g cap : Nat) (x : Int) (w : World) (hcap : 2 ≤ cap) (c0 : w.cell? ⟨g, 0, none⟩ = some (.int .i64 x)) (c1 : w.cell? ⟨g, 1, none⟩ = some (.int .i64 x)) (f1 : w.frozen? ⟨g, 1, none⟩ = false) :
    Calls Try.prog 58 #[.slice (some ⟨g, 0, none⟩) 2 cap] w fun e w' => e = .returned (.slice (some ⟨g, 0, none⟩) 1 cap) ∧ ∃ n, w' = (w.drewN n).setCell ⟨g, 1, none⟩ (.int .i64 0) := by
  have hc : ¬ cap = 1 := by omega
  have hcl := fun (k : Nat) (ty : TypeId) => clear_at (w.drewN k) g 1 (cap - 1) (by rw [show (w.drewN k).cell? ⟨g, 1, none⟩ = w.cell? ⟨g, 1, none⟩ from rfl, c1]; rfl) f1 ty
  go_enter Try.func58, Try.ntmps58
  go_wp2_with fail
  refine wp_loop_rounds 2 ?_
  rw [rounds_succ]
  go_wp2_with fail
  go_quiet (fail)
  go_wp2_with fail
  refine wp_loop_rounds 1 ?_
  rw [rounds_succ]
  go_wp2_with fail
  go_ret
  exact ⟨rfl, _, rfl⟩

/-! ### the test of a register, IndexFunc, DeleteFunc -/
set_option maxHeartbeats 400000 in
theorem iszero_any (x : Int) (w : World) : Calls Try.prog 60 #[.int .i64 x] w fun e w' => e = .returned (.bool (x == 0)) ∧ w = w' := by
  go_enter Try.func60, Try.ntmps60
  go_wp2
  go_ret
  exact ⟨rfl, rfl⟩

set_option maxRecDepth 100000 in
set_option maxHeartbeats 1000000 in
theorem idx_nil (A : Option Addr) (cap : Nat) (f : Value) (w : World) :
    Calls Try.prog 71 #[.slice A 0 cap, f] w fun e w' => e = .returned (.int .i64 (-1)) ∧ w = w' := by
  go_enter Try.func71, Try.ntmps71
  go_wp2_with fail
  refine wp_loop_rounds 1 ?_
  rw [rounds_succ]
  go_wp2_with fail
  go_ret
  exact ⟨rfl, rfl⟩

set_option maxRecDepth 100000 in
set_option maxHeartbeats 1000000 in
theorem idx_hit (g n cap : Nat) (x : Int) (w : World) (hn : 0 < n) (c0 : w.cell? ⟨g, 0, none⟩ = some (.int .i64 x)) (hx : (x == 0) = true) :
    Calls Try.prog 71 #[.slice (some ⟨g, 0, none⟩) n cap, .func (.func 60) #[] #[]] w fun e w' => e = .returned (.int .i64 0) ∧ w = w' := by
  go_enter Try.func71, Try.ntmps71
  go_wp2_with fail
  refine wp_loop_rounds 1 ?_
  rw [rounds_succ]
  go_wp2_with fail
  refine (iszero_any x _).mono ?_
  rintro e w1 ⟨rfl, rfl⟩
  go_wp2_with fail
  go_ret
  exact ⟨rfl, rfl⟩

set_option maxRecDepth 100000 in
set_option maxHeartbeats 1000000 in
theorem idx_one (g cap : Nat) (x : Int) (w : World) (c0 : w.cell? ⟨g, 0, none⟩ = some (.int .i64 x)) (hx : (x == 0) = false) :
    Calls Try.prog 71 #[.slice (some ⟨g, 0, none⟩) 1 cap, .func (.func 60) #[] #[]] w fun e w' => e = .returned (.int .i64 (-1)) ∧ w = w' := by
  go_enter Try.func71, Try.ntmps71
  go_wp2_with fail
  refine wp_loop_rounds 2 ?_
  rw [rounds_succ]
  go_wp2_with fail
  refine (iszero_any x _).mono ?_
  rintro e w1 ⟨rfl, rfl⟩
  go_wp2_with fail
  rw [rounds_succ]
  go_wp2_with fail
  go_ret
  exact ⟨rfl, rfl⟩

set_option maxRecDepth 100000 in
set_option maxHeartbeats 1000000 in
theorem idx_two (g cap : Nat) (x y : Int) (w : World) (c0 : w.cell? ⟨g, 0, none⟩ = some (.int .i64 x)) (c1 : w.cell? ⟨g, 1, none⟩ = some (.int .i64 y)) (hx : (x == 0) = false) (hy : (y == 0) = false) :
    Calls Try.prog 71 #[.slice (some ⟨g, 0, none⟩) 2 cap, .func (.func 60) #[] #[]] w fun e w' => e = .returned (.int .i64 (-1)) ∧ w = w' := by
  go_enter Try.func71, Try.ntmps71
  go_wp2_with fail
  refine wp_loop_rounds 3 ?_
  rw [rounds_succ]
  go_wp2_with fail
  refine (iszero_any x _).mono ?_
  rintro e w1 ⟨rfl, rfl⟩
  go_wp2_with fail
  rw [rounds_succ]
  go_wp2_with fail
  refine (iszero_any y _).mono ?_
  rintro e w1 ⟨rfl, rfl⟩
  go_wp2_with fail
  rw [rounds_succ]
  go_wp2_with fail
  go_ret
  exact ⟨rfl, rfl⟩

set_option maxRecDepth 100000 in
set_option maxHeartbeats 1000000 in
theorem del_miss (A : Option Addr) (n cap : Nat) (f : Value) (w : World) (h : Calls Try.prog 71 #[.slice A n cap, f] w fun e w' => e = .returned (.int .i64 (-1)) ∧ w = w') :
    Calls Try.prog 59 #[.slice A n cap, f] w fun e w' => e = .returned (.slice A n cap) ∧ w = w' := by
  have H := Lib.hid h
  clear h
  go_enter Try.func59, Try.ntmps59
  go_wp2_with fail
  refine H.out.mono ?_
  rintro e w1 ⟨rfl, rfl⟩
  go_wp2_with fail
  go_ret
  exact ⟨rfl, rfl⟩

set_option maxRecDepth 100000 in
set_option maxHeartbeats 1000000 in
theorem del_one (g cap : Nat) (x : Int) (w : World) (hcap : 1 ≤ cap) (c0 : w.cell? ⟨g, 0, none⟩ = some (.int .i64 x)) (f0 : w.frozen? ⟨g, 0, none⟩ = false) (hx : (x == 0) = true) :
    Calls Try.prog 59 #[.slice (some ⟨g, 0, none⟩) 1 cap, .func (.func 60) #[] #[]] w fun e w' => e = .returned (.slice (some ⟨g, 0, none⟩) 0 cap) ∧ w' = w.setCell ⟨g, 0, none⟩ (.int .i64 0) := by
  have hI := Lib.hid (idx_hit g 1 cap x w (by omega) c0 hx)
  have hc : ¬ cap = 0 := by omega
  have hcl := fun (ty : TypeId) => clear_at w g 0 cap (by rw [c0]; rfl) f0 ty
  go_enter Try.func59, Try.ntmps59
  go_wp2_with fail
  refine hI.out.mono ?_
  rintro e w1 ⟨rfl, rfl⟩
  go_wp2_with fail
  refine wp_loop_rounds 1 ?_
  rw [rounds_succ]
  go_wp2_with fail
  go_ret
  exact ⟨rfl, rfl⟩

set_option maxRecDepth 100000 in
set_option maxHeartbeats 1000000 in
theorem del_two (g cap : Nat) (x y : Int) (w : World) (hcap : 2 ≤ cap) (c0 : w.cell? ⟨g, 0, none⟩ = some (.int .i64 x)) (c1 : w.cell? ⟨g, 1, none⟩ = some (.int .i64 y)) (f0 : w.frozen? ⟨g, 0, none⟩ = false) (f1 : w.frozen? ⟨g, 1, none⟩ = false) (hx : (x == 0) = true) (hy : (y == 0) = false) :
    Calls Try.prog 59 #[.slice (some ⟨g, 0, none⟩) 2 cap, .func (.func 60) #[] #[]] w fun e w' => e = .returned (.slice (some ⟨g, 0, none⟩) 1 cap) ∧ w' = (w.setCell ⟨g, 0, none⟩ (.int .i64 y)).setCell ⟨g, 1, none⟩ (.int .i64 0) := by
  have hI := Lib.hid (idx_hit g 2 cap x w (by omega) c0 hx)
  have hc : ¬ cap = 1 := by omega
  have hcl := fun (ty : TypeId) => clear_at (w.setCell ⟨g, 0, none⟩ (.int .i64 y)) g 1 (cap - 1) (by rw [World.cell?_setCell_other _ _ _ _ (by simp), c1]; rfl) (by rw [World.frozen?_setCell]; exact f1) ty
  go_enter Try.func59, Try.ntmps59
  go_wp2_with fail
  refine hI.out.mono ?_
  rintro e w1 ⟨rfl, rfl⟩
  go_wp2_with fail
  refine wp_loop_rounds 2 ?_
  rw [rounds_succ]
  go_wp2_with fail
  refine (iszero_any y _).mono ?_
  rintro e w1 ⟨rfl, rfl⟩
  go_wp2_with fail
  rw [rounds_succ]
  go_wp2_with fail
  go_ret
  exact ⟨rfl, rfl⟩
end Go.Proofs.Ytchmhnodcjidkaa
