/-
  The walks of slices.Index and slices.Contains over bytes, and of isa.has.
-/
import Derived.Test.YtchmhnodcjidkaaW2
import Derived.Lib.ConvBytes
import Derived.Lib.Hide
namespace Go.Proofs.Ytchmhnodcjidkaa
open Go.RowKit Go.Maps

theorem below_bytes (w : World) (e : TypeId) (s : ByteArray) : Below w.heap.size w (Lib.bytesWorld w e s) :=
  ⟨rfl, rfl, rfl, by rw [Lib.bytesWorld_size]; omega, fun k hk => Lib.bytesWorld_at_old w e s k hk⟩

/-- The bytes of a string as numbers. -/
def nums (s : ByteArray) : List Int := s.data.toList.map fun u => (u.toNat : Int)
def inL (xs : List Int) (c : Int) : Bool := xs.contains c
def hasB (s : ByteArray) (c : Int) : Bool := inL (nums s) c
theorem nums_getD (s : ByteArray) (j : Nat) (hj : j < s.size) : (nums s).getD j 0 = ((s.data.toList.getD j 0).toNat : Int) := by
  have h : j < s.data.toList.length := by simpa using hj
  simp only [nums, List.getD_eq_getElem?_getD, List.getElem?_map, List.getElem?_eq_getElem h]
  rfl
def IdxOf (xs : List Int) (c : Int) (w : World) (e : Ending) (w' : World) : Prop := ∃ r : Int, e = .returned (.int .i64 r) ∧ (0 ≤ r ↔ c ∈ xs) ∧ w = w'

set_option maxHeartbeats 400000 in
theorem index_bytes (b n cap : Nat) (xs : List Int) (c : Int) (w : World) (hn : n = xs.length) (hm : n ≤ 9223372036854775807)
    (hc : ∀ j, j < n → w.cell? ⟨b, j, none⟩ = some (.int .u8 (xs.getD j 0))) :
    Calls Try.prog 73 #[.slice (some ⟨b, 0, none⟩) n cap, .int .u8 c] w (IdxOf xs c w) := by
  have HN := Lib.hid hn
  clear hn
  have HC := Lib.hid hc
  clear hc
  go_enter Try.func73, Try.ntmps73
  go_wp2_with fail
  go_loop [8] (fun i => ∃ k : Nat, k ≤ n ∧ i = .int .i64 k ∧ ∀ j, j < k → xs.getD j 0 ≠ c) (fun i => n - (intOf i).toNat)
  case atStart => exact ⟨0, Nat.zero_le _, rfl, fun j hj => by omega⟩
  case round =>
    obtain ⟨k, hk, rfl, hno⟩ := hrel
    have HNo := Lib.hid hno
    clear hno
    by_cases hlt : k < n
    · have hcell := HC.out k hlt
      obtain ⟨x, hx⟩ : ∃ x, x = xs.getD k 0 := ⟨_, rfl⟩
      rw [← hx] at hcell
      have HX := Lib.hid hx
      clear hx
      by_cases he : c = x
      · subst he
        go_wp2
        go_ret
        refine ⟨(k : Int), rfl, ⟨fun _ => ?_, fun _ => by omega⟩, rfl⟩
        rw [HX.out, List.getD_eq_getElem?_getD, List.getElem?_eq_getElem (by rw [← HN.out]; exact hlt)]
        exact List.getElem_mem _
      · have hb : (c == x) = false := beq_eq_false_iff_ne.2 he
        go_wp2
        go_round
        case rel =>
          refine ⟨k + 1, by omega, by go_num, fun j hj => ?_⟩
          rcases Nat.lt_or_ge j k with h | h
          · exact HNo.out j h
          · obtain rfl : j = k := by omega
            rw [← HX.out]; exact fun h => he h.symm
        case measure => simp [intOf]; omega
    · go_wp2
      go_ret
      refine ⟨-1, rfl, ⟨fun h => absurd h (by decide), fun h => ?_⟩, rfl⟩
      obtain ⟨j, hj, hjx⟩ := List.getElem_of_mem h
      exact absurd (by rw [List.getD_eq_getElem?_getD, List.getElem?_eq_getElem hj]; exact hjx) (HNo.out j (by have := HN.out; omega))

set_option maxHeartbeats 400000 in
theorem contains_bytes (b n cap : Nat) (xs : List Int) (c : Int) (w : World) (hn : n = xs.length) (hm : n ≤ 9223372036854775807)
    (hc : ∀ j, j < n → w.cell? ⟨b, j, none⟩ = some (.int .u8 (xs.getD j 0))) :
    Calls Try.prog 68 #[.slice (some ⟨b, 0, none⟩) n cap, .int .u8 c] w fun e w' => e = .returned (.bool (inL xs c)) ∧ w = w' := by
  have hI := Lib.hid (index_bytes b n cap xs c w hn hm hc)
  clear hc hn
  go_enter Try.func68, Try.ntmps68
  go_wp2_with fail
  refine hI.out.mono ?_
  rintro e w1 ⟨r, rfl, hr, rfl⟩
  have HR := Lib.hid hr
  clear hr
  go_wp2_with fail
  go_ret
  refine ⟨?_, rfl⟩
  have h2 : inL xs c = decide (0 ≤ r) := by
    unfold inL
    rw [Bool.eq_iff_iff]; simp [HR.out]
  rw [h2]
  simp

set_option maxHeartbeats 400000 in
theorem has_any (s : ByteArray) (c : Int) (w : World) (hs : s.size ≤ 9223372036854775807) :
    Calls Try.prog 56 #[.string s, .int .u8 c] w fun e w' => e = .returned (.bool (hasB s c)) ∧ Below w.heap.size w w' := by
  have hcv := fun w s => Lib.run_convert_string_bytes (P := Try.prog) w 9 75 5 s Try.underlying9 Try.underlying75 Try.underlying5
  have hB := Lib.hid (below_bytes w 5 s)
  go_enter Try.func56, Try.ntmps56
  go_wp2_with fail
  refine (contains_bytes _ _ _ (nums s) _ _ (by simp [nums]) (by omega) (fun j hj => ?_)).mono ?_
  · rw [Lib.bytesWorld_cell _ _ _ _ hj, nums_getD s j hj]
  rintro e w1 ⟨rfl, rfl⟩
  go_wp2_with fail
  go_ret
  exact ⟨rfl, hB.out⟩
end Go.Proofs.Ytchmhnodcjidkaa
