/-
  The walk of the law IsaDecodes.
-/
import Derived.Test.YtchmhnodcjidkaaA1
import Derived.Test.YtchmhnodcjidkaaL2
namespace Go.Proofs.Ytchmhnodcjidkaa
open Go.RowKit Go.Maps

/-- A struct's box, known behind later calls. -/
theorem box_after {w w' : World} {op a b c m : Int} (hb : Below (w.alloc (.cells (insCells op a b c m) 23)).heap.size (w.alloc (.cells (insCells op a b c m) 23)) w') :
    Holds w' w.heap.size 23 (insCells op a b c m) ∧ w.heap.size < w'.heap.size ∧ Below w.heap.size w w' :=
  ⟨(holds_new w 23 _).after hb, by have := hb.size; simp at this; omega, ((Below.refl _ _).alloc (Nat.le_refl _) _).trans (hb.mono (by simp))⟩

set_option maxRecDepth 100000 in
set_option maxHeartbeats 2000000 in
theorem walk_IsaDecodes (x : Int) (w : World) (h0 : 0 ≤ x) (h1 : x ≤ 4294967295) :
    Calls Try.prog 4 #[.int .u32 x] w fun e w' => e = .returned (.bool true) ∧ Below w.heap.size w w' := by
  go_enter Try.func4, Try.ntmps4
  go_wp2_with fail
  refine (awake4 _).mono ?_
  rintro e w1 ⟨rfl, hB1⟩
  go_wp2_with fail
  refine (decode_spec x _ h0 h1).mono ?_
  rintro e w2 ⟨⟨a, b, c, m, rfl, hv, he⟩ | ⟨rfl, hno⟩, hb⟩
  · have hB2 := on hB1 hb
    clear hB1 hb
    go_wp2_with fail
    refine (rdecode_any x _ h0 h1).mono ?_
    rintro e w3 ⟨⟨a', b', c', m', rfl, hv', he'⟩ | ⟨rfl, hno⟩, hb⟩
    · obtain ⟨rfl, rfl, rfl, rfl⟩ := renc_unique h0 h1 hv.out he.out hv' he'
      clear hv' he' hv he
      obtain ⟨hI, hsz, hb3⟩ := box_after hb
      have hB3 := on hB2 hb3
      obtain ⟨i0, i1, i2, i3, i4⟩ := ins_cells hI
      clear hb hI hb3
      go_wp2_with fail
      go_ret
      exact ⟨rfl, hB3.alloc hB3.size _⟩
    · exact absurd he.out (hno _ _ _ _ hv.out)
  · have hB2 := on hB1 hb
    clear hB1 hb
    go_wp2_with fail
    refine (rdecode_any x _ h0 h1).mono ?_
    rintro e w3 ⟨⟨a', b', c', m', rfl, hv', he'⟩ | ⟨rfl, hno'⟩, hb⟩
    · exact absurd he' (hno.out _ _ _ _ hv')
    · clear hno hno'
      have hb2 : Below (w2.alloc (.cells (insCells 0 0 0 0 0) 23)).heap.size (w2.alloc (.cells (insCells 0 0 0 0 0) 23)) w3 := hb
      obtain ⟨hI, hsz, hb3⟩ := box_after hb2
      have hB3 := on hB2 hb3
      obtain ⟨i0, i1, i2, i3, i4⟩ := ins_cells hI
      clear hb hI hb3 hb2
      go_wp2_with fail
      go_ret
      exact ⟨rfl, hB3.alloc hB3.size _⟩
end Go.Proofs.Ytchmhnodcjidkaa
