/-
  For the row of PipelineDivides: a slice of instructions as it comes in, with its capacity.
-/
import Derived.Test.YtchmhnodcjidkaaR2
namespace Go.Proofs.Ytchmhnodcjidkaa
open Go.ChangeShapes Go.WideShapes Go.ChangeAt Go.RowKit Go.Deep

section
variable {H : Type} {enc : TypeId × Value → H} {w : World} {base b0 : Nat} {spare : Nat → Bool} {held : Bool} {r : Reach}
set_option maxRecDepth 100000 in
theorem ssi_shape2 {v : Value} {d : DataW H} {p : List MemPlace} (hv : Value.okWide Try.prog w r b0 56 v) (h : DataW.Trod enc Try.prog w base spare held 56 v d p) :
    ∃ (ao : Option Addr) (cap : Nat) (L : List InsD), v = .slice ao L.length cap ∧ SlI w ao L ∧ L.length ≤ cap := by
  obtain ⟨a0, len, cap, rfl⟩ := okWide_slice Try.underlying56 hv
  obtain ⟨fuel, hf⟩ := h
  rcases open_slice Try.underlying56 hf with ⟨h0, _⟩ | ⟨a, len', cap', m, n, D, Pl, h0, _, hl, _, hm, _, hi⟩
  · simp [Value.cells] at h0
    obtain ⟨rfl, rfl, rfl⟩ := h0
    exact ⟨none, 0, [], rfl, fun k hk => absurd hk (by simp), by simp⟩
  · simp [Value.cells] at h0
    obtain ⟨rfl, rfl, rfl⟩ := h0
    have hlm : len ≤ m := by rw [hm]; split <;> omega
    have key : ∀ i, i < len → ∃ I : InsD, a.spot = none ∧ a.block < w.heap.size ∧ I.ok ∧ InsAt w a.block (a.off + i * 5) I := by
      intro i hlt
      obtain ⟨cs', hc, ht⟩ := hi i (by omega)
      rw [cells23] at hc
      obtain ⟨s1, s2, I, s3, s4⟩ := elem_shape hc ht
      have sp : a.spot = none := by
        obtain ⟨cs2, hc2, ht2⟩ := hi 0 (by omega)
        rw [cells23, Nat.zero_mul, Addr.add_zero'] at hc2
        exact (elem_shape hc2 ht2).1
      obtain ⟨g, o, sp'⟩ := a
      simp only at sp
      subst sp
      rw [Addr.add_lit] at s2 s4
      exact ⟨I, rfl, s2, s3, s4⟩
    refine ⟨some a, cap, (List.range len).map fun i => if h : i < len then Classical.choose (key i h) else default, by simp, ?_, by simpa using hl⟩
    intro k hk
    have hk' : k < len := by simpa using hk
    obtain ⟨g, o, sp'⟩ := a
    have hs := (Classical.choose_spec (key k hk')).1
    simp only at hs
    subst hs
    refine ⟨g, o, rfl, (Classical.choose_spec (key k hk')).2.1, fun j hj => ?_⟩
    have hj' : j < len := by simpa using hj
    rw [slice_list, dif_pos hj']
    exact (Classical.choose_spec (key j hj')).2.2
end
end Go.Proofs.Ytchmhnodcjidkaa
