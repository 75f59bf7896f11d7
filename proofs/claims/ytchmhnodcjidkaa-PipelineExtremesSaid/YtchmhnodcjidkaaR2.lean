/-
  For the rows of layer 8: a timing, and a slice of instructions, as they come in.
-/
import Derived.Test.YtchmhnodcjidkaaR
import Derived.Test.YtchmhnodcjidkaaP4
import Derived.Deep.Slices
import Derived.ChangeSame
namespace Go.Proofs.Ytchmhnodcjidkaa
open Go.ChangeShapes Go.WideShapes Go.ChangeAt Go.RowKit Go.Deep

section
variable {H : Type} {enc : TypeId × Value → H} {w : World} {base b0 : Nat} {spare : Nat → Bool} {held : Bool} {r : Reach}
set_option maxRecDepth 100000 in
theorem tim_shape {v : Value} {d : DataW H} {p : List MemPlace} (hv : Value.okWide Try.prog w r b0 49 v) (h : DataW.Trod enc Try.prog w base spare held 49 v d p) :
    ∃ x y z u : Int, v = .agg #[.int .i64 x, .int .i64 y, .int .i64 z, .int .i64 u] := by
  obtain ⟨cs, rfl, hsz⟩ := okWide_struct Try.underlying49 hv
  obtain ⟨l⟩ := cs
  match l, hsz.trans cells49 with
  | [c0, c1, c2, c3], _ =>
    obtain ⟨fuel, hf⟩ := h
    obtain ⟨xs, n, _, hx, _, hlen, hg⟩ := DataW.trod_struct Try.underlying49 hf
    match xs, hlen with
    | [y0, y1, y2, y3], _ =>
      have g0 := hg 0 _ rfl
      have g1 := hg 1 _ rfl
      have g2 := hg 2 _ rfl
      have g3 := hg 3 _ rfl
      simp [Value.cells, cells3] at g0 g1 g2 g3
      obtain ⟨a, e0, _, _⟩ := DataW.trod_int Try.underlying3 g0
      obtain ⟨b, e1, _, _⟩ := DataW.trod_int Try.underlying3 g1
      obtain ⟨c, e2, _, _⟩ := DataW.trod_int Try.underlying3 g2
      obtain ⟨m, e3, _, _⟩ := DataW.trod_int Try.underlying3 g3
      simp at e0 e1 e2 e3
      subst e0 e1 e2 e3
      exact ⟨a, b, c, m, rfl⟩

set_option maxRecDepth 100000 in
/-- One element of the slice: five cells. -/
theorem elem_shape {n : Nat} {cs : List Value} {x : DataW H × List MemPlace} {a : Addr} (hc : w.cells? base a 5 = some cs) (h : DataW.trod enc Try.prog w base spare held n 23 cs = some x) :
    a.spot = none ∧ a.block < w.heap.size ∧ ∃ I : InsD, I.ok ∧ InsAt w a.block a.off I := by
  obtain ⟨xs, n', _, hx, hlen0, hlen, hg⟩ := DataW.trod_struct Try.underlying23 h
  obtain ⟨_, hcl, hat⟩ := World.cells?_some hc
  match cs, hcl with
  | [c0, c1, c2, c3, c4], _ =>
    match xs, hlen with
    | [y0, y1, y2, y3, y4], _ =>
      have g0 := hg 0 _ rfl
      have g1 := hg 1 _ rfl
      have g2 := hg 2 _ rfl
      have g3 := hg 3 _ rfl
      have g4 := hg 4 _ rfl
      simp [cells5] at g0
      simp [cells3] at g1 g2 g3 g4
      obtain ⟨op, e0, _, w0⟩ := DataW.trod_int Try.underlying5 g0
      obtain ⟨a1, e1, _, _⟩ := DataW.trod_int Try.underlying3 g1
      obtain ⟨b1, e2, _, _⟩ := DataW.trod_int Try.underlying3 g2
      obtain ⟨c1', e3, _, _⟩ := DataW.trod_int Try.underlying3 g3
      obtain ⟨m1, e4, _, _⟩ := DataW.trod_int Try.underlying3 g4
      simp at e0 e1 e2 e3 e4
      subst e0 e1 e2 e3 e4
      have k0 := hat 0 (by decide)
      have k1 := hat 1 (by decide)
      have k2 := hat 2 (by decide)
      have k3 := hat 3 (by decide)
      have k4 := hat 4 (by decide)
      obtain ⟨g, o, sp⟩ := a
      have hs : sp = none := by
        cases sp with
        | none => rfl
        | some q => simp [World.cell?, Addr.add] at k0; split at k0 <;> simp at k0
      subst hs
      refine ⟨rfl, World.block_lt_of_cell? w _ k0, ⟨op, a1, b1, c1', m1⟩, bounds_u8 w0, ?_⟩
      simp only [Addr.add_lit] at k0 k1 k2 k3 k4
      exact ⟨k0, k1, k2, k3, k4⟩

theorem slice_list (n : Nat) (f : Nat → InsD) (k : Nat) (hk : k < ((List.range n).map f).length) : ((List.range n).map f)[k] = f k := by simp

set_option maxRecDepth 100000 in
theorem ssi_shape {v : Value} {d : DataW H} {p : List MemPlace} (hv : Value.okWide Try.prog w r b0 56 v) (h : DataW.Trod enc Try.prog w base spare held 56 v d p) :
    ∃ (ao : Option Addr) (cap : Nat) (L : List InsD), v = .slice ao L.length cap ∧ SlI w ao L := by
  obtain ⟨a0, len, cap, rfl⟩ := okWide_slice Try.underlying56 hv
  obtain ⟨fuel, hf⟩ := h
  rcases open_slice Try.underlying56 hf with ⟨h0, _⟩ | ⟨a, len', cap', m, n, D, Pl, h0, _, hl, _, hm, _, hi⟩
  · simp [Value.cells] at h0
    obtain ⟨rfl, rfl, rfl⟩ := h0
    exact ⟨none, 0, [], rfl, fun k hk => absurd hk (by simp)⟩
  · simp [Value.cells] at h0
    obtain ⟨rfl, rfl, rfl⟩ := h0
    have hlm : len ≤ m := by rw [hm]; split <;> omega
    have key : ∀ i, i < len → ∃ I : InsD, a.spot = none ∧ a.block < w.heap.size ∧ I.ok ∧ InsAt w a.block (a.off + i * 5) I := by
      intro i hlt
      obtain ⟨cs', hc, ht⟩ := hi i (by omega)
      rw [cells23] at hc
      obtain ⟨s1, s2, I, s3, s4⟩ := elem_shape hc ht
      have sp : a.spot = none := by
        obtain ⟨cs2, hc2, ht2⟩ := hi 0 (by omega)
        rw [cells23, Nat.zero_mul, Addr.add_zero'] at hc2
        exact (elem_shape hc2 ht2).1
      obtain ⟨g, o, sp'⟩ := a
      simp only at sp
      subst sp
      rw [Addr.add_lit] at s2 s4
      exact ⟨I, rfl, s2, s3, s4⟩
    refine ⟨some a, cap, (List.range len).map fun i => if h : i < len then Classical.choose (key i h) else default, by simp, ?_⟩
    intro k hk
    have hk' : k < len := by simpa using hk
    obtain ⟨g, o, sp'⟩ := a
    have hs := (Classical.choose_spec (key k hk')).1
    simp only at hs
    subst hs
    refine ⟨g, o, rfl, (Classical.choose_spec (key k hk')).2.1, fun j hj => ?_⟩
    have hj' : j < len := by simpa using hj
    rw [slice_list, dif_pos hj']
    exact (Classical.choose_spec (key j hj')).2.2
end
end Go.Proofs.Ytchmhnodcjidkaa
