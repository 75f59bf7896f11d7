/-
  What every row's proof of this seat wants: an instruction, a timing as they come in; the frame of a law's row.
-/
import Derived.Test.YtchmhnodcjidkaaRows
import Derived.WalkKit
import Derived.ProofKit
import Derived.OpenShut
import Derived.ShutString
import Derived.ChangeOld
import Derived.Below
import Derived.Deep.Fields
namespace Go.Proofs.Ytchmhnodcjidkaa
open Go.ChangeShapes Go.WideShapes Go.ChangeAt Go.RowKit Go.Deep

theorem row_own : ownKnob Try.prog.godebug = none := by kernel_rfl
theorem row_laidOut : laidOutB Try.prog = true := by kernel_rfl
theorem cells5 : Try.prog.cellsOf 5 = 1 := by kernel_rfl
theorem cells3 : Try.prog.cellsOf 3 = 1 := by kernel_rfl
theorem cells23 : Try.prog.cellsOf 23 = 5 := by kernel_rfl
theorem cells49 : Try.prog.cellsOf 49 = 4 := by kernel_rfl

section
variable {H : Type} {enc : TypeId × Value → H} {w : World} {base b0 : Nat} {spare : Nat → Bool} {held : Bool} {r : Reach}
set_option maxRecDepth 100000 in
theorem ins_shape {v : Value} {d : DataW H} {p : List MemPlace} (hv : Value.okWide Try.prog w r b0 23 v) (h : DataW.Trod enc Try.prog w base spare held 23 v d p) :
    ∃ op a b c m : Int, v = .agg #[.int .u8 op, .int .i64 a, .int .i64 b, .int .i64 c, .int .i64 m] ∧ (0 ≤ op ∧ op ≤ 255) ∧ (Lit.int .i64 a).wf = true ∧ (Lit.int .i64 b).wf = true ∧ (Lit.int .i64 c).wf = true ∧ (Lit.int .i64 m).wf = true := by
  obtain ⟨cs, rfl, hsz⟩ := okWide_struct Try.underlying23 hv
  obtain ⟨l⟩ := cs
  match l, hsz.trans cells23 with
  | [c0, c1, c2, c3, c4], _ =>
    obtain ⟨fuel, hf⟩ := h
    obtain ⟨xs, n, _, hx, _, hlen, hg⟩ := DataW.trod_struct Try.underlying23 hf
    match xs, hlen with
    | [y0, y1, y2, y3, y4], _ =>
      have g0 := hg 0 _ rfl
      have g1 := hg 1 _ rfl
      have g2 := hg 2 _ rfl
      have g3 := hg 3 _ rfl
      have g4 := hg 4 _ rfl
      simp [Value.cells, cells5] at g0
      simp [Value.cells, cells3] at g1 g2 g3 g4
      obtain ⟨op, e0, _, w0⟩ := DataW.trod_int Try.underlying5 g0
      obtain ⟨a, e1, _, w1⟩ := DataW.trod_int Try.underlying3 g1
      obtain ⟨b, e2, _, w2⟩ := DataW.trod_int Try.underlying3 g2
      obtain ⟨c, e3, _, w3⟩ := DataW.trod_int Try.underlying3 g3
      obtain ⟨m, e4, _, w4⟩ := DataW.trod_int Try.underlying3 g4
      simp at e0 e1 e2 e3 e4
      subst e0 e1 e2 e3 e4
      exact ⟨op, a, b, c, m, rfl, bounds_u8 w0, w1, w2, w3, w4⟩
end
end Go.Proofs.Ytchmhnodcjidkaa
