/-
  Small words on memory for the walks: a block that is known whole ('Holds'), kept over new blocks, draws, stores elsewhere and calls that only make memory. No program in sight.
-/
import Derived.WalkKit
import Derived.Deep.Draws
import Derived.Lib.Hide
namespace Go.Proofs.Ytchmhnodcjidkaa
open Go.RowKit

/-- Block g is just the cells cs of type t; none of them is frozen. -/
def Holds (w : World) (g : Nat) (t : TypeId) (cs : Array Value) : Prop := w.heap[g]? = some (.cells cs t (0, 0))

section
variable {w w' : World} {g : Nat} {t : TypeId} {cs : Array Value}
theorem Holds.lt (h : Holds w g t cs) : g < w.heap.size := (Array.getElem?_eq_some_iff.1 h).1
theorem Holds.cell (h : Holds w g t cs) (i : Nat) : w.cell? ⟨g, i, none⟩ = cs[i]? := cell_of_row w g i cs t (0, 0) h
theorem Holds.free (h : Holds w g t cs) (i : Nat) : w.frozen? ⟨g, i, none⟩ = false := by
  unfold Holds at h
  simp [World.frozen?, h]
theorem holds_new (w : World) (t : TypeId) (cs : Array Value) : Holds (w.alloc (.cells cs t)) w.heap.size t cs := heap_alloc_new w _
theorem Holds.alloc (h : Holds w g t cs) (o : Obj) : Holds (w.alloc o) g t cs := (Below.heap_alloc w o g h.lt).trans h
theorem Holds.drew (h : Holds w g t cs) : Holds w.drew g t cs := h
theorem Holds.drewN (h : Holds w g t cs) (n : Nat) : Holds (w.drewN n) g t cs := h
theorem Holds.below {B : Nat} (h : Holds w g t cs) (hb : Below B w w') (hg : g < B) : Holds w' g t cs := (hb.block g hg).trans h
theorem Holds.after (h : Holds w g t cs) (hb : Below w.heap.size w w') : Holds w' g t cs := h.below hb h.lt
theorem Holds.far (h : Holds w g t cs) {p : Addr} (hp : g ≠ p.block) (u : Value) : Holds (w.setCell p u) g t cs := (Below.heap_setCell w p u g hp).trans h
theorem Holds.put (h : Holds w g t cs) (i : Nat) (u : Value) : Holds (w.setCell ⟨g, i, none⟩ u) g t (cs.setIfInBounds i u) := by
  unfold Holds at h ⊢
  simp [World.setCell, Array.getElem?_modify, h]
theorem Holds.grown {row : Option Nat} (h : Holds w g t cs) (hb : w.grownBy w' row) (hg : some g ≠ row) : Holds w' g t cs := (hb.block g h.lt hg).trans h
/-- The same with a mark (a converted literal's row). -/
def Marked (w : World) (g : Nat) (t : TypeId) (cs : Array Value) (fr : Nat × Nat) : Prop := w.heap[g]? = some (.cells cs t fr)
theorem Marked.lt {fr : Nat × Nat} (h : Marked w g t cs fr) : g < w.heap.size := (Array.getElem?_eq_some_iff.1 h).1
theorem Marked.cell {fr : Nat × Nat} (h : Marked w g t cs fr) (i : Nat) : w.cell? ⟨g, i, none⟩ = cs[i]? := cell_of_row w g i cs t fr h
theorem Marked.after {fr : Nat × Nat} (h : Marked w g t cs fr) (hb : Below w.heap.size w w') : Marked w' g t cs fr := (hb.block g h.lt).trans h
theorem marked_new (w : World) (t : TypeId) (cs : Array Value) (fr : Nat × Nat) : Marked (w.alloc (.cells cs t fr)) w.heap.size t cs fr := heap_alloc_new w _
theorem Marked.drewN {fr : Nat × Nat} (h : Marked w g t cs fr) (n : Nat) : Marked (w.drewN n) g t cs fr := h
theorem below_drewN {B : Nat} {a w : World} (h : Below B a w) (n : Nat) : Below B a (w.drewN n) := ⟨h.os, h.tape, h.output, h.size, h.block⟩
/-- A call that keeps all that was there goes on a relation to an older world. -/
theorem Below.on {B : Nat} {a w w' : World} (h : Below B a w) (hb : Below w.heap.size w w') (hB : B ≤ w.heap.size) : Below B a w' := h.trans (hb.mono hB)
end
end Go.Proofs.Ytchmhnodcjidkaa
