/-
  Plain definitions for the instruction set: the table of opcodes as data, and what each function of package isa computes, over whole numbers. No program in sight.
-/
import Derived.IntWalk
namespace Go.Proofs.Ytchmhnodcjidkaa
/-- A row of the table: bytes of the mnemonic, operand letters, range, letters read, letters written. -/
structure RowD where
  nm : List UInt8
  ops : List UInt8
  low : Int
  high : Int
  rd : List UInt8
  wr : List UInt8

def lstLow : Int := -131072
def lstHigh : Int := 131071

def abcNames : List (List UInt8) := [[97,100,100],[115,117,98],[109,117,108],[100,105,118],[109,111,100],[97,110,100],[111,114],[120,111,114],[115,104,108],[115,104,114],[101,113],[108,116]]

def headRows : List RowD := [⟨[110,111,112],[],0,0,[],[]⟩, ⟨[104,97,108,116],[],0,0,[],[]⟩]
def abcRow (n : List UInt8) : RowD := ⟨n, [97,98,99], 0, 0, [98,99], [97]⟩
def tailRows : List RowD := [
  ⟨[108,105],[97,105],-131072,131071,[],[97]⟩,
  ⟨[97,100,100,105],[97,98,105],-131072,131071,[98],[97]⟩,
  ⟨[115,104,108,105],[97,98,105],0,31,[98],[97]⟩,
  ⟨[111,114,105],[97,98,105],0,16383,[98],[97]⟩,
  ⟨[108,100],[97,98,105],-131072,131071,[98],[97]⟩,
  ⟨[115,116],[97,98,105],-131072,131071,[97,98],[]⟩,
  ⟨[108,100,115],[97,98,105],-131072,131071,[98],[97]⟩,
  ⟨[115,116,115],[97,98,105],-131072,131071,[97,98],[]⟩,
  ⟨[98,101,113,122],[97,105],-131072,131071,[97],[]⟩,
  ⟨[98,110,101,122],[97,105],-131072,131071,[97],[]⟩,
  ⟨[106,109,112],[105],-131072,131071,[],[]⟩,
  ⟨[98,111,117,110,100],[97,105],1,131071,[97],[]⟩,
  ⟨[105,110],[97,105],0,7,[],[97]⟩,
  ⟨[111,117,116],[97,105],0,7,[97],[]⟩,
  ⟨[108,111,99,107],[105],0,3,[],[]⟩,
  ⟨[117,110,108,111,99,107],[105],0,3,[],[]⟩]
def tab : List RowD := headRows ++ abcNames.map abcRow ++ tailRows
def tabUpto (k : Nat) : List RowD := headRows ++ (abcNames.take k).map abcRow

theorem tab_length : tab.length = 30 := by decide
theorem tabUpto_length (k : Nat) (h : k ≤ 12) : (tabUpto k).length = 2 + k := by
  simp [tabUpto, headRows, abcNames]; omega
def nilRow : RowD := ⟨[], [], 0, 0, [], []⟩
/-- The row of an opcode; the zero row beyond the table. -/
def rowOf (o : Nat) : RowD := tab.getD o nilRow

/-- A row's six cells. -/
def RowD.cells (r : RowD) : List Value := [.string ⟨r.nm.toArray⟩, .string ⟨r.ops.toArray⟩, .int .i64 r.low, .int .i64 r.high, .string ⟨r.rd.toArray⟩, .string ⟨r.wr.toArray⟩]
def cellsOf (l : List RowD) : List Value := l.flatMap RowD.cells
theorem cellsOf_length (l : List RowD) : (cellsOf l).length = l.length * 6 := by
  induction l with
  | nil => rfl
  | cons r l ih => simp only [cellsOf, List.flatMap_cons, List.length_append, List.length_cons] at ih ⊢; rw [ih]; simp [RowD.cells]; omega
theorem cellsOf_append (a b : List RowD) : cellsOf (a ++ b) = cellsOf a ++ cellsOf b := by simp [cellsOf]
theorem cellsOf_at (l : List RowD) (i j : Nat) (hi : i < l.length) (hj : j < 6) : (cellsOf l)[i * 6 + j]? = (l[i]'hi).cells[j]? := by
  induction l generalizing i with
  | nil => simp at hi
  | cons r l ih =>
    cases i with
    | zero =>
      have h6 : r.cells.length = 6 := rfl
      simp only [cellsOf, List.flatMap_cons, Nat.zero_mul, Nat.zero_add, List.getElem_cons_zero]
      rw [List.getElem?_append_left (by omega)]
    | succ i =>
      have h6 : r.cells.length = 6 := rfl
      have := ih i (by simpa using hi)
      simp only [cellsOf, List.flatMap_cons, List.getElem_cons_succ] at this ⊢
      rw [List.getElem?_append_right (by omega), ← this]
      congr 1; omega
theorem tabUpto_succ (k : Nat) (h : k < 12) : tabUpto (k + 1) = tabUpto k ++ [abcRow (abcNames.getD k [])] := by
  have hl : k < abcNames.length := by simpa [abcNames] using h
  simp only [tabUpto, List.take_succ_eq_append_getElem hl, List.map_append, List.append_assoc, List.map_cons, List.map_nil]
  rw [List.getD_eq_getElem?_getD, List.getElem?_eq_getElem hl]; rfl
theorem tabUpto_all : tabUpto 12 ++ tailRows = tab := by rfl
end Go.Proofs.Ytchmhnodcjidkaa
