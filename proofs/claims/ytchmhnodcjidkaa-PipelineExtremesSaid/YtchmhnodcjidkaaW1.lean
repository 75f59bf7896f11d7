/-
  The walk of isa.rows: the table of opcodes, built in new memory.
-/
import Derived.Test.YtchmhnodcjidkaaRows
import Derived.Test.YtchmhnodcjidkaaSpec
import Derived.WalkKit
import Derived.WalkSpells
import Derived.WalkLawsBesides
namespace Go.Proofs.Ytchmhnodcjidkaa
open Go.RowKit

theorem info71 : (Try.prog.info? 71).map (fun i => (i.zero, i.size, i.bytes)) = some (some (.agg #[.string ByteArray.empty, .string ByteArray.empty, .int .i64 0, .int .i64 0, .string ByteArray.empty, .string ByteArray.empty]), 6, 80) := by kernel_rfl

/-- What the loop of rows has gathered. -/
theorem own_head (w : World) : (w.alloc (.cells (cellsOf headRows).toArray 71)).ownsRow w.heap.size 71 6 (.slice (some ⟨w.heap.size, 0, none⟩) 2 2) 2 (cellsOf headRows) := by
  refine ⟨by rw [cellsOf_length]; rfl, .inr ⟨w.heap.size, 2, _, rfl, Nat.le_refl _, heap_alloc_new w _, Nat.le_refl _, by decide, by simp [cellsOf_length]; rfl, ?_⟩⟩
  rw [List.take_of_length_le (by simp [cellsOf_length]; decide)]

def nameAt (k : Nat) : ByteArray := ⟨(abcNames.getD k []).toArray⟩
def namesObj : Obj := .cells (abcNames.map fun n => Value.string ⟨n.toArray⟩).toArray 9
theorem name_cell (w w' : World) (k : Nat) (hk : k < 12) (hb : w'.heap[w.heap.size + 1]? = some namesObj) :
    w'.cell? ⟨w.heap.size + 1, k, none⟩ = some (.string (nameAt k)) := by
  unfold namesObj at hb
  rw [cell_of_row _ _ _ _ _ _ hb]
  have hl : k < abcNames.length := by simpa [abcNames] using hk
  simp [nameAt, List.getElem?_eq_getElem hl]

/-- The own row of the loop lies in no block between: block + 1 keeps the names. -/
def RowsRel (w : World) (v i : Value) (wr : World) : Prop :=
  ∃ k : Nat, k ≤ 12 ∧ i = .int .i64 k ∧ wr.ownsRow w.heap.size 71 6 v (2 + k) (cellsOf (tabUpto k)) ∧ wr.heap[w.heap.size + 1]? = some namesObj ∧ Below w.heap.size w wr

theorem own_ne_names {w wr : World} {v : Value} {n : Nat} {xs : List Value} (hown : wr.ownsRow w.heap.size 71 6 v n xs) (hb : wr.heap[w.heap.size + 1]? = some namesObj) : some (w.heap.size + 1) ≠ v.ownBlock := by
  rcases hown.2 with ⟨rfl, _⟩ | ⟨g, cap, cur, rfl, _, hh, _⟩
  · simp [Value.ownBlock]
  · intro he
    have : w.heap.size + 1 = g := by simpa [Value.ownBlock] using he
    subst this
    rw [hh] at hb
    unfold namesObj at hb
    injection hb with hb
    injection hb with _ ht
    cases ht

theorem own_size {w wr : World} {v : Value} {n : Nat} {xs : List Value} (hnx : Below w.heap.size w wr) (hown : wr.ownsRow w.heap.size 71 6 v n xs) (o : Obj) {w1 : World} (hg : (wr.alloc o).grownBy w1 v.ownBlock) : Below w.heap.size w w1 :=
  (hnx.alloc hnx.size o).grown hg (by have := hnx.size; simp; omega) (fun k hk => (hown.lt k hk).1)

/-- A new block's cells, at its head. -/
theorem cells_new (w : World) (cs : List Value) (t : TypeId) : ∀ j u, cs[j]? = some u → (w.alloc (.cells cs.toArray t)).cell? ((⟨w.heap.size, 0, none⟩ : Addr).add j) = some u := by
  intro j u hj
  have hadd : (⟨w.heap.size, 0, none⟩ : Addr).add j = ⟨w.heap.size, j, none⟩ := by unfold Addr.add; split <;> simp_all
  rw [hadd, cell_of_row _ _ _ _ _ _ (heap_alloc_new w _)]
  simpa using hj
theorem row_one (r : RowD) : ∀ u ∈ r.cells, u.oneCell' = true := by
  intro u hu
  simp [RowD.cells] at hu
  rcases hu with rfl | rfl | rfl | rfl | rfl | rfl <;> rfl

set_option maxRecDepth 100000 in
set_option maxHeartbeats 2000000 in
theorem rows_any (w : World) :
    Calls Try.prog 67 #[] w fun e w' => ∃ v, e = .returned v ∧ w'.ownsRow w.heap.size 71 6 v 30 (cellsOf tab) ∧ Below w.heap.size w w' := by
  obtain ⟨i0, hi, hz0, hz1, hz2⟩ := info_parts info71
  have h0 := own_head w
  go_enter Try.func67, Try.ntmps67
  go_wp2_with fail
  go_loopw [1, 9] (fun v i wr => RowsRel w v i wr) (fun _ i _ => 12 - (intOf i).toNat)
  case atStart => exact ⟨0, Nat.zero_le _, rfl, h0.alloc _, heap_alloc2_new w _ _, ((Below.refl _ _).alloc (Nat.le_refl _) _).alloc (by simp) _⟩
  case round =>
    obtain ⟨k, hk, rfl, hown, hnm, hnx⟩ := hrel
    have hsize := hnx.size
    by_cases hlt : k < 12
    · have hc := name_cell w wr k hlt hnm
      have hne := own_ne_names hown hnm
      have hlt' : (k : Int) < 12 := by omega
      go_wp2_with (first
        | (at_builtin; refine wpList_append_own _ rfl (.tmp 13) (.tmp 16) 91 rfl w.heap.size 71 i0 _ 6 80 Try.underlying91 hi hz0 hz1 hz2 rfl (by decide) _ (2 + k) (cellsOf (tabUpto k)) rfl (hown.alloc _) ⟨wr.heap.size, 0, none⟩ 1 1 (abcRow (abcNames.getD k [])).cells rfl rfl (cells_new wr (abcRow (abcNames.getD k [])).cells 71) (row_one _) (by unfold maxLen; omega) (by omega) (by simp; omega) ?_; intro v' w1 hown' hgrow hnil))
      go_roundw
      case rel =>
        refine ⟨k + 1, by omega, by go_num, ?_, ?_, own_size hnx hown _ hgrow⟩
        · rw [tabUpto_succ k hlt, cellsOf_append]
          exact hown'
        · rw [hgrow.block _ (by have := (Array.getElem?_eq_some_iff.1 hnm).1; simp; omega) hne, heap_alloc_old _ _ (by have := (Array.getElem?_eq_some_iff.1 hnm).1; omega)]
          exact hnm
      case measure => simp [intOf]; omega
    · obtain rfl : k = 12 := by omega
      have hone : ∀ u ∈ cellsOf tailRows, u.oneCell' = true := by
        intro u hu
        obtain ⟨r, _, hr⟩ := List.mem_flatMap.1 hu
        exact row_one r u hr
      go_wp2_with (first
        | (at_builtin; go_loud (refine wpList_append_own _ rfl (.tmp 19) (.tmp 36) 91 rfl w.heap.size 71 i0 _ 6 80 Try.underlying91 hi hz0 hz1 hz2 rfl (by decide) _ (2 + 12) (cellsOf (tabUpto 12)) rfl (hown.alloc _) ⟨wr.heap.size, 0, none⟩ 16 16 (cellsOf tailRows) rfl rfl (cells_new wr (cellsOf tailRows) 71) hone (by unfold maxLen; omega) (by omega) (by simp; omega) ?_); intro v' w1 hown' hgrow hnil))
      go_ret
      exact ⟨v', rfl, by rw [← cellsOf_append, tabUpto_all] at hown'; exact hown', own_size hnx hown _ hgrow⟩
end Go.Proofs.Ytchmhnodcjidkaa
