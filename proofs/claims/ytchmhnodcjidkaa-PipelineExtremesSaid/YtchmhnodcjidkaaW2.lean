/-
  The walks of isa.find, isa.field, isa.position, isa.has.
-/
import Derived.Test.YtchmhnodcjidkaaW1
import Derived.Maps.OwnOps
namespace Go.Proofs.Ytchmhnodcjidkaa
open Go.RowKit Go.Maps

theorem rows_read (w : World) :
    Calls Try.prog 67 #[] w fun e w' => ∃ g cap, e = .returned (.slice (some ⟨g, 0, none⟩) 30 cap) ∧ Below w.heap.size w w' ∧ (∀ i, i < 30 → ∀ j, j < 6 → w'.cell? ⟨g, i * 6 + j, none⟩ = (rowOf i).cells[j]?) := by
  refine (rows_any w).mono ?_
  rintro e w' ⟨v, rfl, ⟨hl, hown⟩, hb⟩
  rcases hown with ⟨_, h⟩ | ⟨g, cap, cur, rfl, hg, hh, hn, hm, hs, ht⟩
  · omega
  · refine ⟨g, cap, rfl, hb, fun i hi j hj => ?_⟩
    rw [cell_of_row _ _ _ _ _ _ hh]
    have h1 := cellsOf_at tab i j (by rw [tab_length]; exact hi) hj
    have h2 : rowOf i = tab[i]'(by rw [tab_length]; exact hi) := by
      unfold rowOf
      rw [List.getD_eq_getElem?_getD, List.getElem?_eq_getElem (by rw [tab_length]; exact hi)]; rfl
    rw [h2, ← h1, ← ht, List.getElem?_take, if_pos (by omega)]
    simp

theorem rowOf_cell (i : Nat) (w : World) (g : Nat) (h : ∀ i, i < 30 → ∀ j, j < 6 → w.cell? ⟨g, i * 6 + j, none⟩ = (rowOf i).cells[j]?) (hi : i < 30) :
    w.cell? ⟨g, i * 6, none⟩ = some (.string ⟨(rowOf i).nm.toArray⟩) ∧ w.cell? ⟨g, i * 6 + 1, none⟩ = some (.string ⟨(rowOf i).ops.toArray⟩) ∧ w.cell? ⟨g, i * 6 + 2, none⟩ = some (.int .i64 (rowOf i).low) ∧
    w.cell? ⟨g, i * 6 + 3, none⟩ = some (.int .i64 (rowOf i).high) ∧ w.cell? ⟨g, i * 6 + 4, none⟩ = some (.string ⟨(rowOf i).rd.toArray⟩) ∧ w.cell? ⟨g, i * 6 + 5, none⟩ = some (.string ⟨(rowOf i).wr.toArray⟩) :=
  ⟨h i hi 0 (by omega), h i hi 1 (by omega), h i hi 2 (by omega), h i hi 3 (by omega), h i hi 4 (by omega), h i hi 5 (by omega)⟩

theorem res_cells {w : World} {cs : Array Value} {t : TypeId} {w1 : World} (hb : Below (w.alloc (.cells cs t)).heap.size (w.alloc (.cells cs t)) w1) :
    w.heap.size < w1.heap.size ∧ (∀ j, w1.cell? ⟨w.heap.size, j, none⟩ = cs[j]?) ∧ (∀ j, w1.frozen? ⟨w.heap.size, j, none⟩ = false) ∧ Below w.heap.size w w1 := by
  have hh : w1.heap[w.heap.size]? = some (.cells cs t) := (hb.block w.heap.size (by simp)).trans (heap_alloc_new w _)
  refine ⟨by have := hb.size; simp at this; omega, fun j => ?_, fun j => ?_, ((Below.refl _ _).alloc (Nat.le_refl _) _).trans (hb.mono (by simp))⟩
  · rw [cell_of_row _ _ _ _ _ _ hh]
  · simp [World.frozen?, hh]

set_option maxRecDepth 100000 in
set_option maxHeartbeats 400000 in
theorem find_no (op : Int) (w : World) (h0 : 30 ≤ op) (h1 : op ≤ 255) :
    Calls Try.prog 51 #[.int .u8 op] w fun e w' => e = .returned (.tuple #[.agg #[.string ⟨#[]⟩, .string ⟨#[]⟩, .int .i64 0, .int .i64 0, .string ⟨#[]⟩, .string ⟨#[]⟩], .bool false]) ∧ Below w.heap.size w w' := by
  go_enter Try.func51, Try.ntmps51
  go_wp2_with fail
  refine (rows_read _).mono ?_
  rintro e w1 ⟨g, cap, rfl, hb, -⟩
  obtain ⟨hz, hc, hf, hB⟩ := res_cells hb
  clear hb
  go_wp2_with fail
  refine bodyPost_ret (v := .tuple #[.agg #[.string ⟨#[]⟩, .string ⟨#[]⟩, .int .i64 0, .int .i64 0, .string ⟨#[]⟩, .string ⟨#[]⟩], .bool false]) ?_ rfl ⟨rfl, ?_⟩
  · simp [results, Try.results51, go_sem, hc]
  · exact (((((hB.setCell (by simp) _).setCell (by simp) _).setCell (by simp) _).setCell (by simp) _).setCell (by simp) _).setCell (by simp) _

set_option maxRecDepth 100000 in
set_option maxHeartbeats 400000 in
theorem find_yes (op : Int) (w : World) (h0 : 0 ≤ op) (h1 : op < 30) :
    Calls Try.prog 51 #[.int .u8 op] w fun e w' => e = .returned (.tuple #[.agg #[.string ⟨(rowOf op.toNat).nm.toArray⟩, .string ⟨(rowOf op.toNat).ops.toArray⟩, .int .i64 (rowOf op.toNat).low, .int .i64 (rowOf op.toNat).high, .string ⟨(rowOf op.toNat).rd.toArray⟩, .string ⟨(rowOf op.toNat).wr.toArray⟩], .bool true]) ∧ Below w.heap.size w w' := by
  go_enter Try.func51, Try.ntmps51
  go_wp2_with fail
  refine (rows_read _).mono ?_
  rintro e w1 ⟨g, cap, rfl, hb, hcell⟩
  obtain ⟨c0, c1, c2, c3, c4, c5⟩ := rowOf_cell op.toNat w1 g hcell (by omega)
  obtain ⟨hz, hc, hf, hB⟩ := res_cells hb
  clear hcell hb
  go_wp2_with fail
  refine bodyPost_ret (v := .tuple #[.agg #[.string ⟨(rowOf op.toNat).nm.toArray⟩, .string ⟨(rowOf op.toNat).ops.toArray⟩, .int .i64 (rowOf op.toNat).low, .int .i64 (rowOf op.toNat).high, .string ⟨(rowOf op.toNat).rd.toArray⟩, .string ⟨(rowOf op.toNat).wr.toArray⟩], .bool true]) ?_ rfl ⟨rfl, ?_⟩
  · simp [results, Try.results51, go_sem, hc]
  · exact (((((hB.setCell (by simp) _).setCell (by simp) _).setCell (by simp) _).setCell (by simp) _).setCell (by simp) _).setCell (by simp) _

/-! ### the map of positions -/
def posOf (c : Int) : Int := if c = 97 then 22 else if c = 98 then 18 else if c = 99 then 14 else 0
theorem wpList_insert_own {H : Type} {P : Program} (w : World) {ops : Array Oper} {rest : List Oper} {o : Oper} {a : Act} {Q : Exit → Act → World → Prop}
    (hg : o.guard = none) (m x v : Operand) (t : TypeId) (hop : o.op = Op.insert t m x v)
    (k e : TypeId) (K : Keyed P k) (ht : P.underlying t = some (.map k e)) (R : Value → Option (DataW H × List MemPlace)) (b n : Nat) (D : DataW H)
    (hm : a.eval m = .map (some b)) (hown : w.ownsMap P k R b n D) (hn : n < maxLen) (key val : Value) (kl : Lit) (hx : a.eval x = key) (hv : a.eval v = val) (hkey : keyOf P k key = some kl)
    (d : DataW H) (ps : List MemPlace) (hval : R val = some (d, ps))
    (hK : ∀ w', w'.ownsMap P k R b (n + 1) (D.put kl d) → w.grownBy w' (some b) → wpList P ops Q rest (a.put o.dst undef) w') :
    wpList P ops Q (o :: rest) a w := by
  refine wpList_plain hg fun K' hK' => ?_
  obtain ⟨w', hrun, r1, r2⟩ := hown.update K ht hn hkey hval
  unfold Oper.wp
  simp [execOp, hop, hm, hx, hv, hrun, Result.andThen]
  exact hK' _ _ (hK w' r1 r2)

theorem key5 : Keyed Try.prog 5 := int_keyed Try.underlying5
theorem zero3 (w : World) : (zeroValue 3).run Try.prog w = .ok (.int .i64 0) w := by kernel_rfl
def posD : DataW Unit := (((DataW.map []).put (.int .u8 97) (.lit (.int .i64 22))).put (.int .u8 98) (.lit (.int .i64 18))).put (.int .u8 99) (.lit (.int .i64 14))
theorem posD_at (c x : Int) (h : posD.atKey (.int .u8 c) (.lit (.int .i64 0)) = .lit (.int .i64 x)) : x = posOf c := by
  have e : posD = DataW.map [(.int .u8 97, .lit (.int .i64 22)), (.int .u8 98, .lit (.int .i64 18)), (.int .u8 99, .lit (.int .i64 14))] := by rfl
  rw [e] at h
  unfold posOf
  by_cases h1 : c = 97
  · subst h1; simp [DataW.atKey, Lit.sameKey] at h; rw [if_pos rfl]; exact h.symm
  · by_cases h2 : c = 98
    · subst h2; simp [DataW.atKey, Lit.sameKey] at h; simpa using h.symm
    · by_cases h3 : c = 99
      · subst h3; simp [DataW.atKey, Lit.sameKey] at h; simpa using h.symm
      · rw [if_neg h1, if_neg h2, if_neg h3]
        have d1 : ¬ 97 = c := fun e => h1 e.symm
        have d2 : ¬ 98 = c := fun e => h2 e.symm
        have d3 : ¬ 99 = c := fun e => h3 e.symm
        simp [DataW.atKey, Lit.sameKey, d1, d2, d3] at h
        exact h.symm

set_option maxRecDepth 100000 in
set_option maxHeartbeats 400000 in
theorem position_any (c : Int) (w : World) (h0 : 0 ≤ c) (h1 : c ≤ 255) :
    Calls Try.prog 53 #[.int .u8 c] w fun e w' => e = .returned (.int .i64 (posOf c)) ∧ Below w.heap.size w w' := by
  have hmm := @run_makeMap Try.prog
  have hm0 := World.ownsMap_made w Try.prog 5 (plainElem (H := Unit) Try.prog 3)
  go_enter Try.func53, Try.ntmps53
  go_wp2_with (first
    | (refine wpList_insert_own _ rfl (.tmp 3) (.const (.int .u8 97)) (.const (.int .i64 22)) 93 rfl 5 3 key5 Try.underlying93 (plainElem (H := Unit) Try.prog 3) w.heap.size 0 (.map []) rfl hm0 (by unfold maxLen; omega) _ _ (.int .u8 97) rfl rfl (keyOf_int_mk Try.underlying5 (by decide)) (.lit (.int .i64 22)) [] (plainElem_int Try.underlying3 (by decide)) ?_; intro w1 hm1 hg1)
    | (refine wpList_insert_own _ rfl (.tmp 3) (.const (.int .u8 98)) (.const (.int .i64 18)) 93 rfl 5 3 key5 Try.underlying93 (plainElem (H := Unit) Try.prog 3) w.heap.size _ _ rfl hm1 (by unfold maxLen; omega) _ _ (.int .u8 98) rfl rfl (keyOf_int_mk Try.underlying5 (by decide)) (.lit (.int .i64 18)) [] (plainElem_int Try.underlying3 (by decide)) ?_; intro w2 hm2 hg2)
    | (refine wpList_insert_own _ rfl (.tmp 3) (.const (.int .u8 99)) (.const (.int .i64 14)) 93 rfl 5 3 key5 Try.underlying93 (plainElem (H := Unit) Try.prog 3) w.heap.size _ _ rfl hm2 (by unfold maxLen; omega) _ _ (.int .u8 99) rfl rfl (keyOf_int_mk Try.underlying5 (by decide)) (.lit (.int .i64 14)) [] (plainElem_int Try.underlying3 (by decide)) ?_; intro w3 hm3 hg3)
    | (at_lookup; refine wpList_lookup_own_int _ rfl _ _ 93 rfl 5 3 .i64 key5 Try.underlying93 Try.underlying3 (zero3 _) w.heap.size _ _ rfl hm3 _ (.int .u8 c) rfl (keyOf_int_mk Try.underlying5 (WalkArith.wf_u8 (by omega))) ?_; intro x hat hwc))
  go_ret
  have hx : x = posOf c := posD_at c x hat
  subst hx
  exact ⟨rfl, (((((Below.refl _ _).alloc (Nat.le_refl _) _).grown hg1 (by simp) (fun k hk => by cases hk; exact Nat.le_refl _)).grown hg2 (by have := hg1.size; simp at this; omega) (fun k hk => by cases hk; exact Nat.le_refl _)).grown hg3 (by have := hg1.size; have := hg2.size; simp at *; omega) (fun k hk => by cases hk; exact Nat.le_refl _))⟩

/-! ### a field's address -/
def fldIx (c : Int) : Nat := if c = 97 then 1 else if c = 98 then 2 else if c = 99 then 3 else 4
set_option maxHeartbeats 400000 in
theorem field_any (b : Nat) (c : Int) (w : World) (h0 : 0 ≤ c) (h1 : c ≤ 255) :
    Calls Try.prog 52 #[.pointer (some ⟨b, 0, none⟩), .int .u8 c] w fun e w' => e = .returned (.pointer (some ⟨b, fldIx c, none⟩)) ∧ w = w' := by
  unfold fldIx
  by_cases ha : c = 97
  · subst ha
    go_enter Try.func52, Try.ntmps52
    go_wp2
    go_ret
    exact ⟨rfl, rfl⟩
  by_cases hb : c = 98
  · subst hb
    go_enter Try.func52, Try.ntmps52
    go_wp2
    go_ret
    exact ⟨rfl, rfl⟩
  by_cases hc : c = 99
  · subst hc
    go_enter Try.func52, Try.ntmps52
    go_wp2
    go_ret
    exact ⟨rfl, rfl⟩
  rw [if_neg ha, if_neg hb, if_neg hc]
  go_enter Try.func52, Try.ntmps52
  go_wp2
  go_ret
  exact ⟨rfl, rfl⟩

end Go.Proofs.Ytchmhnodcjidkaa
