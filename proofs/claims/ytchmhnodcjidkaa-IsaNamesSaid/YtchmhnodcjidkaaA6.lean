/-
  The walks of Mnemonic, Transfers, the reference's Mnemonic and of the law IsaNames.
-/
import Derived.Test.YtchmhnodcjidkaaA5
namespace Go.Proofs.Ytchmhnodcjidkaa
open Go.RowKit Go.Maps

theorem nmS_none {op : Int} (h : 30 ≤ op) : nmS op = ⟨#[]⟩ := by
  unfold nmS rowOf
  rw [List.getD_eq_getElem?_getD, List.getElem?_eq_none (by rw [tab_length]; omega)]; rfl

set_option maxRecDepth 100000 in
set_option maxHeartbeats 400000 in
theorem mnemonic_any (op : Int) (w : World) (h0 : 0 ≤ op) (h1 : op ≤ 255) :
    Calls Try.prog 29 #[.int .u8 op] w fun e w' => e = .returned (.string (nmS op)) ∧ Below w.heap.size w w' := by
  by_cases h : op < 30
  · go_enter Try.func29, Try.ntmps29
    go_wp2_with fail
    refine (find_op op _ h0 h).mono ?_
    rintro e w1 ⟨rfl, hb⟩
    go_wp2_with fail
    go_ret
    exact ⟨rfl, hb.alloc hb.size _⟩
  · have hn := Lib.hid (nmS_none (op := op) (by omega))
    go_enter Try.func29, Try.ntmps29
    go_wp2_with fail
    refine (find_no op _ (by omega) h1).mono ?_
    rintro e w1 ⟨rfl, hb⟩
    go_wp2_with fail
    go_ret
    exact ⟨by rw [hn.out]; rfl, hb.alloc hb.size _⟩

def nameCells : Array Value := (tab.map fun r => Value.string ⟨r.nm.toArray⟩).toArray
theorem nameCells_at (i : Nat) (hi : i < 30) : nameCells[i]? = some (.string (nmS i)) := by
  unfold nameCells nmS rowOf
  have hl : i < tab.length := by rw [tab_length]; exact hi
  simp [List.getElem?_eq_getElem hl]

set_option maxRecDepth 100000 in
set_option maxHeartbeats 400000 in
theorem rmnemonic_any (op : Int) (w : World) (h0 : 0 ≤ op) (h1 : op ≤ 255) :
    Calls Try.prog 30 #[.int .u8 op] w fun e w' => e = .returned (.string (nmS op)) ∧ Below w.heap.size w w' := by
  by_cases h : op < 30
  · have hl : op.toNat < nameCells.toList.length := by
      show op.toNat < 30
      omega
    have hc : nameCells.toList[op.toNat]'hl = .string (nmS op) := by
      have := nameCells_at op.toNat (by omega)
      rw [Int.toNat_of_nonneg h0] at this
      obtain ⟨_, h2⟩ := Array.getElem?_eq_some_iff.1 this
      simpa using h2
    have HC := Lib.hid hc
    clear hc
    go_enter Try.func30, Try.ntmps30
    go_wp2_with fail
    go_ret
    exact ⟨congrArg Ending.returned HC.out, (Below.refl _ _).alloc (Nat.le_refl _) _⟩
  · have hn := Lib.hid (nmS_none (op := op) (by omega))
    go_enter Try.func30, Try.ntmps30
    go_wp2_with fail
    go_ret
    exact ⟨by rw [hn.out]; rfl, (Below.refl _ _).alloc (Nat.le_refl _) _⟩

def trB (op : Int) : Bool := decide (op = 19 ∨ op = 20 ∨ op = 21 ∨ 26 ≤ op ∧ op ≤ 29)
theorem nm_facts : ∀ i : Nat, i < 30 → (nmS i).toList.isEmpty = false ∧ ∀ j : Nat, j < 30 → i ≠ j → ((nmS i).toList == (nmS j).toList) = false := by decide +kernel

/-- The way of an opcode through the two tests. -/
inductive OpClass (op : Int) : Prop
  | low (h : op < 19)
  | m19 (h : op = 19)
  | m20 (h : op = 20)
  | m21 (h : op = 21)
  | m22 (h : op = 22)
  | m23 (h : op = 23)
  | m24 (h : op = 24)
  | m25 (h : op = 25)
  | hi (h : 26 ≤ op) (h' : op ≤ 29)
  | out (h : 30 ≤ op)
theorem op_class (op : Int) : OpClass op := by
  rcases (show op < 19 ∨ op = 19 ∨ op = 20 ∨ op = 21 ∨ op = 22 ∨ op = 23 ∨ op = 24 ∨ op = 25 ∨ (26 ≤ op ∧ op ≤ 29) ∨ 30 ≤ op by omega) with h | h | h | h | h | h | h | h | h | h
  · exact .low h
  · exact .m19 h
  · exact .m20 h
  · exact .m21 h
  · exact .m22 h
  · exact .m23 h
  · exact .m24 h
  · exact .m25 h
  · exact .hi h.1 h.2
  · exact .out h

set_option maxHeartbeats 1000000 in
theorem transfers_any (op : Int) (w : World) : Calls Try.prog 31 #[.int .u8 op] w fun e w' => e = .returned (.bool (trB op)) ∧ w = w' := by
  by_cases h26 : 26 ≤ op
  · have e19 : (op == 19) = false := beq_eq_false_iff_ne.2 (by omega)
    have e20 : (op == 20) = false := beq_eq_false_iff_ne.2 (by omega)
    have e21 : (op == 21) = false := beq_eq_false_iff_ne.2 (by omega)
    by_cases h29 : op ≤ 29
    · have hE : Hid (trB op = true) := decide_eq_true (by omega)
      go_enter Try.func31, Try.ntmps31
      go_wp2
      go_ret
      exact ⟨by rw [hE.out]; simp, rfl⟩
    · have hE : Hid (trB op = false) := decide_eq_false (by omega)
      go_enter Try.func31, Try.ntmps31
      go_wp2
      go_ret
      exact ⟨by rw [hE.out]; first | rfl | simp, rfl⟩
  · by_cases h19 : op = 19
    · subst h19
      go_enter Try.func31, Try.ntmps31
      go_wp2
      go_ret
      exact ⟨rfl, rfl⟩
    by_cases h20 : op = 20
    · subst h20
      go_enter Try.func31, Try.ntmps31
      go_wp2
      go_ret
      exact ⟨rfl, rfl⟩
    by_cases h21 : op = 21
    · subst h21
      go_enter Try.func31, Try.ntmps31
      go_wp2
      go_ret
      exact ⟨rfl, rfl⟩
    have e19 : (op == 19) = false := beq_eq_false_iff_ne.2 h19
    have e20 : (op == 20) = false := beq_eq_false_iff_ne.2 h20
    have e21 : (op == 21) = false := beq_eq_false_iff_ne.2 h21
    have hE : Hid (trB op = false) := decide_eq_false (by omega)
    go_enter Try.func31, Try.ntmps31
    go_wp2
    go_ret
    exact ⟨by rw [hE.out]; rfl, rfl⟩

theorem emp_list : (⟨#[]⟩ : ByteArray).toList = [] := by decide +kernel
theorem nm_empty {op : Int} (h0 : 0 ≤ op) (h : (nmS op).toList = []) : 30 ≤ op := by
  by_cases h1 : op < 30
  · obtain ⟨i, rfl⟩ := Int.eq_ofNat_of_zero_le h0
    have := (nm_facts i (by omega)).1
    rw [h] at this
    cases this
  · omega
theorem nm_ne {op ot : Int} (h0 : 0 ≤ op) (g0 : 0 ≤ ot) (hne : ¬ op = ot) (he : ¬ (nmS op).toList = []) : ((nmS op).toList == (nmS ot).toList) = false := by
  have h1 : op < 30 := by
    rcases Int.lt_or_le op 30 with h | h
    · exact h
    · rw [nmS_none h] at he
      exact absurd emp_list he
  obtain ⟨i, rfl⟩ := Int.eq_ofNat_of_zero_le h0
  by_cases h2 : ot < 30
  · obtain ⟨j, rfl⟩ := Int.eq_ofNat_of_zero_le g0
    exact (nm_facts i (by omega)).2 j (by omega) (fun e => hne (by rw [e]))
  · rw [nmS_none (op := ot) (by omega)]
    rw [beq_eq_false_iff_ne, emp_list]
    exact he
/-- The last test, on the way that the walk took. -/
theorem last_ne {op ot : Int} (h0 : 0 ≤ op) (g0 : 0 ≤ ot) (hne : ¬ op = ot) (he : ¬ (nmS op).toList = []) : (((nmS op).toList == (nmS ot).toList) == (op == ot)) = true := by
  rw [nm_ne h0 g0 hne he, beq_eq_false_iff_ne.2 hne]; rfl
theorem last_empty {op ot : Int} (hne : ¬ op = ot) : ((nmS ot).toList.isEmpty == (op == ot || (nmS ot).toList.isEmpty)) = true := by
  rw [beq_eq_false_iff_ne.2 hne, Bool.false_or]; simp

set_option maxRecDepth 100000 in
set_option maxHeartbeats 4000000 in
theorem names_low (op ot : Int) (w : World) (h0 : 0 ≤ op) (h : op < 19) (g0 : 0 ≤ ot) (g1 : ot ≤ 255) :
    Calls Try.prog 9 #[.int .u8 op, .int .u8 ot] w fun e w' => e = .returned (.bool true) ∧ Below w.heap.size w w' := by
  have e19 : (op == 19) = false := beq_eq_false_iff_ne.2 (by omega)
  have e20 : (op == 20) = false := beq_eq_false_iff_ne.2 (by omega)
  have e21 : (op == 21) = false := beq_eq_false_iff_ne.2 (by omega)
  have e22 : (op == 22) = false := beq_eq_false_iff_ne.2 (by omega)
  have e23 : (op == 23) = false := beq_eq_false_iff_ne.2 (by omega)
  have e24 : (op == 24) = false := beq_eq_false_iff_ne.2 (by omega)
  go_enter Try.func9, Try.ntmps9
  go_wp2_with fail
  refine (awake4 _).mono ?_
  rintro e w1 ⟨rfl, hB1⟩
  go_wp2_with fail
  refine (mnemonic_any op _ (by omega) (by omega)).mono ?_
  rintro e w2 ⟨rfl, hb⟩
  have hB2 := on hB1 hb
  clear hB1 hb
  go_wp2_with fail
  refine (mnemonic_any ot _ (by omega) (by omega)).mono ?_
  rintro e w3 ⟨rfl, hb⟩
  have hB3 := on hB2 hb
  clear hB2 hb
  go_wp2_with fail
  refine (rmnemonic_any op _ (by omega) (by omega)).mono ?_
  rintro e w4 ⟨rfl, hb⟩
  have hB4 := on hB3 hb
  clear hB3 hb
  go_wp2_with fail
  refine (isbranch_any op _).mono ?_
  rintro e w5 ⟨rfl, rfl⟩
  rw [show brB op = false from decide_eq_false (by omega)]
  go_wp2_with fail
  refine (transfers_any op _).mono ?_
  rintro e w5 ⟨rfl, rfl⟩
  rw [show trB op = false from decide_eq_false (by omega)]
  go_wp2_with fail
  all_goals
    go_ret
    exact ⟨ret_bool (by first | exact last_ne (by omega) g0 (by assumption) (by assumption) | exact last_empty (by assumption) | simp), hB4⟩

set_option maxRecDepth 100000 in
set_option maxHeartbeats 4000000 in
theorem names_m25 (op ot : Int) (w : World) (h : 24 < op) (h2 : op < 26) (g0 : 0 ≤ ot) (g1 : ot ≤ 255) :
    Calls Try.prog 9 #[.int .u8 op, .int .u8 ot] w fun e w' => e = .returned (.bool true) ∧ Below w.heap.size w w' := by
  have e19 : (op == 19) = false := beq_eq_false_iff_ne.2 (by omega)
  have e20 : (op == 20) = false := beq_eq_false_iff_ne.2 (by omega)
  have e21 : (op == 21) = false := beq_eq_false_iff_ne.2 (by omega)
  have e22 : (op == 22) = false := beq_eq_false_iff_ne.2 (by omega)
  have e23 : (op == 23) = false := beq_eq_false_iff_ne.2 (by omega)
  have e24 : (op == 24) = false := beq_eq_false_iff_ne.2 (by omega)
  go_enter Try.func9, Try.ntmps9
  go_wp2_with fail
  refine (awake4 _).mono ?_
  rintro e w1 ⟨rfl, hB1⟩
  go_wp2_with fail
  refine (mnemonic_any op _ (by omega) (by omega)).mono ?_
  rintro e w2 ⟨rfl, hb⟩
  have hB2 := on hB1 hb
  clear hB1 hb
  go_wp2_with fail
  refine (mnemonic_any ot _ (by omega) (by omega)).mono ?_
  rintro e w3 ⟨rfl, hb⟩
  have hB3 := on hB2 hb
  clear hB2 hb
  go_wp2_with fail
  refine (rmnemonic_any op _ (by omega) (by omega)).mono ?_
  rintro e w4 ⟨rfl, hb⟩
  have hB4 := on hB3 hb
  clear hB3 hb
  go_wp2_with fail
  refine (isbranch_any op _).mono ?_
  rintro e w5 ⟨rfl, rfl⟩
  rw [show brB op = false from decide_eq_false (by omega)]
  go_wp2_with fail
  refine (transfers_any op _).mono ?_
  rintro e w5 ⟨rfl, rfl⟩
  rw [show trB op = false from decide_eq_false (by omega)]
  go_wp2_with fail
  all_goals
    go_ret
    exact ⟨ret_bool (by first | exact last_ne (by omega) g0 (by assumption) (by assumption) | exact last_empty (by assumption) | simp), hB4⟩

set_option maxRecDepth 100000 in
set_option maxHeartbeats 4000000 in
theorem names_m19 (ot : Int) (w : World) (g0 : 0 ≤ ot) (g1 : ot ≤ 255) :
    Calls Try.prog 9 #[.int .u8 19, .int .u8 ot] w fun e w' => e = .returned (.bool true) ∧ Below w.heap.size w w' := by
  go_enter Try.func9, Try.ntmps9
  go_wp2_with fail
  refine (awake4 _).mono ?_
  rintro e w1 ⟨rfl, hB1⟩
  go_wp2_with fail
  refine (mnemonic_any 19 _ (by omega) (by omega)).mono ?_
  rintro e w2 ⟨rfl, hb⟩
  have hB2 := on hB1 hb
  clear hB1 hb
  go_wp2_with fail
  refine (mnemonic_any ot _ (by omega) (by omega)).mono ?_
  rintro e w3 ⟨rfl, hb⟩
  have hB3 := on hB2 hb
  clear hB2 hb
  go_wp2_with fail
  refine (rmnemonic_any 19 _ (by omega) (by omega)).mono ?_
  rintro e w4 ⟨rfl, hb⟩
  have hB4 := on hB3 hb
  clear hB3 hb
  go_wp2_with fail
  refine (isbranch_any 19 _).mono ?_
  rintro e w5 ⟨rfl, rfl⟩
  rw [show brB 19 = false from decide_eq_false (by omega)]
  go_wp2_with fail
  refine (transfers_any 19 _).mono ?_
  rintro e w5 ⟨rfl, rfl⟩
  rw [show trB 19 = true from decide_eq_true (by omega)]
  go_wp2_with fail
  all_goals
    go_ret
    exact ⟨ret_bool (by first | exact last_ne (by omega) g0 (by assumption) (by assumption) | exact last_empty (by assumption) | simp), hB4⟩

set_option maxRecDepth 100000 in
set_option maxHeartbeats 4000000 in
theorem names_m20 (ot : Int) (w : World) (g0 : 0 ≤ ot) (g1 : ot ≤ 255) :
    Calls Try.prog 9 #[.int .u8 20, .int .u8 ot] w fun e w' => e = .returned (.bool true) ∧ Below w.heap.size w w' := by
  go_enter Try.func9, Try.ntmps9
  go_wp2_with fail
  refine (awake4 _).mono ?_
  rintro e w1 ⟨rfl, hB1⟩
  go_wp2_with fail
  refine (mnemonic_any 20 _ (by omega) (by omega)).mono ?_
  rintro e w2 ⟨rfl, hb⟩
  have hB2 := on hB1 hb
  clear hB1 hb
  go_wp2_with fail
  refine (mnemonic_any ot _ (by omega) (by omega)).mono ?_
  rintro e w3 ⟨rfl, hb⟩
  have hB3 := on hB2 hb
  clear hB2 hb
  go_wp2_with fail
  refine (rmnemonic_any 20 _ (by omega) (by omega)).mono ?_
  rintro e w4 ⟨rfl, hb⟩
  have hB4 := on hB3 hb
  clear hB3 hb
  go_wp2_with fail
  refine (isbranch_any 20 _).mono ?_
  rintro e w5 ⟨rfl, rfl⟩
  rw [show brB 20 = false from decide_eq_false (by omega)]
  go_wp2_with fail
  refine (transfers_any 20 _).mono ?_
  rintro e w5 ⟨rfl, rfl⟩
  rw [show trB 20 = true from decide_eq_true (by omega)]
  go_wp2_with fail
  all_goals
    go_ret
    exact ⟨ret_bool (by first | exact last_ne (by omega) g0 (by assumption) (by assumption) | exact last_empty (by assumption) | simp), hB4⟩

set_option maxRecDepth 100000 in
set_option maxHeartbeats 4000000 in
theorem names_m21 (ot : Int) (w : World) (g0 : 0 ≤ ot) (g1 : ot ≤ 255) :
    Calls Try.prog 9 #[.int .u8 21, .int .u8 ot] w fun e w' => e = .returned (.bool true) ∧ Below w.heap.size w w' := by
  go_enter Try.func9, Try.ntmps9
  go_wp2_with fail
  refine (awake4 _).mono ?_
  rintro e w1 ⟨rfl, hB1⟩
  go_wp2_with fail
  refine (mnemonic_any 21 _ (by omega) (by omega)).mono ?_
  rintro e w2 ⟨rfl, hb⟩
  have hB2 := on hB1 hb
  clear hB1 hb
  go_wp2_with fail
  refine (mnemonic_any ot _ (by omega) (by omega)).mono ?_
  rintro e w3 ⟨rfl, hb⟩
  have hB3 := on hB2 hb
  clear hB2 hb
  go_wp2_with fail
  refine (rmnemonic_any 21 _ (by omega) (by omega)).mono ?_
  rintro e w4 ⟨rfl, hb⟩
  have hB4 := on hB3 hb
  clear hB3 hb
  go_wp2_with fail
  refine (isbranch_any 21 _).mono ?_
  rintro e w5 ⟨rfl, rfl⟩
  rw [show brB 21 = false from decide_eq_false (by omega)]
  go_wp2_with fail
  refine (transfers_any 21 _).mono ?_
  rintro e w5 ⟨rfl, rfl⟩
  rw [show trB 21 = true from decide_eq_true (by omega)]
  go_wp2_with fail
  all_goals
    go_ret
    exact ⟨ret_bool (by first | exact last_ne (by omega) g0 (by assumption) (by assumption) | exact last_empty (by assumption) | simp), hB4⟩

set_option maxRecDepth 100000 in
set_option maxHeartbeats 4000000 in
theorem names_m22 (ot : Int) (w : World) (g0 : 0 ≤ ot) (g1 : ot ≤ 255) :
    Calls Try.prog 9 #[.int .u8 22, .int .u8 ot] w fun e w' => e = .returned (.bool true) ∧ Below w.heap.size w w' := by
  go_enter Try.func9, Try.ntmps9
  go_wp2_with fail
  refine (awake4 _).mono ?_
  rintro e w1 ⟨rfl, hB1⟩
  go_wp2_with fail
  refine (mnemonic_any 22 _ (by omega) (by omega)).mono ?_
  rintro e w2 ⟨rfl, hb⟩
  have hB2 := on hB1 hb
  clear hB1 hb
  go_wp2_with fail
  refine (mnemonic_any ot _ (by omega) (by omega)).mono ?_
  rintro e w3 ⟨rfl, hb⟩
  have hB3 := on hB2 hb
  clear hB2 hb
  go_wp2_with fail
  refine (rmnemonic_any 22 _ (by omega) (by omega)).mono ?_
  rintro e w4 ⟨rfl, hb⟩
  have hB4 := on hB3 hb
  clear hB3 hb
  go_wp2_with fail
  refine (isbranch_any 22 _).mono ?_
  rintro e w5 ⟨rfl, rfl⟩
  rw [show brB 22 = true from decide_eq_true (by omega)]
  go_wp2_with fail
  refine (transfers_any 22 _).mono ?_
  rintro e w5 ⟨rfl, rfl⟩
  rw [show trB 22 = false from decide_eq_false (by omega)]
  go_wp2_with fail
  all_goals
    go_ret
    exact ⟨ret_bool (by first | exact last_ne (by omega) g0 (by assumption) (by assumption) | exact last_empty (by assumption) | simp), hB4⟩

set_option maxRecDepth 100000 in
set_option maxHeartbeats 4000000 in
theorem names_m23 (ot : Int) (w : World) (g0 : 0 ≤ ot) (g1 : ot ≤ 255) :
    Calls Try.prog 9 #[.int .u8 23, .int .u8 ot] w fun e w' => e = .returned (.bool true) ∧ Below w.heap.size w w' := by
  go_enter Try.func9, Try.ntmps9
  go_wp2_with fail
  refine (awake4 _).mono ?_
  rintro e w1 ⟨rfl, hB1⟩
  go_wp2_with fail
  refine (mnemonic_any 23 _ (by omega) (by omega)).mono ?_
  rintro e w2 ⟨rfl, hb⟩
  have hB2 := on hB1 hb
  clear hB1 hb
  go_wp2_with fail
  refine (mnemonic_any ot _ (by omega) (by omega)).mono ?_
  rintro e w3 ⟨rfl, hb⟩
  have hB3 := on hB2 hb
  clear hB2 hb
  go_wp2_with fail
  refine (rmnemonic_any 23 _ (by omega) (by omega)).mono ?_
  rintro e w4 ⟨rfl, hb⟩
  have hB4 := on hB3 hb
  clear hB3 hb
  go_wp2_with fail
  refine (isbranch_any 23 _).mono ?_
  rintro e w5 ⟨rfl, rfl⟩
  rw [show brB 23 = true from decide_eq_true (by omega)]
  go_wp2_with fail
  refine (transfers_any 23 _).mono ?_
  rintro e w5 ⟨rfl, rfl⟩
  rw [show trB 23 = false from decide_eq_false (by omega)]
  go_wp2_with fail
  all_goals
    go_ret
    exact ⟨ret_bool (by first | exact last_ne (by omega) g0 (by assumption) (by assumption) | exact last_empty (by assumption) | simp), hB4⟩

set_option maxRecDepth 100000 in
set_option maxHeartbeats 4000000 in
theorem names_m24 (ot : Int) (w : World) (g0 : 0 ≤ ot) (g1 : ot ≤ 255) :
    Calls Try.prog 9 #[.int .u8 24, .int .u8 ot] w fun e w' => e = .returned (.bool true) ∧ Below w.heap.size w w' := by
  go_enter Try.func9, Try.ntmps9
  go_wp2_with fail
  refine (awake4 _).mono ?_
  rintro e w1 ⟨rfl, hB1⟩
  go_wp2_with fail
  refine (mnemonic_any 24 _ (by omega) (by omega)).mono ?_
  rintro e w2 ⟨rfl, hb⟩
  have hB2 := on hB1 hb
  clear hB1 hb
  go_wp2_with fail
  refine (mnemonic_any ot _ (by omega) (by omega)).mono ?_
  rintro e w3 ⟨rfl, hb⟩
  have hB3 := on hB2 hb
  clear hB2 hb
  go_wp2_with fail
  refine (rmnemonic_any 24 _ (by omega) (by omega)).mono ?_
  rintro e w4 ⟨rfl, hb⟩
  have hB4 := on hB3 hb
  clear hB3 hb
  go_wp2_with fail
  refine (isbranch_any 24 _).mono ?_
  rintro e w5 ⟨rfl, rfl⟩
  rw [show brB 24 = true from decide_eq_true (by omega)]
  go_wp2_with fail
  refine (transfers_any 24 _).mono ?_
  rintro e w5 ⟨rfl, rfl⟩
  rw [show trB 24 = false from decide_eq_false (by omega)]
  go_wp2_with fail
  all_goals
    go_ret
    exact ⟨ret_bool (by first | exact last_ne (by omega) g0 (by assumption) (by assumption) | exact last_empty (by assumption) | simp), hB4⟩

set_option maxRecDepth 100000 in
set_option maxHeartbeats 4000000 in
theorem names_hi (op ot : Int) (w : World) (h0 : 0 ≤ op) (h : 26 ≤ op) (h2 : op ≤ 29) (g0 : 0 ≤ ot) (g1 : ot ≤ 255) :
    Calls Try.prog 9 #[.int .u8 op, .int .u8 ot] w fun e w' => e = .returned (.bool true) ∧ Below w.heap.size w w' := by
  have e19 : (op == 19) = false := beq_eq_false_iff_ne.2 (by omega)
  have e20 : (op == 20) = false := beq_eq_false_iff_ne.2 (by omega)
  have e21 : (op == 21) = false := beq_eq_false_iff_ne.2 (by omega)
  have e22 : (op == 22) = false := beq_eq_false_iff_ne.2 (by omega)
  have e23 : (op == 23) = false := beq_eq_false_iff_ne.2 (by omega)
  have e24 : (op == 24) = false := beq_eq_false_iff_ne.2 (by omega)
  go_enter Try.func9, Try.ntmps9
  go_wp2_with fail
  refine (awake4 _).mono ?_
  rintro e w1 ⟨rfl, hB1⟩
  go_wp2_with fail
  refine (mnemonic_any op _ (by omega) (by omega)).mono ?_
  rintro e w2 ⟨rfl, hb⟩
  have hB2 := on hB1 hb
  clear hB1 hb
  go_wp2_with fail
  refine (mnemonic_any ot _ (by omega) (by omega)).mono ?_
  rintro e w3 ⟨rfl, hb⟩
  have hB3 := on hB2 hb
  clear hB2 hb
  go_wp2_with fail
  refine (rmnemonic_any op _ (by omega) (by omega)).mono ?_
  rintro e w4 ⟨rfl, hb⟩
  have hB4 := on hB3 hb
  clear hB3 hb
  go_wp2_with fail
  refine (isbranch_any op _).mono ?_
  rintro e w5 ⟨rfl, rfl⟩
  rw [show brB op = false from decide_eq_false (by omega)]
  go_wp2_with fail
  refine (transfers_any op _).mono ?_
  rintro e w5 ⟨rfl, rfl⟩
  rw [show trB op = true from decide_eq_true (by omega)]
  go_wp2_with fail
  all_goals
    go_ret
    exact ⟨ret_bool (by first | exact last_ne (by omega) g0 (by assumption) (by assumption) | exact last_empty (by assumption) | simp), hB4⟩

set_option maxRecDepth 100000 in
set_option maxHeartbeats 4000000 in
theorem names_out (op ot : Int) (w : World) (h0 : 0 ≤ op) (h : 30 ≤ op) (h2 : op ≤ 255) (g0 : 0 ≤ ot) (g1 : ot ≤ 255) :
    Calls Try.prog 9 #[.int .u8 op, .int .u8 ot] w fun e w' => e = .returned (.bool true) ∧ Below w.heap.size w w' := by
  have e19 : (op == 19) = false := beq_eq_false_iff_ne.2 (by omega)
  have e20 : (op == 20) = false := beq_eq_false_iff_ne.2 (by omega)
  have e21 : (op == 21) = false := beq_eq_false_iff_ne.2 (by omega)
  have e22 : (op == 22) = false := beq_eq_false_iff_ne.2 (by omega)
  have e23 : (op == 23) = false := beq_eq_false_iff_ne.2 (by omega)
  have e24 : (op == 24) = false := beq_eq_false_iff_ne.2 (by omega)
  have e29 : decide (op ≤ 29) = false := decide_eq_false (by omega)
  go_enter Try.func9, Try.ntmps9
  go_wp2_with fail
  refine (awake4 _).mono ?_
  rintro e w1 ⟨rfl, hB1⟩
  go_wp2_with fail
  refine (mnemonic_any op _ (by omega) (by omega)).mono ?_
  rintro e w2 ⟨rfl, hb⟩
  have hB2 := on hB1 hb
  clear hB1 hb
  go_wp2_with fail
  refine (mnemonic_any ot _ (by omega) (by omega)).mono ?_
  rintro e w3 ⟨rfl, hb⟩
  have hB3 := on hB2 hb
  clear hB2 hb
  go_wp2_with fail
  refine (rmnemonic_any op _ (by omega) (by omega)).mono ?_
  rintro e w4 ⟨rfl, hb⟩
  have hB4 := on hB3 hb
  clear hB3 hb
  go_wp2_with fail
  refine (isbranch_any op _).mono ?_
  rintro e w5 ⟨rfl, rfl⟩
  rw [show brB op = false from decide_eq_false (by omega)]
  go_wp2_with fail
  refine (transfers_any op _).mono ?_
  rintro e w5 ⟨rfl, rfl⟩
  rw [show trB op = false from decide_eq_false (by omega)]
  go_wp2_with fail
  all_goals
    go_ret
    exact ⟨ret_bool (by first | exact last_ne (by omega) g0 (by assumption) (by assumption) | exact last_empty (by assumption) | simp), hB4⟩

theorem walk_IsaNames (op ot : Int) (w : World) (h0 : 0 ≤ op) (h1 : op ≤ 255) (g0 : 0 ≤ ot) (g1 : ot ≤ 255) :
    Calls Try.prog 9 #[.int .u8 op, .int .u8 ot] w fun e w' => e = .returned (.bool true) ∧ Below w.heap.size w w' := by
  rcases op_class op with h | rfl | rfl | rfl | rfl | rfl | rfl | rfl | ⟨h, h2⟩ | h
  · exact names_low op ot w h0 h g0 g1
  · exact names_m19 ot w g0 g1
  · exact names_m20 ot w g0 g1
  · exact names_m21 ot w g0 g1
  · exact names_m22 ot w g0 g1
  · exact names_m23 ot w g0 g1
  · exact names_m24 ot w g0 g1
  · exact names_m25 25 ot w (by omega) (by omega) g0 g1
  · exact names_hi op ot w h0 h h2 g0 g1
  · exact names_out op ot w h0 h h1 g0 g1
end Go.Proofs.Ytchmhnodcjidkaa
