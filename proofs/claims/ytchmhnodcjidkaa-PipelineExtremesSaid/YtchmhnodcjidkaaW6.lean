/-
  The walks of the reference's Format, reg, Valid and Encode.
-/
import Derived.Test.YtchmhnodcjidkaaW5
namespace Go.Proofs.Ytchmhnodcjidkaa
open Go.RowKit Go.Maps

def fmtS (op : Int) : ByteArray := if 2 ≤ op ∧ op ≤ 13 then ⟨#[65, 66, 67]⟩ else if op = 14 ∨ op = 22 ∨ op = 23 ∨ op = 25 ∨ op = 26 ∨ op = 27 then ⟨#[65]⟩ else if 15 ≤ op ∧ op ≤ 21 then ⟨#[65, 66]⟩ else ⟨#[]⟩
def fmtLo (op : Int) : Int := if op ≤ 13 then 1 else if op = 16 ∨ op = 17 ∨ 26 ≤ op ∧ op ≤ 29 then 0 else if op = 25 ∨ 30 ≤ op then 1 else -131072
def fmtHi (op : Int) : Int := if op ≤ 13 then 0 else if op = 16 then 31 else if op = 17 then 16383 else if op = 26 ∨ op = 27 then 7 else if op = 28 ∨ op = 29 then 3 else if 30 ≤ op then 0 else 131071
def fmtOk (op : Int) : Bool := decide (op < 30)

theorem results_four {fn : Func} {t u v x : Tmp} (h : fn.results = #[.tmp t, .tmp u, .tmp v, .tmp x]) (tmps : Array Value) (P : Program) (w : World) :
    (results fn tmps).run P w = .ok (.tuple #[tmps.getD t undef, tmps.getD u undef, tmps.getD v undef, tmps.getD x undef]) w := by simp [results, h]

def FmtPost (op : Int) (w : World) (e : Ending) (w' : World) : Prop := e = .returned (.tuple #[.string (fmtS op), .int .i64 (fmtLo op), .int .i64 (fmtHi op), .bool (fmtOk op)]) ∧ w = w'
theorem fmt_close {op : Int} {w : World} {s : ByteArray} {l h : Int} {o : Bool} (h1 : s = fmtS op) (h2 : l = fmtLo op) (h3 : h = fmtHi op) (h4 : o = fmtOk op) : FmtPost op w (.returned (.tuple #[.string s, .int .i64 l, .int .i64 h, .bool o])) w := by
  subst h1 h2 h3 h4; exact ⟨rfl, rfl⟩

set_option maxHeartbeats 1000000 in
theorem format_any (op : Int) (w : World) (h0 : 0 ≤ op) (h1 : op ≤ 255) : Calls Try.prog 54 #[.int .u8 op] w (FmtPost op w) := by
  go_enter Try.func54, Try.ntmps54
  go_wp2
  all_goals
    try simp only [beq_iff_eq, beq_eq_false_iff_ne, ne_eq] at *
    refine bodyPost_ret (results_four rfl _ _ _) rfl ?_
    refine fmt_close ?_ ?_ ?_ ?_
    · unfold fmtS
      repeat' split
      all_goals first | rfl | (exfalso; omega)
    · unfold fmtLo
      repeat' split
      all_goals first | rfl | (exfalso; omega)
    · unfold fmtHi
      repeat' split
      all_goals first | rfl | (exfalso; omega)
    · unfold fmtOk
      first
        | (show true = _; rw [eq_comm, decide_eq_true_iff]; omega)
        | (show false = _; rw [eq_comm, decide_eq_false_iff_not]; omega)

def regB (x : Int) (u : Bool) : Bool := if u = true then decide (0 ≤ x ∧ x < 16) else decide (x = 0)
set_option maxHeartbeats 400000 in
theorem reg_any (x : Int) (u : Bool) (w : World) : Calls Try.prog 55 #[.int .i64 x, .bool u] w fun e w' => e = .returned (.bool (regB x u)) ∧ w = w' := by
  cases u
  · go_enter Try.func55, Try.ntmps55
    go_wp2
    go_ret
    exact ⟨by simp [regB]; by_cases h : x = 0 <;> simp [h], rfl⟩
  · go_enter Try.func55, Try.ntmps55
    go_wp2
    all_goals go_ret
    · exact ⟨by simp [regB, *], rfl⟩
    · have h : x < 0 := by assumption
      exact ⟨by simp [regB]; omega, rfl⟩

/-- The reference's Valid. -/
def rvalidV (op a b c m : Int) : Bool :=
  fmtOk op && regB a (decide (0 < (fmtS op).size)) && regB b (decide ((1 : Int) < ((fmtS op).size : Int))) && regB c (decide ((2 : Int) < ((fmtS op).size : Int))) &&
    (if fmtHi op < fmtLo op then decide (m = 0) else decide (fmtLo op ≤ m ∧ m ≤ fmtHi op))

theorem rv_all {op a b c m : Int} (c1 : fmtOk op = true) (c2 : regB a (decide (0 < (fmtS op).size)) = true) (c3 : regB b (decide ((1 : Int) < ((fmtS op).size : Int))) = true) (c4 : regB c (decide ((2 : Int) < ((fmtS op).size : Int))) = true) :
    rvalidV op a b c m = (if fmtHi op < fmtLo op then decide (m = 0) else decide (fmtLo op ≤ m ∧ m ≤ fmtHi op)) := by
  unfold rvalidV; rw [c1, c2, c3, c4]; simp
theorem rv_no {op a b c m : Int} (h : fmtOk op = false ∨ regB a (decide (0 < (fmtS op).size)) = false ∨ regB b (decide ((1 : Int) < ((fmtS op).size : Int))) = false ∨ regB c (decide ((2 : Int) < ((fmtS op).size : Int))) = false) : rvalidV op a b c m = false := by
  unfold rvalidV; rcases h with h | h | h | h <;> rw [h] <;> simp
theorem ret_bool {x y : Bool} (h : x = y) : Ending.returned (.bool x) = Ending.returned (.bool y) := by rw [h]

set_option maxRecDepth 100000 in
set_option maxHeartbeats 1000000 in
theorem rvalid_any (op a b c m : Int) (w : World) (h0 : 0 ≤ op) (h1 : op ≤ 255) :
    Calls Try.prog 22 #[.agg #[.int .u8 op, .int .i64 a, .int .i64 b, .int .i64 c, .int .i64 m]] w fun e w' => e = .returned (.bool (rvalidV op a b c m)) ∧ Below w.heap.size w w' := by
  have hB := (Below.refl w.heap.size w).alloc (Nat.le_refl _) (.cells (insCells op a b c m) 23)
  by_cases c1 : fmtOk op = true
  · by_cases c2 : regB a (decide (0 < (fmtS op).size)) = true
    · by_cases c3 : regB b (decide ((1 : Int) < ((fmtS op).size : Int))) = true
      · by_cases c4 : regB c (decide ((2 : Int) < ((fmtS op).size : Int))) = true
        · have hR := Lib.hid (rv_all (m := m) c1 c2 c3 c4)
          go_enter Try.func22, Try.ntmps22
          go_wp2_with fail
          refine (format_any op _ h0 h1).mono ?_
          rintro e w1 ⟨rfl, rfl⟩
          go_wp2_with fail
          refine (reg_any _ _ _).mono ?_
          rintro e w1 ⟨rfl, rfl⟩
          rw [c2]
          go_wp2_with fail
          refine (reg_any _ _ _).mono ?_
          rintro e w1 ⟨rfl, rfl⟩
          rw [c3]
          go_wp2_with fail
          refine (reg_any _ _ _).mono ?_
          rintro e w1 ⟨rfl, rfl⟩
          rw [c4]
          clear c1 c2 c3 c4
          by_cases hlt : fmtHi op < fmtLo op
          · go_wp2_with fail
            go_ret
            exact ⟨ret_bool (by rw [hR.out, if_pos hlt]; rfl), hB⟩
          · go_wp2_with fail
            all_goals go_ret
            · exact ⟨ret_bool (by rw [hR.out, if_neg (by omega)]; simp [*]), hB⟩
            · exact ⟨ret_bool (by rw [hR.out, if_neg (by omega)]; show false = _; rw [eq_comm, decide_eq_false_iff_not]; omega), hB⟩
        · have c4' := (Bool.not_eq_true _).mp c4
          have hR := Lib.hid (rv_no (m := m) (a := a) (b := b) (c := c) (.inr (.inr (.inr c4'))))
          clear c4
          go_enter Try.func22, Try.ntmps22
          go_wp2_with fail
          refine (format_any op _ h0 h1).mono ?_
          rintro e w1 ⟨rfl, rfl⟩
          go_wp2_with fail
          refine (reg_any _ _ _).mono ?_
          rintro e w1 ⟨rfl, rfl⟩
          rw [c2]
          go_wp2_with fail
          refine (reg_any _ _ _).mono ?_
          rintro e w1 ⟨rfl, rfl⟩
          rw [c3]
          go_wp2_with fail
          refine (reg_any _ _ _).mono ?_
          rintro e w1 ⟨rfl, rfl⟩
          rw [c4']
          clear c1 c2 c3 c4'
          go_wp2_with fail
          go_ret
          exact ⟨ret_bool hR.out.symm, hB⟩
      · have c3' := (Bool.not_eq_true _).mp c3
        have hR := Lib.hid (rv_no (m := m) (a := a) (b := b) (c := c) (.inr (.inr (.inl c3'))))
        clear c3
        go_enter Try.func22, Try.ntmps22
        go_wp2_with fail
        refine (format_any op _ h0 h1).mono ?_
        rintro e w1 ⟨rfl, rfl⟩
        go_wp2_with fail
        refine (reg_any _ _ _).mono ?_
        rintro e w1 ⟨rfl, rfl⟩
        rw [c2]
        go_wp2_with fail
        refine (reg_any _ _ _).mono ?_
        rintro e w1 ⟨rfl, rfl⟩
        rw [c3']
        clear c1 c2 c3'
        go_wp2_with fail
        go_ret
        exact ⟨ret_bool hR.out.symm, hB⟩
    · have c2' := (Bool.not_eq_true _).mp c2
      have hR := Lib.hid (rv_no (m := m) (a := a) (b := b) (c := c) (.inr (.inl c2')))
      clear c2
      go_enter Try.func22, Try.ntmps22
      go_wp2_with fail
      refine (format_any op _ h0 h1).mono ?_
      rintro e w1 ⟨rfl, rfl⟩
      go_wp2_with fail
      refine (reg_any _ _ _).mono ?_
      rintro e w1 ⟨rfl, rfl⟩
      rw [c2']
      clear c1 c2'
      go_wp2_with fail
      go_ret
      exact ⟨ret_bool hR.out.symm, hB⟩
  · have c1' := (Bool.not_eq_true _).mp c1
    have hR := Lib.hid (rv_no (m := m) (a := a) (b := b) (c := c) (.inl c1'))
    clear c1
    go_enter Try.func22, Try.ntmps22
    go_wp2_with fail
    refine (format_any op _ h0 h1).mono ?_
    rintro e w1 ⟨rfl, rfl⟩
    go_wp2_with fail
    go_ret
    exact ⟨ret_bool hR.out.symm, hB⟩

/-- The reference's Encode. -/
def rencV (op a b c m : Int) : Int := op * 67108864 + a * 4194304 + b * 262144 + c * 16384 + (if fmtHi op < fmtLo op then 0 else if m < 0 then m + 262144 else m)
theorem ret_u32 {x y : Int} (h : x = y) : Ending.returned (.int .u32 x) = Ending.returned (.int .u32 y) := by rw [h]
set_option maxRecDepth 100000 in
set_option maxHeartbeats 1000000 in
theorem rencode_any (op a b c m : Int) (w : World) (h0 : 0 ≤ op) (h1 : op < 30) (hm0 : -131072 ≤ m) (hm1 : m ≤ 131071) (ha0 : 0 ≤ a) (ha : a ≤ 15) (hb0 : 0 ≤ b) (hb : b ≤ 15) (hc0 : 0 ≤ c) (hc : c ≤ 15) :
    Calls Try.prog 24 #[.agg #[.int .u8 op, .int .i64 a, .int .i64 b, .int .i64 c, .int .i64 m]] w fun e w' => e = .returned (.int .u32 (rencV op a b c m)) ∧ Below w.heap.size w w' := by
  have hB := (Below.refl w.heap.size w).alloc (Nat.le_refl _) (.cells (insCells op a b c m) 23)
  go_enter Try.func24, Try.ntmps24
  go_wp2_with fail
  refine (format_any op _ h0 (by omega)).mono ?_
  rintro e w1 ⟨rfl, rfl⟩
  by_cases hlt : fmtHi op < fmtLo op
  · go_wp2_with fail
    go_ret
    exact ⟨ret_u32 (by unfold rencV; rw [if_pos hlt]; simp), hB⟩
  · by_cases hm : m < 0
    · go_wp2_with fail
      go_ret
      exact ⟨ret_u32 (by unfold rencV; rw [if_neg (by omega), if_pos hm]), hB⟩
    · go_wp2_with fail
      go_ret
      exact ⟨ret_u32 (by unfold rencV; rw [if_neg (by omega), if_neg (by omega)]), hB⟩
end Go.Proofs.Ytchmhnodcjidkaa
