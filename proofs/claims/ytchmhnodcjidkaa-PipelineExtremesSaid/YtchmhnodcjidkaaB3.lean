/-
  Sort, Compact and DeleteFunc over a slice of the call's own that holds at most two numbers, by what the slice reads as.
-/
import Derived.Test.YtchmhnodcjidkaaB2
namespace Go.Proofs.Ytchmhnodcjidkaa
open Go.RowKit

/-- The slice value v is the call's own (from block base on) and reads as L. -/
def OwnInts (w : World) (base : Nat) (v : Value) (L : List Int) : Prop := w.ownsRow base 3 1 v L.length (L.map (Value.int .i64))

def srt2 : List Int → List Int
  | [x, y] => if y < x then [y, x] else [x, y]
  | l => l
theorem srt2_two (x y : Int) : srt2 [x, y] = if y < x then [y, x] else [x, y] := rfl
def cmp2 : List Int → List Int
  | [x, y] => if y = x then [x] else [x, y]
  | l => l
def del2 (l : List Int) : List Int := l.filter (fun x => !(x == 0))

theorem own_form {w : World} {base : Nat} {v : Value} {L : List Int} (h : OwnInts w base v L) :
    (v = .slice none 0 0 ∧ L = []) ∨ ∃ g cap cur, v = .slice (some ⟨g, 0, none⟩) L.length cap ∧ base ≤ g ∧ Holds w g 3 cur ∧ L.length ≤ cap ∧ cap ≤ maxLen ∧ cur.size = cap ∧ ∀ j, j < L.length → cur[j]? = some (.int .i64 (L.getD j 0)) := by
  obtain ⟨h1, h2⟩ := h
  rcases h2 with ⟨h3, h4⟩ | ⟨g, cap, cur, hv, hb, hh, hn, hm, hs, ht⟩
  · exact .inl ⟨h3, List.eq_nil_of_length_eq_zero h4⟩
  · refine .inr ⟨g, cap, cur, hv, hb, hh, hn, hm, by simpa using hs, fun j hj => ?_⟩
    have e : (cur.toList.take (L.length * 1))[j]? = (L.map (Value.int .i64))[j]? := by rw [ht]
    rw [List.getElem?_take, if_pos (by omega), List.getElem?_map, List.getElem?_eq_getElem hj] at e
    rw [List.getD_eq_getElem?_getD, List.getElem?_eq_getElem hj]
    simpa using e

theorem own_mk {w : World} {base g cap : Nat} {cur : Array Value} {L : List Int} (hb : base ≤ g) (hh : Holds w g 3 cur) (hn : L.length ≤ cap) (hm : cap ≤ maxLen) (hs : cur.size = cap) (hc : ∀ j, j < L.length → cur[j]? = some (.int .i64 (L.getD j 0))) :
    OwnInts w base (.slice (some ⟨g, 0, none⟩) L.length cap) L := by
  refine ⟨by simp, .inr ⟨g, cap, cur, rfl, hb, hh, hn, hm, by simpa using hs, ?_⟩⟩
  apply List.ext_getElem?
  intro j
  rw [List.getElem?_take, List.getElem?_map]
  by_cases hj : j < L.length
  · rw [if_pos (by omega), List.getElem?_eq_getElem hj]
    have := hc j hj
    rw [List.getD_eq_getElem?_getD, List.getElem?_eq_getElem hj] at this
    simpa using this
  · rw [if_neg (by omega), List.getElem?_eq_none (by omega)]; rfl

theorem sort_own (base : Nat) (v : Value) (L : List Int) (w : World) (h : OwnInts w base v L) (hl : L.length ≤ 2) :
    Calls Try.prog 57 #[v] w fun e w' => e = .returned (.tuple #[]) ∧ OwnInts w' base v (srt2 L) ∧ w.grownBy w' v.ownBlock := by
  rcases own_form h with ⟨rfl, rfl⟩ | ⟨g, cap, cur, rfl, hb, hh, hn, hm, hs, hc⟩
  · refine (sort_0 none 0 w).mono ?_
    rintro e w' ⟨rfl, rfl⟩
    exact ⟨rfl, h, grown_refl _ _⟩
  · match L, hl, h, hc, hn with
    | [], _, h, _, _ =>
      refine (sort_0 _ cap w).mono ?_
      rintro e w' ⟨rfl, rfl⟩
      exact ⟨rfl, h, grown_refl _ _⟩
    | [x], _, h, _, _ =>
      refine (sort_1 _ cap w).mono ?_
      rintro e w' ⟨rfl, rfl⟩
      exact ⟨rfl, h, grown_refl _ _⟩
    | [x, y], _, h, hc, hn =>
      refine (sort_two g cap cur x y w hh (hc 0 (by simp)) (hc 1 (by simp))).mono ?_
      rintro e w' ⟨rfl, ⟨cs', hH, hz, h0, h1⟩, hg⟩
      refine ⟨rfl, ?_, hg⟩
      have e2 : (srt2 [x, y]).length = 2 := by rw [srt2_two]; split <;> rfl
      have := own_mk (L := srt2 [x, y]) (cap := cap) hb hH (by rw [e2]; exact hn) hm (by rw [hz, hs]) (fun j hj => by
        rw [e2] at hj
        rcases (show j = 0 ∨ j = 1 by omega) with rfl | rfl
        · rw [h0, srt2_two]; split <;> rfl
        · rw [h1, srt2_two]; split <;> rfl)
      rw [e2] at this
      exact this

theorem compact_own (base : Nat) (v : Value) (L : List Int) (w : World) (h : OwnInts w base v L) (hl : L.length ≤ 2) :
    Calls Try.prog 58 #[v] w fun e w' => ∃ v', e = .returned v' ∧ OwnInts w' base v' (cmp2 L) ∧ w.grownBy w' v.ownBlock ∧ v'.ownBlock = v.ownBlock := by
  rcases own_form h with ⟨rfl, rfl⟩ | ⟨g, cap, cur, rfl, hb, hh, hn, hm, hs, hc⟩
  · refine (compact_small none 0 0 w (by omega)).mono ?_
    rintro e w' ⟨rfl, rfl⟩
    exact ⟨_, rfl, h, grown_refl _ _, rfl⟩
  · match L, hl, h, hc, hn with
    | [], _, h, _, _ =>
      refine (compact_small _ 0 cap w (by omega)).mono ?_
      rintro e w' ⟨rfl, rfl⟩
      exact ⟨_, rfl, h, grown_refl _ _, rfl⟩
    | [x], _, h, _, _ =>
      refine (compact_small _ 1 cap w (by omega)).mono ?_
      rintro e w' ⟨rfl, rfl⟩
      exact ⟨_, rfl, h, grown_refl _ _, rfl⟩
    | [x, y], _, h, hc, hn =>
      by_cases hxy : y = x
      · subst hxy
        refine (compact_eq g cap y w hn ((hh.cell 0).trans (hc 0 (by simp))) ((hh.cell 1).trans (hc 1 (by simp))) (hh.free 1)).mono ?_
        rintro e w' ⟨rfl, n, rfl⟩
        have h2 : Holds ((w.drewN n).setCell ⟨g, 1, none⟩ (.int .i64 0)) g 3 (cur.setIfInBounds 1 (.int .i64 0)) := (hh.drewN n).put 1 _
        have e1 : cmp2 [y, y] = [y] := by simp [cmp2]
        rw [e1]
        refine ⟨_, rfl, own_mk (L := [y]) hb h2 (by simp at hn ⊢; omega) hm (by simpa using hs) (fun j hj => ?_), grown_put (grown_drewN (grown_refl _ _) _) _ _, rfl⟩
        obtain rfl : j = 0 := by simpa using hj
        have := hc 0 (by simp)
        simpa using this
      · refine (compact_ne g cap x y w ((hh.cell 0).trans (hc 0 (by simp))) ((hh.cell 1).trans (hc 1 (by simp))) (beq_eq_false_iff_ne.2 hxy)).mono ?_
        rintro e w' ⟨rfl, n, rfl⟩
        have e1 : cmp2 [x, y] = [x, y] := by simp [cmp2, hxy]
        rw [e1]
        exact ⟨_, rfl, h, grown_drewN (grown_refl _ _) _, rfl⟩

theorem del_own (base : Nat) (v : Value) (L : List Int) (w : World) (h : OwnInts w base v L) (hl : L.length ≤ 2) (ho : ∀ x y, L = [x, y] → x ≠ 0 → y ≠ 0) (hd : ∀ x y, L = [x, y] → x ≠ y) :
    Calls Try.prog 59 #[v, .func (.func 60) #[] #[]] w fun e w' => ∃ v', e = .returned v' ∧ OwnInts w' base v' (del2 L) ∧ w.grownBy w' v.ownBlock ∧ v'.ownBlock = v.ownBlock := by
  rcases own_form h with ⟨rfl, rfl⟩ | ⟨g, cap, cur, rfl, hb, hh, hn, hm, hs, hc⟩
  · refine (del_miss none 0 0 _ w (idx_nil none 0 _ w)).mono ?_
    rintro e w' ⟨rfl, rfl⟩
    exact ⟨_, rfl, h, grown_refl _ _, rfl⟩
  · match L, hl, h, hc, hn, ho, hd with
    | [], _, h, _, _, _, _ =>
      refine (del_miss _ 0 cap _ w (idx_nil _ cap _ w)).mono ?_
      rintro e w' ⟨rfl, rfl⟩
      exact ⟨_, rfl, h, grown_refl _ _, rfl⟩
    | [x], _, h, hc, hn, _, _ =>
      have c0 := (hh.cell 0).trans (hc 0 (by simp))
      by_cases hx : x = 0
      · subst hx
        refine (del_one g cap 0 w (by simpa using hn) c0 (hh.free 0) rfl).mono ?_
        rintro e w' ⟨rfl, rfl⟩
        have e1 : del2 [0] = [] := by decide
        rw [e1]
        exact ⟨_, rfl, own_mk (L := []) hb (hh.put 0 _) (by simp) hm (by simpa using hs) (fun j hj => absurd hj (by simp)), grown_put (grown_refl _ _) _ _, rfl⟩
      · refine (del_miss _ 1 cap _ w (idx_one g cap x w c0 (beq_eq_false_iff_ne.2 hx))).mono ?_
        rintro e w' ⟨rfl, rfl⟩
        have e1 : del2 [x] = [x] := by simp [del2, hx]
        rw [e1]
        exact ⟨_, rfl, h, grown_refl _ _, rfl⟩
    | [x, y], _, h, hc, hn, ho, hd =>
      have c0 := (hh.cell 0).trans (hc 0 (by simp))
      have c1 := (hh.cell 1).trans (hc 1 (by simp))
      have hne := hd x y rfl
      have hord := ho x y rfl
      have z : cur.size = cap := hs
      by_cases hx : x = 0
      · subst hx
        have hy : y ≠ 0 := fun e => hne e.symm
        refine (del_two g cap 0 y w hn c0 c1 (hh.free 0) (hh.free 1) rfl (beq_eq_false_iff_ne.2 hy)).mono ?_
        rintro e w' ⟨rfl, rfl⟩
        have e1 : del2 [0, y] = [y] := by simp [del2, hy]
        rw [e1]
        refine ⟨_, rfl, own_mk (L := [y]) hb ((hh.put 0 _).put 1 _) (by simp at hn ⊢; omega) hm (by simpa using hs) (fun j hj => ?_), grown_put (grown_put (grown_refl _ _) _ _) _ _, rfl⟩
        obtain rfl : j = 0 := by simpa using hj
        have : 0 < cur.size := by simp at hn; omega
        simp [this]
      · have hy := hord hx
        refine (del_miss _ 2 cap _ w (idx_two g cap x y w c0 c1 (beq_eq_false_iff_ne.2 hx) (beq_eq_false_iff_ne.2 hy))).mono ?_
        rintro e w' ⟨rfl, rfl⟩
        have e1 : del2 [x, y] = [x, y] := by simp [del2, hx, hy]
        rw [e1]
        exact ⟨_, rfl, h, grown_refl _ _, rfl⟩
end Go.Proofs.Ytchmhnodcjidkaa
