/- JournalForgets: the undo functions, and the state that they restore. -/
import Derived.Test.YtekddnnclbnagaaJj
namespace Go.Proofs.Ytekddnnclbnagaa
set_option linter.unusedSimpArgs false
set_option linter.unusedVariables false
open Go.RowKit

/-- The undo functions over the index variables in the blocks xs. -/
def fns (f vb : Nat) (xs : List Nat) : List Value := xs.map fun x => .func (.func f) #[] #[.pointer (some ⟨vb, 0, none⟩), .pointer (some ⟨x, 0, none⟩)]

/-- A row of k numbers: g j at place j. -/
def row (k : Nat) (g : Nat → Int) : Array Value := ((List.range k).map fun j => Value.int .i64 (g j)).toArray

theorem row_get {k : Nat} {g : Nat → Int} {j : Nat} (h : j < k) : (row k g)[j]? = some (.int .i64 (g j)) := by simp [row, h]
theorem row_set {k : Nat} {g : Nat → Int} {i : Nat} (y : Int) : (row k g).setIfInBounds i (.int .i64 y) = row k (fun j => if j = i then y else g j) := by
  apply Array.ext_getElem?
  intro j
  simp only [row, Array.getElem?_setIfInBounds, List.size_toArray, List.length_map, List.length_range, List.getElem?_toArray, List.getElem?_map]
  by_cases hj : j < k
  · by_cases hi : i = j
    · subst hi; simp [hj]
    · have : ¬ j = i := fun e => hi e.symm
      simp [hi, this, hj]
  · by_cases hi : i = j
    · subst hi; simp [hj]
    · simp [hi, hj]
theorem row_congr {k : Nat} {g g' : Nat → Int} (h : ∀ j, j < k → g j = g' j) : row k g = row k g' := by
  unfold row; congr 1; apply List.map_congr_left; intro j hj; rw [h j (by simpa using hj)]

/-- The list variable in vb, its row in lb, the index variables in xs. -/
def LG (vb lb : Nat) (xs : List Nat) (_ : World) (q : Nat) : Prop := q = vb ∨ q = lb ∨ q ∈ xs

structure LV (vb lb k : Nat) (xs : List Nat) (g : Nat → Int) (w : World) : Prop where
  var : VarAt vb (.slice (some ⟨lb, 0, none⟩) k k) 30 w
  row : w.heap[lb]? = some (.cells (row k g) 3 (0, 0))
  idx : ∀ (i x : Nat), xs[i]? = some x → VarAt x (.int .i64 i) 3 w
  out : lb ∉ xs

theorem lv_framed (vb lb k : Nat) (xs : List Nat) (g : Nat → Int) : Framed (LV vb lb k xs g) (LG vb lb xs) := by
  refine ⟨fun w q h hq => ?_, fun w w' h hk => ⟨⟨(hk vb (.inl rfl)).trans h.var, (hk lb (.inr (.inl rfl))).trans h.row, fun i x hx => (hk x (.inr (.inr (List.mem_of_getElem? hx)))).trans (h.idx i x hx), h.out⟩, fun _ h => h⟩⟩
  rcases hq with rfl | rfl | hq
  · exact heap_lt h.var
  · exact heap_lt h.row
  · obtain ⟨i, hi⟩ := List.getElem?_of_mem hq
    exact heap_lt (h.idx i q hi)

theorem lv_apart (vb lb k : Nat) (xs : List Nat) (g : Nat → Int) : Apart (LV vb lb k xs g) (LG vb lb xs) := by
  rintro w q h (rfl | rfl | hq)
  · exact ⟨_, _, _, h.var, by decide, by decide⟩
  · exact ⟨_, _, _, h.row, by decide, by decide⟩
  · obtain ⟨i, hi⟩ := List.getElem?_of_mem hq
    exact ⟨_, _, _, h.idx i q hi, by decide, by decide⟩

/-- A store into the row. -/
theorem lv_store {vb lb k : Nat} {xs : List Nat} {g : Nat → Int} {w : World} (h : LV vb lb k xs g w) (i : Nat) (y : Int) :
    LV vb lb k xs (fun j => if j = i then y else g j) (w.setCell ⟨lb, i, none⟩ (.int .i64 y)) := by
  have hv : vb ≠ lb := by rintro rfl; have := h.var.symm.trans h.row; simp at this
  exact ⟨setCell_heap_ne h.var hv _, by rw [setCell_heap h.row, row_set], fun j x hx => setCell_heap_ne (h.idx j x hx) (by rintro rfl; exact h.out (List.mem_of_getElem? hx)) _, h.out⟩

theorem lv_step {B jb vb lb k : Nat} {us : List Value} {bz : Bool} {xs : List Nat} {g : Nat → Int} {w : World} (hJ : JAt B jb us bz w) (h : LV vb lb k xs g w) (i : Nat) (y : Int) :
    JAt B jb us bz (w.setCell ⟨lb, i, none⟩ (.int .i64 y)) ∧ Dyn (U jb (LG vb lb xs)) w (w.setCell ⟨lb, i, none⟩ (.int .i64 y)) := by
  have hn : ¬ JF jb w lb := jf_type hJ h.row (by decide) (by decide)
  have hs : ∀ q, JF jb w q → (w.setCell ⟨lb, i, none⟩ (.int .i64 y)).heap[q]? = w.heap[q]? := fun q hq => Below.heap_setCell _ _ _ _ (by rintro rfl; exact hn hq)
  have hf := (jat_framed B jb us bz).fr w _ hJ hs
  exact ⟨hf.1, Dyn.store (.inr (.inr (.inl rfl))) (fun q hq => hq.imp (hf.2 q) id)⟩

theorem undo35 (vb xb lb i k : Nat) (w : World) (h1 : w.cell? ⟨vb, 0, none⟩ = some (.slice (some ⟨lb, 0, none⟩) k k)) (h2 : w.cell? ⟨xb, 0, none⟩ = some (.int .i64 i)) (hi : i < k) (hk : k < 100)
    (v : Value) (h3 : w.cell? ⟨lb, i, none⟩ = some v) (h4 : w.frozen? ⟨lb, i, none⟩ = false) :
    Calls Try.prog 35 #[.pointer (some ⟨vb, 0, none⟩), .pointer (some ⟨xb, 0, none⟩)] w fun e w' => e = .returned (.tuple #[]) ∧ w.setCell ⟨lb, i, none⟩ (.int .i64 0) = w' := by
  go_enter Try.func35, Try.ntmps35
  go_wp2
  go_end0
  exact ⟨rfl, rfl⟩

theorem callFunc35 (cap : Array Value) (w : World) : (callFunc 35 cap).run Try.prog w = .ok (.enter 35 cap) w := by kernel_rfl

/-- f functions recorded that count; the last ones are undone. -/
def IL (vb lb k : Nat) (xs : List Nat) (f : Nat) (us : List Value) (w : World) : Prop :=
  us.length ≤ f ∧ f ≤ k ∧ xs.length = k ∧ us = (fns 35 vb xs).take us.length ∧ LV vb lb k xs (fun j => if us.length ≤ j ∧ j < f then 0 else 1) w

theorem fns_get {f vb : Nat} {xs : List Nat} {i : Nat} {x : Nat} (h : xs[i]? = some x) : (fns f vb xs)[i]? = some (.func (.func f) #[] #[.pointer (some ⟨vb, 0, none⟩), .pointer (some ⟨x, 0, none⟩)]) := by
  simp [fns, h]

theorem il_undoes (B jb vb lb k : Nat) (xs : List Nat) (f : Nat) (hk : k < 100) : Undoes B jb (IL vb lb k xs f) (LG vb lb xs) := by
  refine ⟨fun us => ?_, fun us => ?_, fun us u w1 hJ hI => ?_⟩
  · exact ⟨fun w q h hq => (lv_framed _ _ _ _ _).inn w q h.2.2.2.2 hq, fun w w' h hq => let r := (lv_framed _ _ _ _ _).fr w w' h.2.2.2.2 hq; ⟨⟨h.1, h.2.1, h.2.2.1, h.2.2.2.1, r.1⟩, r.2⟩⟩
  · exact fun w q h hq => lv_apart _ _ _ _ _ w q h.2.2.2.2 hq
  · obtain ⟨h1, h2, h3, h4, h5⟩ := hI
    simp only [List.length_append, List.length_cons, List.length_nil, Nat.zero_add] at h1 h4 h5
    have hlt : us.length < xs.length := by omega
    have hx : xs[us.length]? = some xs[us.length] := List.getElem?_eq_getElem hlt
    have hu : u = .func (.func 35) #[] #[.pointer (some ⟨vb, 0, none⟩), .pointer (some ⟨xs[us.length], 0, none⟩)] := by
      have := congrArg (·[us.length]?) h4
      simp only [List.getElem?_take, fns_get hx] at this
      simpa using this
    have hus : us = (fns 35 vb xs).take us.length := by
      have := congrArg (List.take us.length) h4
      rw [List.take_take, Nat.min_eq_left (by omega)] at this
      simpa using this
    refine ⟨35, _, hu, callFunc35 _, ?_⟩
    refine (undo35 vb xs[us.length] lb us.length k w1 (by rw [cell_of_heap h5.var]; rfl) (by rw [cell_of_heap (h5.idx _ _ hx)]; rfl) (by omega) hk _ (by rw [cell_of_heap h5.row, row_get (by omega)]) (frozen_of_heap h5.row _)).mono ?_
    rintro e w' ⟨rfl, rfl⟩
    obtain ⟨p1, p2⟩ := lv_step hJ h5 us.length 0
    refine ⟨rfl, p1, ⟨by omega, h2, h3, hus, ?_⟩, p2⟩
    have := lv_store h5 us.length 0
    refine ⟨this.var, ?_, this.idx, this.out⟩
    rw [this.row]
    congr 2
    apply row_congr
    intro j hj
    by_cases e : j = us.length
    · subst e; rw [if_pos rfl, if_pos ⟨Nat.le_refl _, by omega⟩]
    · rw [if_neg e]
      by_cases c : us.length + 1 ≤ j ∧ j < f
      · rw [if_pos c, if_pos ⟨by omega, c.2⟩]
      · rw [if_neg c, if_neg (by omega)]

end Go.Proofs.Ytekddnnclbnagaa
