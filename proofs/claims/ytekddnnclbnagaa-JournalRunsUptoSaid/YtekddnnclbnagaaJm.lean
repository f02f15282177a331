/- JournalOrder: the undo functions, and the log that they write. -/
import Derived.Test.YtekddnnclbnagaaJl
namespace Go.Proofs.Ytekddnnclbnagaa
set_option linter.unusedSimpArgs false
set_option linter.unusedVariables false
open Go.RowKit

def ints (l : List Int) : List Value := l.map (Value.int .i64)

/-- The log's variable in vb, its row, the index variables in xs. -/
def OG (vb : Nat) (xs : List Nat) (w : World) (q : Nat) : Prop := q = vb ∨ q ∈ xs ∨ ∃ v, w.heap[vb]? = some (.cells #[v] 30 (0, 0)) ∧ v.ownBlock = some q

structure OV (B vb : Nat) (xs : List Nat) (logs : List Int) (w : World) : Prop where
  log : ∃ v, VarAt vb v 30 w ∧ w.ownsRow B 3 1 v logs.length (ints logs) ∧ ∀ q, v.ownBlock = some q → q ∉ xs
  idx : ∀ (i x : Nat), xs[i]? = some x → VarAt x (.int .i64 i) 3 w

theorem og_of {vb : Nat} {xs : List Nat} {w : World} {v : Value} (h : VarAt vb v 30 w) (q : Nat) : OG vb xs w q ↔ q = vb ∨ q ∈ xs ∨ v.ownBlock = some q := by
  unfold VarAt at h
  constructor
  · rintro (h1 | h1 | ⟨v', h1, h2⟩)
    · exact .inl h1
    · exact .inr (.inl h1)
    · rw [h] at h1; simp at h1; subst h1; exact .inr (.inr h2)
  · rintro (h1 | h1 | h1)
    · exact .inl h1
    · exact .inr (.inl h1)
    · exact .inr (.inr ⟨v, h, h1⟩)

theorem ov_framed (B vb : Nat) (xs : List Nat) (logs : List Int) : Framed (OV B vb xs logs) (OG vb xs) := by
  constructor
  · rintro w q ⟨⟨v, hv, ho, _⟩, hi⟩ hq
    rcases (og_of hv q).1 hq with rfl | hq | hq
    · exact heap_lt hv
    · obtain ⟨i, hx⟩ := List.getElem?_of_mem hq
      exact heap_lt (hi i q hx)
    · exact (ho.lt q hq).2
  · rintro w w' ⟨⟨v, hv, ho, hn⟩, hi⟩ hk
    have hv' : VarAt vb v 30 w' := (hk vb (.inl rfl)).trans hv
    refine ⟨⟨⟨v, hv', ownsRow_same ho (fun q hq => hk q ((og_of hv q).2 (.inr (.inr hq)))), hn⟩, fun i x hx => (hk x (.inr (.inl (List.mem_of_getElem? hx)))).trans (hi i x hx)⟩, fun q hq => ?_⟩
    exact (og_of hv q).2 ((og_of hv' q).1 hq)

theorem ov_apart (B vb : Nat) (xs : List Nat) (logs : List Int) : Apart (OV B vb xs logs) (OG vb xs) := by
  rintro w q ⟨⟨v, hv, ho, _⟩, hi⟩ hq
  rcases (og_of hv q).1 hq with rfl | hq | hq
  · exact ⟨_, _, _, hv, by decide, by decide⟩
  · obtain ⟨i, hx⟩ := List.getElem?_of_mem hq
    exact ⟨_, _, _, hi i q hx, by decide, by decide⟩
  · rcases ho.2 with ⟨rfl, _⟩ | ⟨g, cap, cur, rfl, _, hg, _⟩
    · simp [Value.ownBlock] at hq
    · simp [Value.ownBlock] at hq
      subst hq
      exact ⟨_, _, _, hg, by decide, by decide⟩

theorem ov_base {B vb : Nat} {xs : List Nat} {logs : List Int} {w : World} (h : OV B vb xs logs w) (hv : B ≤ vb) (hx : ∀ x ∈ xs, B ≤ x) (q : Nat) (hq : OG vb xs w q) : B ≤ q := by
  obtain ⟨⟨v, hv', ho, _⟩, _⟩ := h
  rcases (og_of hv' q).1 hq with rfl | hq | hq
  · exact hv
  · exact hx q hq
  · exact (ho.lt q hq).1

set_option maxHeartbeats 400000 in
theorem undo20 (B vb xb i : Nat) (xs : List Nat) (logs : List Int) (w : World) (h : OV B vb xs logs w) (hx : xs[i]? = some xb) (hB : B ≤ w.heap.size) (hl : logs.length < 1000) :
    Calls Try.prog 20 #[.pointer (some ⟨vb, 0, none⟩), .pointer (some ⟨xb, 0, none⟩)] w fun e w' => e = .returned (.tuple #[]) ∧ OV B vb xs (logs ++ [(i : Int)]) w' ∧ Dyn (OG vb xs) w w' := by
  obtain ⟨⟨v, hv, hown, hnx⟩, hidx⟩ := h
  have hc0 : w.cell? ⟨vb, 0, none⟩ = some v := by rw [cell_of_heap hv]; rfl
  have hc1 : w.cell? ⟨xb, 0, none⟩ = some (.int .i64 i) := by rw [cell_of_heap (hidx i xb hx)]; rfl
  obtain ⟨i0, hi, hi0, hi1, hi2⟩ := info_parts Try.info3
  have HV := Lib.hid hv
  have HN := Lib.hid hnx
  have HI := Lib.hid hidx
  have hsz : vb < w.heap.size := heap_lt hv
  have hvx : vb ∉ xs := by
    intro hm
    obtain ⟨j, hj⟩ := List.getElem?_of_mem hm
    have := (hidx j vb hj).symm.trans hv
    simp at this
  have HVX := Lib.hid hvx
  clear hv hnx hidx hx hvx
  have hil : (ints logs).length = logs.length := by simp [ints]
  have HIL := Lib.hid hil
  clear hil
  go_enter Try.func20, Try.ntmps20
  go_wp2_with (at_builtin; go_must (refine wpList_append_own_at _ rfl _ _ 30 rfl B 3 i0 (.int .i64 0) 1 8 Try.underlying30 hi hi0 hi1 hi2 rfl (by decide) _ _ _ rfl (hown.alloc _) ⟨w.heap.size, 0, none⟩ 1 1 [.int .i64 i] rfl rfl ?c1 ?c2 ?c3 ?c4 ?c5 ?_))
  case c1 => exact cell_one_new _ _ _
  case c2 => simp [Value.oneCell']
  case c3 => unfold maxLen; omega
  case c4 => omega
  case c5 => simp; omega
  intro v' w1 hown' hgrow _ hvb
  have hv1 : VarAt vb v 30 w1 := by
    show _ = _
    rw [hgrow.block vb (by simp; omega) (own_ne (alloc_heap (o' := .cells #[.int .i64 i] 3) HV.out) (hown.alloc _) (by decide))]
    exact alloc_heap HV.out
  have hz1 := frozen_of_heap hv1 0
  have hd0 : w1.cell? ⟨vb, 0, none⟩ = some v := by rw [cell_of_heap hv1]; rfl
  have HV1 := Lib.hid hv1
  have HB := Lib.hid hvb
  clear hc0 hc1 hv1 hvb
  obtain ⟨g', cp', hv'⟩ : ∃ g cp, v' = .slice (some ⟨g, 0, none⟩) (logs.length + 1) cp := by
    rcases hown'.2 with ⟨_, h0⟩ | ⟨g, cap, cur, rfl, _⟩
    · omega
    · exact ⟨g, cap, rfl⟩
  subst hv'
  go_wp2
  go_end0
  have hne := own_ne HV1.out hown' (by decide)
  have hv3 : VarAt vb (.slice (some ⟨g', 0, none⟩) (logs.length + 1) cp') 30 (w1.setCell ⟨vb, 0, none⟩ (.slice (some ⟨g', 0, none⟩) (logs.length + 1) cp')) := by
    show _ = _
    rw [setCell_heap HV1.out]; rfl
  have hsz1 := hgrow.size
  simp only [alloc_size] at hsz1
  have hold : ∀ q, q < w.heap.size → some q ≠ v.ownBlock → q ≠ vb → (w1.setCell ⟨vb, 0, none⟩ (.slice (some ⟨g', 0, none⟩) (logs.length + 1) cp')).heap[q]? = w.heap[q]? := by
    intro q hq hn hnv
    rw [Below.heap_setCell _ _ _ _ (by exact hnv), hgrow.block q (by simp; omega) hn, Below.heap_alloc _ _ _ hq]
  have hxin : ∀ x ∈ xs, x < w.heap.size := by
    intro x hm
    obtain ⟨j, hj⟩ := List.getElem?_of_mem hm
    exact heap_lt (HI.out j x hj)
  refine ⟨rfl, ⟨⟨_, hv3, ?_, ?_⟩, fun j x hj => ?_⟩, ⟨hgrow.os, hgrow.tape, hgrow.output, by rw [setCell_size]; omega, fun q hq hn => ?_, fun q hq hf => ?_⟩⟩
  · have := ownsRow_setCell hown' (a := ⟨vb, 0, none⟩) hne (.slice (some ⟨g', 0, none⟩) (logs.length + 1) cp')
    simpa [ints] using this
  · intro q hq
    rcases HB.out with e | e
    · rw [hq] at e; exact HN.out q e.symm
    · rw [hq] at e; simp at e; intro hm; have := hxin q hm; omega
  · have hm := List.mem_of_getElem? hj
    show _ = _
    rw [hold x (hxin x hm) (fun e => HN.out x e.symm hm) (by rintro rfl; exact HVX.out hm)]
    exact HI.out j x hj
  · rw [og_of HV.out] at hn
    exact hold q hq (fun e => hn (.inr (.inr e.symm))) (fun e => hn (.inl e))
  · rw [og_of hv3] at hf
    rw [og_of HV.out]
    rcases hf with hf | hf | hf
    · exact .inl hf
    · exact .inr (.inl hf)
    · rcases HB.out with e | e
      · exact .inr (.inr (e ▸ hf))
      · rw [hf] at e; simp at e; omega

theorem callFunc20 (cap : Array Value) (w : World) : (callFunc 20 cap).run Try.prog w = .ok (.enter 20 cap) w := by kernel_rfl

/-- The log behind the undoing of the functions from n down to m. -/
def downFrom (n m : Nat) : List Int := (List.range (n - m)).map fun (j : Nat) => (n : Int) - 1 - (j : Int)

theorem downFrom_snoc (n m : Nat) (h : m + 1 ≤ n) : downFrom n (m + 1) ++ [(m : Int)] = downFrom n m := by
  unfold downFrom
  have : n - m = (n - (m + 1)) + 1 := by omega
  rw [this, List.range_succ, List.map_append]
  congr 1
  simp; omega

theorem downFrom_length (n m : Nat) : (downFrom n m).length = n - m := by simp [downFrom]

/-- m of the n functions are left, the log holds the others, last first. -/
def IO (B vb : Nat) (xs : List Nat) (us : List Value) (w : World) : Prop :=
  us.length ≤ xs.length ∧ us = (fns 20 vb xs).take us.length ∧ OV B vb xs (downFrom xs.length us.length) w

theorem io_undoes (B jb vb : Nat) (xs : List Nat) (hk : xs.length < 100) (hBv : B ≤ vb) : Undoes B jb (IO B vb xs) (OG vb xs) := by
  refine ⟨fun us => ?_, fun us => ?_, fun us u w1 hJ hI => ?_⟩
  · refine ⟨fun w q h hq => (ov_framed _ _ _ _).inn w q h.2.2 hq, fun w w' h hq => ?_⟩
    have r := (ov_framed B vb xs _).fr w w' h.2.2 hq
    exact ⟨⟨h.1, h.2.1, r.1⟩, r.2⟩
  · exact fun w q h hq => ov_apart _ _ _ _ w q h.2.2 hq
  · obtain ⟨h1, h3, h4⟩ := hI
    simp only [List.length_append, List.length_cons, List.length_nil, Nat.zero_add] at h1 h3 h4
    have hlt : us.length < xs.length := by omega
    have hx : xs[us.length]? = some xs[us.length] := List.getElem?_eq_getElem hlt
    have hu : u = .func (.func 20) #[] #[.pointer (some ⟨vb, 0, none⟩), .pointer (some ⟨xs[us.length], 0, none⟩)] := by
      have := congrArg (·[us.length]?) h3
      simp only [List.getElem?_take, fns_get hx] at this
      simpa using this
    have hus : us = (fns 20 vb xs).take us.length := by
      have := congrArg (List.take us.length) h3
      rw [List.take_take, Nat.min_eq_left (by omega)] at this
      simpa using this
    refine ⟨20, _, hu, callFunc20 _, ?_⟩
    refine (undo20 B vb _ us.length xs _ w1 h4 hx (by obtain ⟨⟨v, hv, _⟩, _⟩ := h4; have := heap_lt hv; omega) (by rw [downFrom_length]; omega)).mono ?_
    rintro e w' ⟨rfl, h5, h6⟩
    rw [downFrom_snoc _ _ (by omega)] at h5
    obtain ⟨d, j⟩ := h6.right (jat_framed B jb us true) hJ (fun q hq hf => (ov_apart _ _ _ _).ne hJ h4 q hf hq)
    exact ⟨rfl, j, ⟨by omega, hus, h5⟩, d⟩

end Go.Proofs.Ytekddnnclbnagaa
