/- The journal's state in memory, and Record. -/
import Derived.Test.YtekddnnclbnagaaDy
import Derived.Test.YtekddnnclbnagaaJa
import Derived.Maps.AppendAt
namespace Go.Proofs.Ytekddnnclbnagaa
set_option linter.unusedSimpArgs false
set_option linter.unusedVariables false
open Go.RowKit

/-- The journal in block jb holds the undo functions us. -/
def JAt (B jb : Nat) (us : List Value) (busy : Bool) (w : World) : Prop :=
  B ≤ jb ∧ ∃ v, w.heap[jb]? = some (.cells #[v, .bool busy] 29 (0, 0)) ∧ w.ownsRow B 1 1 v us.length us

/-- The journal's own blocks. -/
def JF (jb : Nat) (w : World) (k : Nat) : Prop := k = jb ∨ ∃ v b, w.heap[jb]? = some (.cells #[v, b] 29 (0, 0)) ∧ v.ownBlock = some k

theorem jf_of {jb : Nat} {w : World} {v b : Value} (h : w.heap[jb]? = some (.cells #[v, b] 29 (0, 0))) (k : Nat) : JF jb w k ↔ k = jb ∨ v.ownBlock = some k := by
  constructor
  · rintro (h1 | ⟨v', b', h1, h2⟩)
    · exact .inl h1
    · rw [h] at h1; simp at h1; rw [← h1.1] at h2; exact .inr h2
  · rintro (h1 | h1)
    · exact .inl h1
    · exact .inr ⟨v, b, h, h1⟩

theorem jat_framed (B jb : Nat) (us : List Value) (busy : Bool) : Framed (JAt B jb us busy) (JF jb) := by
  constructor
  · rintro w k ⟨hB, v, hj, hown⟩ hk
    rcases (jf_of hj k).1 hk with rfl | hk
    · exact heap_lt hj
    · exact (hown.lt k hk).2
  · rintro w w' ⟨hB, v, hj, hown⟩ hk
    have hj' : w'.heap[jb]? = some (.cells #[v, .bool busy] 29 (0, 0)) := (hk jb (.inl rfl)).trans hj
    refine ⟨⟨hB, v, hj', ownsRow_same hown (fun k hv => hk k ((jf_of hj k).2 (.inr hv)))⟩, fun k h => ?_⟩
    exact (jf_of hj k).2 ((jf_of hj' k).1 h)

theorem jf_base {B jb : Nat} {us : List Value} {busy : Bool} {w : World} (h : JAt B jb us busy w) (k : Nat) (hk : JF jb w k) : B ≤ k := by
  obtain ⟨hB, v, hj, hown⟩ := h
  rcases (jf_of hj k).1 hk with rfl | hk
  · exact hB
  · exact (hown.lt k hk).1

/-- The journal's blocks hold nothing of another type. -/
theorem jf_type {B jb : Nat} {us : List Value} {busy : Bool} {w : World} (h : JAt B jb us busy w) {k : Nat} {c : Array Value} {e : TypeId} {f : Nat × Nat} (hk : w.heap[k]? = some (.cells c e f)) (h1 : e ≠ 1) (h2 : e ≠ 29) : ¬ JF jb w k := by
  obtain ⟨hB, v, hj, hown⟩ := h
  intro hf
  rcases (jf_of hj k).1 hf with rfl | hf
  · rw [hj] at hk; simp at hk; exact h2 hk.2.1.symm
  · exact own_ne hk hown h1 hf.symm

theorem Try.info1 : (Try.prog.info? 1).map (fun i => (i.zero, i.size, i.bytes)) = some (some .nilFunc, 1, 8) := by kernel_rfl

theorem fneq (fn : Fn) (first cap : Array Value) (w : World) : (binOp .neq 1 (.func fn first cap) .nilFunc).run Try.prog w = .ok (.bool true) w := by kernel_rfl
theorem feql (fn : Fn) (first cap : Array Value) (w : World) : (binOp .eql 1 (.func fn first cap) .nilFunc).run Try.prog w = .ok (.bool false) w := by kernel_rfl
theorem fneq0 (w : World) : (binOp .neq 1 .nilFunc .nilFunc).run Try.prog w = .ok (.bool false) w := by kernel_rfl
theorem feql0 (w : World) : (binOp .eql 1 .nilFunc .nilFunc).run Try.prog w = .ok (.bool true) w := by kernel_rfl

/-- The journal's two cells are written anew. -/
theorem jat_step {jb : Nat} {w w2 : World} {v v' : Value} {b b' : Value} (hj : w.heap[jb]? = some (.cells #[v, b] 29 (0, 0)))
    (os : w2.os = w.os) (tape : w2.tape = w.tape) (output : w2.output = w.output) (size : w.heap.size ≤ w2.heap.size)
    (hblock : ∀ k, k < w.heap.size → some k ≠ v.ownBlock → k ≠ jb → w2.heap[k]? = w.heap[k]?)
    (hj2 : w2.heap[jb]? = some (.cells #[v', b'] 29 (0, 0)))
    (hv' : v'.ownBlock = v.ownBlock ∨ ∀ k, v'.ownBlock = some k → w.heap.size ≤ k) : Dyn (JF jb) w w2 := by
  refine ⟨os, tape, output, size, fun k hk hn => ?_, fun k hk hf => ?_⟩
  · rw [jf_of hj] at hn
    exact hblock k hk (fun e => hn (.inr e.symm)) (fun e => hn (.inl e))
  · rw [jf_of hj2] at hf
    rw [jf_of hj]
    rcases hf with hf | hf
    · exact .inl hf
    · rcases hv' with e | e
      · exact .inr (e ▸ hf)
      · exact absurd hk (by have := e k hf; omega)

set_option maxHeartbeats 400000 in
theorem record_any (B jb : Nat) (fn : Fn) (first cap : Array Value) (w : World) (us : List Value) (h : JAt B jb us false w) (hlen : us.length < 100000) :
    Calls Try.prog 19 #[.pointer (some ⟨jb, 0, none⟩), .func fn first cap] w fun e w' => e = .returned (.tuple #[]) ∧ JAt B jb (us ++ [.func fn first cap]) false w' ∧ Dyn (JF jb) w w' := by
  obtain ⟨hB, v, hj, hown⟩ := h
  have hc0 : w.cell? ⟨jb, 0, none⟩ = some v := by rw [cell_of_heap hj]; rfl
  have hc1 : w.cell? ⟨jb, 1, none⟩ = some (.bool false) := by rw [cell_of_heap hj]; rfl
  have hz0 := frozen_of_heap hj 0
  obtain ⟨i0, hi, hi0, hi1, hi2⟩ := info_parts Try.info1
  have HJ := Lib.hid hj
  have hsz : jb < w.heap.size := heap_lt hj
  clear hj
  have fq := fneq fn first cap
  go_enter Try.func19, Try.ntmps19
  go_wp2_with (at_builtin; go_must (refine wpList_append_own_at _ rfl _ _ 27 rfl B 1 i0 .nilFunc 1 8 Try.underlying27 hi hi0 hi1 hi2 rfl (by decide) _ _ _ rfl (hown.alloc _) ⟨w.heap.size, 0, none⟩ 1 1 [.func fn first cap] rfl rfl ?c1 ?c2 ?c3 ?c4 ?c5 ?_))
  case c1 => exact cell_one_new _ _ _
  case c2 => simp [Value.oneCell']
  case c3 => unfold maxLen; omega
  case c4 => omega
  case c5 => simp; omega
  intro v' w1 hown' hgrow _ hvb
  have hj1 : w1.heap[jb]? = some (.cells #[v, .bool false] 29 (0, 0)) := by
    rw [hgrow.block jb (by simp; omega) (own_ne (alloc_heap (o' := .cells #[.func fn first cap] 1) HJ.out) (hown.alloc _) (by decide))]
    exact alloc_heap HJ.out
  have hz1 := frozen_of_heap hj1 0
  have hd0 : w1.cell? ⟨jb, 0, none⟩ = some v := by rw [cell_of_heap hj1]; rfl
  have HJ1 := Lib.hid hj1
  have HV := Lib.hid hvb
  clear hc0 hc1 hz0 hj1 hvb
  obtain ⟨g', cp', hv'⟩ : ∃ g cp, v' = .slice (some ⟨g, 0, none⟩) (us.length + 1) cp := by
    rcases hown'.2 with ⟨_, h0⟩ | ⟨g, cap, cur, rfl, _⟩
    · omega
    · exact ⟨g, cap, rfl⟩
  subst hv'
  go_wp2
  go_end0
  have hne := own_ne HJ1.out hown' (by decide)
  have hj3 : (w1.setCell ⟨jb, 0, none⟩ (.slice (some ⟨g', 0, none⟩) (us.length + 1) cp')).heap[jb]? = some (.cells #[.slice (some ⟨g', 0, none⟩) (us.length + 1) cp', .bool false] 29 (0, 0)) := by
    rw [setCell_heap HJ1.out]; rfl
  refine ⟨rfl, ⟨hB, _, hj3, ?_⟩, ?_⟩
  · simpa using ownsRow_setCell hown' (a := ⟨jb, 0, none⟩) hne (.slice (some ⟨g', 0, none⟩) (us.length + 1) cp')
  · refine jat_step HJ.out hgrow.os hgrow.tape hgrow.output ?_ ?_ hj3 ?_
    · have := hgrow.size; simp [World.setCell] at this ⊢; omega
    · intro k hk hn hnj
      rw [Below.heap_setCell _ _ _ _ (by exact hnj), hgrow.block k (by simp; omega) hn, Below.heap_alloc _ _ _ hk]
    · rcases HV.out with e | e
      · exact .inl e
      · refine .inr fun k hk => ?_
        rw [e] at hk; simp at hk; omega

theorem record_nil (p : Option Addr) (w : World) (hp : p = none ∨ ∃ jb, p = some ⟨jb, 0, none⟩) :
    Calls Try.prog 19 #[.pointer p, .nilFunc] w fun e w' => e = .returned (.tuple #[]) ∧ w = w' := by
  have q := fneq0
  rcases hp with rfl | ⟨jb, rfl⟩
  all_goals
    go_enter Try.func19, Try.ntmps19
    go_wp2
    go_end0
    exact ⟨rfl, rfl⟩

theorem record_none (v : Value) (w : World) :
    Calls Try.prog 19 #[.pointer none, v] w fun e w' => e = .returned (.tuple #[]) ∧ w = w' := by
  go_enter Try.func19, Try.ntmps19
  go_wp2
  go_end0
  exact ⟨rfl, rfl⟩

theorem JAt.cells {B jb : Nat} {w : World} {us : List Value} {b : Bool} (h : JAt B jb us b w) :
    (∃ a c, w.cell? ⟨jb, 0, none⟩ = some (.slice a us.length c)) ∧ w.cell? ⟨jb, 1, none⟩ = some (.bool b) := by
  obtain ⟨hB, v, hj, hown⟩ := h
  constructor
  · rw [cell_of_heap hj]
    rcases hown.2 with ⟨rfl, h0⟩ | ⟨g, cap, cur, rfl, hBg, hg, h1, h2, h3, h4⟩
    · exact ⟨none, 0, by simp [h0]⟩
    · exact ⟨_, cap, rfl⟩
  · rw [cell_of_heap hj]; rfl

theorem record_busy (B jb : Nat) (fn : Fn) (first cap : Array Value) (w : World) (us : List Value) (h : JAt B jb us true w) :
    Calls Try.prog 19 #[.pointer (some ⟨jb, 0, none⟩), .func fn first cap] w fun e w' => e = .returned (.tuple #[]) ∧ w = w' := by
  obtain ⟨⟨a, c, hc0⟩, hc1⟩ := h.cells
  have fq := fneq fn first cap
  go_enter Try.func19, Try.ntmps19
  go_wp2
  go_end0
  exact ⟨rfl, rfl⟩

end Go.Proofs.Ytekddnnclbnagaa
