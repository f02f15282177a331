/- Frames by footprints that move with the world. -/
import Derived.Test.YtekddnnclbnagaaRows
import Derived.WalkKit
import Derived.WalkSpells
import Derived.WalkLawsBesides
import Derived.Lib.Hide
namespace Go.Proofs.Ytekddnnclbnagaa
set_option linter.unusedSimpArgs false
set_option linter.unusedVariables false
open Go.RowKit

/-- From w to w' the blocks of the footprint of w alone have turned; what is old in the new footprint was in the old one. -/
structure Dyn (F : World → Nat → Prop) (w w' : World) : Prop where
  os : w'.os = w.os
  tape : w'.tape = w.tape
  output : w'.output = w.output
  size : w.heap.size ≤ w'.heap.size
  block : ∀ k, k < w.heap.size → ¬ F w k → w'.heap[k]? = w.heap[k]?
  foot : ∀ k, k < w.heap.size → F w' k → F w k

/-- The footprint hangs on what its own blocks hold, and lies in memory. -/
structure Framed (X : World → Prop) (F : World → Nat → Prop) : Prop where
  inn : ∀ w k, X w → F w k → k < w.heap.size
  fr : ∀ w w', X w → (∀ k, F w k → w'.heap[k]? = w.heap[k]?) → X w' ∧ ∀ k, F w' k → F w k

theorem Dyn.refl (F : World → Nat → Prop) (w : World) : Dyn F w w := ⟨rfl, rfl, rfl, Nat.le_refl _, fun _ _ _ => rfl, fun _ _ h => h⟩

theorem Dyn.trans {F : World → Nat → Prop} {a b c : World} (h : Dyn F a b) (k : Dyn F b c) : Dyn F a c :=
  ⟨k.os.trans h.os, k.tape.trans h.tape, k.output.trans h.output, Nat.le_trans h.size k.size,
    fun i hi hk => (k.block i (Nat.lt_of_lt_of_le hi h.size) (fun hb => hk (h.foot i hi hb))).trans (h.block i hi hk),
    fun i hi hc => h.foot i hi (k.foot i (Nat.lt_of_lt_of_le hi h.size) hc)⟩

/-- A step that leaves the whole footprint as it is (and turns, of old blocks, none). -/
theorem Dyn.quiet {X : World → Prop} {F : World → Nat → Prop} (hF : Framed X F) {w w' : World} (hX : X w) (os : w'.os = w.os) (tape : w'.tape = w.tape) (output : w'.output = w.output)
    (size : w.heap.size ≤ w'.heap.size) (hb : ∀ k, k < w.heap.size → w'.heap[k]? = w.heap[k]?) : Dyn F w w' :=
  ⟨os, tape, output, size, fun k hk _ => hb k hk, fun k _ h => (hF.fr w w' hX (fun k hk => hb k (hF.inn w k hX hk))).2 k h⟩

theorem Dyn.alloc {X : World → Prop} {F : World → Nat → Prop} (hF : Framed X F) {w : World} (hX : X w) (o : Obj) : Dyn F w (w.alloc o) ∧ X (w.alloc o) :=
  ⟨Dyn.quiet hF hX rfl rfl rfl (by simp) (fun k hk => Below.heap_alloc _ _ _ hk), (hF.fr w _ hX (fun k hk => Below.heap_alloc _ _ _ (hF.inn w k hX hk))).1⟩

/-- Two footprints side by side: the first steps, the second stands still. -/
theorem Dyn.left {F G : World → Nat → Prop} {Y : World → Prop} (hG : Framed Y G) {w w' : World} (hY : Y w) (h : Dyn F w w') (hd : ∀ k, G w k → ¬ F w k) :
    Dyn (fun w k => F w k ∨ G w k) w w' ∧ Y w' := by
  have hs : ∀ k, G w k → w'.heap[k]? = w.heap[k]? := fun k hk => h.block k (hG.inn w k hY hk) (hd k hk)
  have h2 := hG.fr w w' hY hs
  exact ⟨⟨h.os, h.tape, h.output, h.size, fun k hk hn => h.block k hk (fun hf => hn (.inl hf)), fun k hk hf => hf.imp (h.foot k hk) (h2.2 k)⟩, h2.1⟩

theorem Dyn.right {F G : World → Nat → Prop} {Y : World → Prop} (hG : Framed Y G) {w w' : World} (hY : Y w) (h : Dyn F w w') (hd : ∀ k, G w k → ¬ F w k) :
    Dyn (fun w k => G w k ∨ F w k) w w' ∧ Y w' := by
  have hs : ∀ k, G w k → w'.heap[k]? = w.heap[k]? := fun k hk => h.block k (hG.inn w k hY hk) (hd k hk)
  have h2 := hG.fr w w' hY hs
  exact ⟨⟨h.os, h.tape, h.output, h.size, fun k hk hn => h.block k hk (fun hf => hn (.inr hf)), fun k hk hf => hf.imp (h2.2 k) (h.foot k hk)⟩, h2.1⟩

theorem Framed.both {X Y : World → Prop} {F G : World → Nat → Prop} (hF : Framed X F) (hG : Framed Y G) : Framed (fun w => X w ∧ Y w) (fun w k => F w k ∨ G w k) := by
  refine ⟨fun w k h hk => hk.elim (hF.inn w k h.1) (hG.inn w k h.2), fun w w' h hk => ?_⟩
  have h1 := hF.fr w w' h.1 (fun k hf => hk k (.inl hf))
  have h2 := hG.fr w w' h.2 (fun k hf => hk k (.inr hf))
  exact ⟨⟨h1.1, h2.1⟩, fun k hf => hf.imp (h1.2 k) (h2.2 k)⟩

/-- Whatever else is known of a framed thing. -/
theorem Framed.keep {X : World → Prop} {F : World → Nat → Prop} (hF : Framed X F) {w w' : World} (hX : X w) (hb : ∀ k, k < w.heap.size → w'.heap[k]? = w.heap[k]?) : X w' :=
  (hF.fr w w' hX (fun k hk => hb k (hF.inn w k hX hk))).1

theorem Dyn.below {F : World → Nat → Prop} {B : Nat} {w w' : World} (h : Dyn F w w') (hB : ∀ k, k < B → k < w.heap.size) (hF : ∀ k, F w k → B ≤ k) : Below B w w' :=
  ⟨h.os, h.tape, h.output, h.size, fun k hk => h.block k (hB k hk) (fun hf => by have := hF k hf; omega)⟩

-- SMALL FACTS ON CELLS AND BLOCKS
theorem cell_of_heap {w : World} {b : Nat} {c : Array Value} {e : TypeId} {f : Nat × Nat} (h : w.heap[b]? = some (.cells c e f)) (o : Nat) : w.cell? ⟨b, o, none⟩ = c[o]? := by
  simp [World.cell?, h]

theorem frozen_of_heap {w : World} {b : Nat} {c : Array Value} {e : TypeId} (h : w.heap[b]? = some (.cells c e (0, 0))) (o : Nat) : w.frozen? ⟨b, o, none⟩ = false := by
  simp [World.frozen?, h]

theorem heap_lt {w : World} {b : Nat} {o : Obj} (h : w.heap[b]? = some o) : b < w.heap.size := (Array.getElem?_eq_some_iff.1 h).1

theorem own_ne {B : Nat} {w : World} {b : Nat} {c : Array Value} {e e' : TypeId} {f : Nat × Nat} {size : Nat} {v : Value} {n : Nat} {xs : List Value} (hj : w.heap[b]? = some (.cells c e f)) (hown : w.ownsRow B e' size v n xs) (he : e ≠ e') : some b ≠ v.ownBlock := by
  intro heq
  rcases hown.2 with ⟨rfl, _⟩ | ⟨g, cap, cur, rfl, _, hgg, _⟩
  · simp [Value.ownBlock] at heq
  · simp [Value.ownBlock] at heq
    subst heq
    rw [hj] at hgg
    simp at hgg
    exact he hgg.2.1

theorem alloc_heap {w : World} {b : Nat} {o o' : Obj} (h : w.heap[b]? = some o) : (w.alloc o').heap[b]? = some o := by
  rw [Below.heap_alloc _ _ _ (heap_lt h), h]

theorem setCell_heap {w : World} {b i : Nat} {c : Array Value} {e : TypeId} {f : Nat × Nat} (h : w.heap[b]? = some (.cells c e f)) (u : Value) : (w.setCell ⟨b, i, none⟩ u).heap[b]? = some (.cells (c.setIfInBounds i u) e f) := by
  simp [World.setCell, Array.getElem?_modify, h]

theorem setCell_heap_ne {w : World} {b : Nat} {a : Addr} {o : Obj} (h : w.heap[b]? = some o) (hne : b ≠ a.block) (u : Value) : (w.setCell a u).heap[b]? = some o := by
  rw [Below.heap_setCell _ _ _ _ hne, h]

theorem setCell_size (w : World) (a : Addr) (u : Value) : (w.setCell a u).heap.size = w.heap.size := by simp [World.setCell]

theorem ownsRow_setCell {w : World} {B : Nat} {e : TypeId} {size : Nat} {v : Value} {n : Nat} {xs : List Value} (h : w.ownsRow B e size v n xs) {a : Addr} (ha : some a.block ≠ v.ownBlock) (u : Value) : (w.setCell a u).ownsRow B e size v n xs := by
  obtain ⟨h1, h2⟩ := h
  refine ⟨h1, ?_⟩
  rcases h2 with h2 | ⟨g, cap, cur, rfl, hg, hh, r⟩
  · exact Or.inl h2
  · exact Or.inr ⟨g, cap, cur, rfl, hg, setCell_heap_ne hh (by rintro rfl; exact ha (by simp [Value.ownBlock])) u, r⟩

/-- A row that is owned stays owned where its own block stands as it was. -/
theorem ownsRow_same {w w' : World} {B : Nat} {e : TypeId} {size : Nat} {v : Value} {n : Nat} {xs : List Value} (h : w.ownsRow B e size v n xs) (hs : ∀ k, v.ownBlock = some k → w'.heap[k]? = w.heap[k]?) : w'.ownsRow B e size v n xs := by
  obtain ⟨h1, h2⟩ := h
  refine ⟨h1, ?_⟩
  rcases h2 with h2 | ⟨g, cap, cur, rfl, hg, hh, r⟩
  · exact Or.inl h2
  · exact Or.inr ⟨g, cap, cur, rfl, hg, (hs g rfl).trans hh, r⟩

theorem setRow_none {w : World} (a : Addr) (u : Value) (k : Nat) (h : k ≠ a.block) : (w.setCell a u).heap[k]? = w.heap[k]? := Below.heap_setCell _ _ _ _ h

theorem makeFunc_run (fn : Fn) (first cap : Array Value) (w : World) : (Instr.makeFunc fn first cap).run Try.prog w = .ok (.func fn first cap) w := rfl

/-- One variable: a block of one cell. -/
def VarAt (b : Nat) (v : Value) (e : TypeId) (w : World) : Prop := w.heap[b]? = some (.cells #[v] e (0, 0))

theorem var_framed (b : Nat) (v : Value) (e : TypeId) : Framed (VarAt b v e) (fun _ k => k = b) :=
  ⟨fun w k h hk => by subst hk; exact heap_lt h, fun w w' h hk => ⟨(hk b rfl).trans h, fun k hf => hf⟩⟩

theorem some_var_framed (b : Nat) (e : TypeId) (p : Value → Prop) : Framed (fun w => ∃ v, p v ∧ VarAt b v e w) (fun _ k => k = b) :=
  ⟨fun w k h hk => by obtain ⟨v, _, h⟩ := h; subst hk; exact heap_lt h, fun w w' h hk => ⟨by obtain ⟨v, hp, h⟩ := h; exact ⟨v, hp, (hk b rfl).trans h⟩, fun k hf => hf⟩⟩

/-- A store into a variable of the footprint. -/
theorem Dyn.store {F : World → Nat → Prop} {w : World} {a : Addr} {u : Value} (hF : F w a.block) (hf : ∀ k, F (w.setCell a u) k → F w k) : Dyn F w (w.setCell a u) :=
  ⟨rfl, rfl, rfl, by simp [World.setCell], fun k _ hk => Below.heap_setCell _ _ _ _ (by rintro rfl; exact hk hF), fun k _ h => hf k h⟩

end Go.Proofs.Ytekddnnclbnagaa
