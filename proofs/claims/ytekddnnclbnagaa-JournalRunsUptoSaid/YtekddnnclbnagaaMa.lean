/- JournalRuns: the reference model in memory. -/
import Derived.Test.YtekddnnclbnagaaLg
namespace Go.Proofs.Ytekddnnclbnagaa
set_option linter.unusedSimpArgs false
set_option linter.unusedVariables false
open Go.RowKit

def freshOr (w : World) (old new : Value) : Prop := new.ownBlock = old.ownBlock ∨ ∀ k, new.ownBlock = some k → w.heap.size ≤ k

/-- The model in block mb, its results in block ob; all of it lies from M on. -/
structure MS (M mb ob : Nat) (s : St) (Lv gv xv : Value) (w : World) : Prop where
  hm : M ≤ mb
  ho : M ≤ ob
  bm : w.heap[mb]? = some (.cells #[Lv, gv] 51 (0, 0))
  bo : w.heap[ob]? = some (.cells #[xv] 30 (0, 0))
  l : w.ownsRow M 3 1 Lv s.L.length (ints s.L)
  g : w.ownsRow M 3 1 gv s.log.length (ints s.log)
  x : w.ownsRow M 3 1 xv s.out.length (ints s.out)
  lg : ∀ k, Lv.ownBlock = some k → gv.ownBlock ≠ some k
  lx : ∀ k, Lv.ownBlock = some k → xv.ownBlock ≠ some k
  gx : ∀ k, gv.ownBlock = some k → xv.ownBlock ≠ some k

/-- What a step leaves alone. -/
structure MStep (M : Nat) (w w' : World) : Prop where
  os : w'.os = w.os
  tape : w'.tape = w.tape
  output : w'.output = w.output
  size : w.heap.size ≤ w'.heap.size

theorem ms_l {M mb ob : Nat} {s : St} {Lv gv xv v' : Value} {w w1 : World} {q : List Int} (h : MS M mb ob s Lv gv xv w) (hs : MStep M w w1) (hb : ∀ k, k < w.heap.size → some k ≠ Lv.ownBlock → w1.heap[k]? = w.heap[k]?)
    (hown : w1.ownsRow M 3 1 v' q.length (ints q)) (hv : freshOr w Lv v') : MS M mb ob { s with L := q } v' gv xv (w1.setCell ⟨mb, 0, none⟩ v') ∧ Below M w (w1.setCell ⟨mb, 0, none⟩ v') := by
  have hsz := hs.size
  have m1 : w1.heap[mb]? = some (.cells #[Lv, gv] 51 (0, 0)) := (hb mb (heap_lt h.bm) (own_ne h.bm h.l (by decide))).trans h.bm
  have o1 : w1.heap[ob]? = some (.cells #[xv] 30 (0, 0)) := (hb ob (heap_lt h.bo) (own_ne h.bo h.l (by decide))).trans h.bo
  have hmo : mb ≠ ob := by rintro rfl; have e := h.bm; rw [h.bo] at e; simp at e
  have keep : ∀ {v : Value} {n : Nat} {xs : List Value}, w.ownsRow M 3 1 v n xs → (∀ k, v.ownBlock = some k → Lv.ownBlock ≠ some k) → (w1.setCell ⟨mb, 0, none⟩ v').ownsRow M 3 1 v n xs := by
    intro v n xs ho hne
    have h2 : w1.ownsRow M 3 1 v n xs := ownsRow_same ho (fun k hk => hb k (ho.lt k hk).2 (fun e => hne k hk e.symm))
    exact ownsRow_setCell h2 (own_ne m1 h2 (by decide)) _
  have hnew : ∀ {v : Value} {n : Nat} {xs : List Value}, w.ownsRow M 3 1 v n xs → (∀ k, v.ownBlock = some k → Lv.ownBlock ≠ some k) → ∀ k, v'.ownBlock = some k → v.ownBlock ≠ some k := by
    intro v n xs ho hne k hk hk2
    rcases hv with e | e
    · rw [e] at hk; exact hne k hk2 hk
    · have := e k hk; have := (ho.lt k hk2).2; omega
  refine ⟨⟨h.hm, h.ho, by rw [setCell_heap m1]; rfl, setCell_heap_ne o1 (Ne.symm hmo) _, ownsRow_setCell hown (own_ne m1 hown (by decide)) _, keep h.g (fun k a b => h.lg k b a), keep h.x (fun k a b => h.lx k b a), hnew h.g (fun k a b => h.lg k b a), hnew h.x (fun k a b => h.lx k b a), h.gx⟩, ⟨hs.os, hs.tape, hs.output, by rw [setCell_size]; exact hsz, fun k hk => ?_⟩⟩
  have hm := h.hm
  have hoo := h.ho
  have hkm : k ≠ mb := by omega
  rw [Below.heap_setCell _ _ _ _ hkm]
  refine hb k (by have := heap_lt h.bm; omega) (fun e => ?_)
  have := (h.l.lt k e.symm).1
  omega

theorem ms_g {M mb ob : Nat} {s : St} {Lv gv xv v' : Value} {w w1 : World} {q : List Int} (h : MS M mb ob s Lv gv xv w) (hs : MStep M w w1) (hb : ∀ k, k < w.heap.size → some k ≠ gv.ownBlock → w1.heap[k]? = w.heap[k]?)
    (hown : w1.ownsRow M 3 1 v' q.length (ints q)) (hv : freshOr w gv v') : MS M mb ob { s with log := q } Lv v' xv (w1.setCell ⟨mb, 1, none⟩ v') ∧ Below M w (w1.setCell ⟨mb, 1, none⟩ v') := by
  have hsz := hs.size
  have m1 : w1.heap[mb]? = some (.cells #[Lv, gv] 51 (0, 0)) := (hb mb (heap_lt h.bm) (own_ne h.bm h.g (by decide))).trans h.bm
  have o1 : w1.heap[ob]? = some (.cells #[xv] 30 (0, 0)) := (hb ob (heap_lt h.bo) (own_ne h.bo h.g (by decide))).trans h.bo
  have hmo : mb ≠ ob := by rintro rfl; have e := h.bm; rw [h.bo] at e; simp at e
  have keep : ∀ {v : Value} {n : Nat} {xs : List Value}, w.ownsRow M 3 1 v n xs → (∀ k, v.ownBlock = some k → gv.ownBlock ≠ some k) → (w1.setCell ⟨mb, 1, none⟩ v').ownsRow M 3 1 v n xs := by
    intro v n xs ho hne
    have h2 : w1.ownsRow M 3 1 v n xs := ownsRow_same ho (fun k hk => hb k (ho.lt k hk).2 (fun e => hne k hk e.symm))
    exact ownsRow_setCell h2 (own_ne m1 h2 (by decide)) _
  have hnew : ∀ {v : Value} {n : Nat} {xs : List Value}, w.ownsRow M 3 1 v n xs → (∀ k, v.ownBlock = some k → gv.ownBlock ≠ some k) → ∀ k, v'.ownBlock = some k → v.ownBlock ≠ some k := by
    intro v n xs ho hne k hk hk2
    rcases hv with e | e
    · rw [e] at hk; exact hne k hk2 hk
    · have := e k hk; have := (ho.lt k hk2).2; omega
  refine ⟨⟨h.hm, h.ho, by rw [setCell_heap m1]; rfl, setCell_heap_ne o1 (Ne.symm hmo) _, keep h.l h.lg, ownsRow_setCell hown (own_ne m1 hown (by decide)) _, keep h.x (fun k a b => h.gx k b a), fun k a b => hnew h.l h.lg k b a, h.lx, hnew h.x (fun k a b => h.gx k b a)⟩, ⟨hs.os, hs.tape, hs.output, by rw [setCell_size]; exact hsz, fun k hk => ?_⟩⟩
  have hm := h.hm
  have hoo := h.ho
  have hkm : k ≠ mb := by omega
  rw [Below.heap_setCell _ _ _ _ hkm]
  refine hb k (by have := heap_lt h.bm; omega) (fun e => ?_)
  have := (h.g.lt k e.symm).1
  omega

theorem ms_x {M mb ob : Nat} {s : St} {Lv gv xv v' : Value} {w w1 : World} {q : List Int} (h : MS M mb ob s Lv gv xv w) (hs : MStep M w w1) (hb : ∀ k, k < w.heap.size → some k ≠ xv.ownBlock → w1.heap[k]? = w.heap[k]?)
    (hown : w1.ownsRow M 3 1 v' q.length (ints q)) (hv : freshOr w xv v') : MS M mb ob { s with out := q } Lv gv v' (w1.setCell ⟨ob, 0, none⟩ v') ∧ Below M w (w1.setCell ⟨ob, 0, none⟩ v') := by
  have hsz := hs.size
  have m1 : w1.heap[mb]? = some (.cells #[Lv, gv] 51 (0, 0)) := (hb mb (heap_lt h.bm) (own_ne h.bm h.x (by decide))).trans h.bm
  have o1 : w1.heap[ob]? = some (.cells #[xv] 30 (0, 0)) := (hb ob (heap_lt h.bo) (own_ne h.bo h.x (by decide))).trans h.bo
  have hmo : mb ≠ ob := by rintro rfl; have e := h.bm; rw [h.bo] at e; simp at e
  have keep : ∀ {v : Value} {n : Nat} {xs : List Value}, w.ownsRow M 3 1 v n xs → (∀ k, v.ownBlock = some k → xv.ownBlock ≠ some k) → (w1.setCell ⟨ob, 0, none⟩ v').ownsRow M 3 1 v n xs := by
    intro v n xs ho hne
    have h2 : w1.ownsRow M 3 1 v n xs := ownsRow_same ho (fun k hk => hb k (ho.lt k hk).2 (fun e => hne k hk e.symm))
    exact ownsRow_setCell h2 (own_ne o1 h2 (by decide)) _
  have hnew : ∀ {v : Value} {n : Nat} {xs : List Value}, w.ownsRow M 3 1 v n xs → (∀ k, v.ownBlock = some k → xv.ownBlock ≠ some k) → ∀ k, v'.ownBlock = some k → v.ownBlock ≠ some k := by
    intro v n xs ho hne k hk hk2
    rcases hv with e | e
    · rw [e] at hk; exact hne k hk2 hk
    · have := e k hk; have := (ho.lt k hk2).2; omega
  refine ⟨⟨h.hm, h.ho, setCell_heap_ne m1 hmo _, by rw [setCell_heap o1]; rfl, keep h.l h.lx, keep h.g h.gx, ownsRow_setCell hown (own_ne o1 hown (by decide)) _, h.lg, fun k a b => hnew h.l h.lx k b a, fun k a b => hnew h.g h.gx k b a⟩, ⟨hs.os, hs.tape, hs.output, by rw [setCell_size]; exact hsz, fun k hk => ?_⟩⟩
  have hm := h.hm
  have hoo := h.ho
  have hkm : k ≠ ob := by omega
  rw [Below.heap_setCell _ _ _ _ hkm]
  refine hb k (by have := heap_lt h.bm; omega) (fun e => ?_)
  have := (h.x.lt k e.symm).1
  omega

end Go.Proofs.Ytekddnnclbnagaa
