/- JournalRuns: the runner's state, its undo functions. -/
import Derived.Test.YtekddnnclbnagaaKg
import Derived.Deep.AppendLies
import Derived.Deep.RegionLaw
namespace Go.Proofs.Ytekddnnclbnagaa
set_option linter.unusedSimpArgs false
set_option linter.unusedVariables false
open Go.RowKit

set_option maxHeartbeats 1000000 in
/-- An append to the log (or to the results) through the runner: the world behind it. -/
theorem undo51 (B x rb o : Nat) (n : Int) (lv jv ov : Value) (logs : List Int) (w : World) (hB : B ≤ w.heap.size) (hx : w.heap[x]? = some (.cells #[.pointer (some ⟨rb, 0, none⟩)] 45 (0, 0))) (hr : w.heap[rb]? = some (.cells #[jv, lv, ov] 47 (0, 0)))
    (ho : w.cell? ⟨o, 1, none⟩ = some (.int .i64 n)) (hown : w.ownsRow B 3 1 lv logs.length (ints logs)) (hl : logs.length < 1000) :
    Calls Try.prog 51 #[.pointer (some ⟨x, 0, none⟩), .pointer (some ⟨o, 0, none⟩)] w fun e w' => e = .returned (.tuple #[]) ∧
      ∃ w1 v', w1.ownsRow B 3 1 v' (logs.length + 1) (ints (logs ++ [n])) ∧ ((w.alloc (.cells #[.int .i64 n] 3)).drew).grownBy w1 lv.ownBlock ∧ (v'.ownBlock = lv.ownBlock ∨ v'.ownBlock = some (w.heap.size + 1)) ∧ w' = w1.setCell ⟨rb, 1, none⟩ v' := by
  have c0 : w.cell? ⟨x, 0, none⟩ = some (.pointer (some ⟨rb, 0, none⟩)) := by rw [cell_of_heap hx]; rfl
  have c1 : w.cell? ⟨rb, 1, none⟩ = some lv := by rw [cell_of_heap hr]; rfl
  obtain ⟨i0, hi, hi0, hi1, hi2⟩ := info_parts Try.info3
  have HO := Lib.hid (show ((w.alloc (.cells #[.int .i64 n] 3)).drew).ownsRow B 3 1 lv logs.length (ints logs) from hown.alloc _)
  have HX := Lib.hid hx
  have HR := Lib.hid hr
  have hxl := heap_lt hx
  have hrl := heap_lt hr
  have HN := Lib.hid (show ∀ j u, [Value.int .i64 n][j]? = some u → ((w.alloc (.cells #[.int .i64 n] 3)).drew).cell? ((⟨w.heap.size, 0, none⟩ : Addr).add j) = some u from cell_one_new _ _ _)
  clear hx hr hown
  go_enter Try.func51, Try.ntmps51
  go_region_law ((refine step_append_lies _ rfl (.tmp 6) (.tmp 9) 30 rfl B 3 i0 (.int .i64 0) 1 8 Try.underlying30 hi hi0 hi1 hi2 rfl (by decide) lv logs.length (ints logs) rfl HO.out ⟨w.heap.size, 0, none⟩ 1 1 [.int .i64 n] rfl rfl HN.out (by simp [Value.oneCell']) (by omega) (by unfold maxLen; omega) (by omega) (by simp; omega) (w.heap.size + 1) (by simp) ?_; intro g cap w1 h1 h2 h3 h4; have hr1 : w1.heap[rb]? = some (.cells #[jv, lv, ov] 47 (0, 0)) := (h2.block rb (by simp; omega) (own_ne (alloc_heap (o' := .cells #[.int .i64 n] 3) HR.out) HO.out (by decide))).trans (alloc_heap HR.out); have hx1 : w1.heap[x]? = some (.cells #[.pointer (some ⟨rb, 0, none⟩)] 45 (0, 0)) := (h2.block x (by simp; omega) (own_ne (alloc_heap (o' := .cells #[.int .i64 n] 3) HX.out) HO.out (by decide))).trans (alloc_heap HX.out); have e0 : w1.cell? ⟨x, 0, none⟩ = some (.pointer (some ⟨rb, 0, none⟩)) := (cell_of_heap hx1 0); have e1 : w1.cell? ⟨rb, 1, none⟩ = some lv := (cell_of_heap hr1 1); have e2 : w1.frozen? ⟨rb, 1, none⟩ = false := frozen_of_heap hr1 1; have HH := Lib.hid (show _ ∧ _ ∧ _ from ⟨h1, h2, h3⟩); clear h1 h2 h3 h4 hr1 hx1))
  all_goals
    go_end0
    obtain ⟨h1, h2, h3⟩ := HH.out
    refine ⟨rfl, w1, _, by simpa [ints] using h1, h2, ?_, rfl⟩
    rcases h3 with h3 | h3
    · exact .inl h3.symm
    · exact .inr (by simp [Value.ownBlock, h3])

/-- A recorded undo function of the runner: its two variables, its kind, the operation. -/
structure QR where
  (x o : Nat) (six : Bool) (k n : Int) (ka : Option Addr) (kl kc : Nat)

def cloQ (q : QR) : Value := .func (.func (if q.six then 52 else 51)) #[] #[.pointer (some ⟨q.x, 0, none⟩), .pointer (some ⟨q.o, 0, none⟩)]
def numQ (q : QR) : Int := if q.six then wrap64 (-1000000 - q.n) else q.n

/-- The runner in block rb: its journal, its log, its results; the changes' variables. -/
structure RS (B rb jb : Nat) (logs outs : List Int) (ov : Value) (all : List QR) (w : World) : Prop where
  st : ∃ lv, w.heap[rb]? = some (.cells #[.pointer (some ⟨jb, 0, none⟩), lv, ov] 47 (0, 0)) ∧ w.ownsRow B 3 1 lv logs.length (ints logs) ∧ w.ownsRow B 3 1 ov outs.length (ints outs) ∧ ∀ k, lv.ownBlock = some k → ov.ownBlock ≠ some k
  box : ∀ q ∈ all, w.heap[q.x]? = some (.cells #[.pointer (some ⟨rb, 0, none⟩)] 45 (0, 0)) ∧ w.heap[q.o]? = some (.cells #[.int .i64 q.k, .int .i64 q.n, .slice q.ka q.kl q.kc] 55 (0, 0))

def RF (rb : Nat) (all : List QR) (w : World) (k : Nat) : Prop :=
  k = rb ∨ (∃ j lv ov, w.heap[rb]? = some (.cells #[j, lv, ov] 47 (0, 0)) ∧ (lv.ownBlock = some k ∨ ov.ownBlock = some k)) ∨ ∃ q ∈ all, k = q.x ∨ k = q.o

theorem rf_of {rb : Nat} {all : List QR} {w : World} {j lv ov : Value} (h : w.heap[rb]? = some (.cells #[j, lv, ov] 47 (0, 0))) (k : Nat) :
    RF rb all w k ↔ k = rb ∨ (lv.ownBlock = some k ∨ ov.ownBlock = some k) ∨ ∃ q ∈ all, k = q.x ∨ k = q.o := by
  constructor
  · rintro (h1 | ⟨j', lv', ov', h1, h2⟩ | h1)
    · exact .inl h1
    · rw [h] at h1; simp at h1; obtain ⟨_, rfl, rfl⟩ := h1; exact .inr (.inl h2)
    · exact .inr (.inr h1)
  · rintro (h1 | h1 | h1)
    · exact .inl h1
    · exact .inr (.inl ⟨j, lv, ov, h, h1⟩)
    · exact .inr (.inr h1)

theorem rs_framed (B rb jb : Nat) (logs outs : List Int) (ov : Value) (all : List QR) : Framed (RS B rb jb logs outs ov all) (RF rb all) := by
  constructor
  · rintro w k ⟨⟨lv, hr, h1, h2, _⟩, hb⟩ hk
    rcases (rf_of hr k).1 hk with rfl | (hk | hk) | ⟨q, hq, rfl | rfl⟩
    · exact heap_lt hr
    · exact (h1.lt k hk).2
    · exact (h2.lt k hk).2
    · exact heap_lt (hb q hq).1
    · exact heap_lt (hb q hq).2
  · rintro w w' ⟨⟨lv, hr, h1, h2, hne⟩, hb⟩ hk
    have hr' := (hk rb (.inl rfl)).trans hr
    refine ⟨⟨⟨lv, hr', ownsRow_same h1 (fun k h => hk k ((rf_of hr k).2 (.inr (.inl (.inl h))))), ownsRow_same h2 (fun k h => hk k ((rf_of hr k).2 (.inr (.inl (.inr h))))), hne⟩, fun q hq =>
      ⟨(hk q.x (.inr (.inr ⟨q, hq, .inl rfl⟩))).trans (hb q hq).1, (hk q.o (.inr (.inr ⟨q, hq, .inr rfl⟩))).trans (hb q hq).2⟩⟩, fun k h => (rf_of hr k).2 ((rf_of hr' k).1 h)⟩

theorem own_type {w : World} {B : Nat} {e : TypeId} {v : Value} {n k : Nat} {l : List Value} (h : w.ownsRow B e 1 v n l) (hk : v.ownBlock = some k) : ∃ c, w.heap[k]? = some (.cells c e (0, 0)) := by
  rcases h.2 with ⟨rfl, _⟩ | ⟨g, cap, cur, rfl, _, hg, _⟩
  · simp [Value.ownBlock] at hk
  · simp [Value.ownBlock] at hk
    subst hk
    exact ⟨_, hg⟩

theorem rs_apart (B rb jb : Nat) (logs outs : List Int) (ov : Value) (all : List QR) : Apart (RS B rb jb logs outs ov all) (RF rb all) := by
  rintro w k ⟨⟨lv, hr, h1, h2, _⟩, hb⟩ hk
  rcases (rf_of hr k).1 hk with rfl | (hk | hk) | ⟨q, hq, rfl | rfl⟩
  · exact ⟨_, _, _, hr, by decide, by decide⟩
  · obtain ⟨c, hc⟩ := own_type h1 hk; exact ⟨_, _, _, hc, by decide, by decide⟩
  · obtain ⟨c, hc⟩ := own_type h2 hk; exact ⟨_, _, _, hc, by decide, by decide⟩
  · exact ⟨_, _, _, (hb q hq).1, by decide, by decide⟩
  · exact ⟨_, _, _, (hb q hq).2, by decide, by decide⟩

/-- A number more in the log. -/
theorem rs_log {B rb jb : Nat} {logs outs : List Int} {all : List QR} {w w1 : World} {lv ov v' : Value} {n : Int} {o : Obj} (hrs : RS B rb jb logs outs ov all w)
    (hr : w.heap[rb]? = some (.cells #[.pointer (some ⟨jb, 0, none⟩), lv, ov] 47 (0, 0))) (hl : w.ownsRow B 3 1 lv logs.length (ints logs)) (ho : w.ownsRow B 3 1 ov outs.length (ints outs)) (hne : ∀ k, lv.ownBlock = some k → ov.ownBlock ≠ some k)
    (h1 : w1.ownsRow B 3 1 v' (logs.length + 1) (ints (logs ++ [n]))) (h2 : ((w.alloc o).drew).grownBy w1 lv.ownBlock) (h3 : v'.ownBlock = lv.ownBlock ∨ v'.ownBlock = some (w.heap.size + 1)) :
    RS B rb jb (logs ++ [n]) outs ov all (w1.setCell ⟨rb, 1, none⟩ v') ∧ Dyn (RF rb all) w (w1.setCell ⟨rb, 1, none⟩ v') := by
  have hsz := h2.size
  have hsz' : w.heap.size + 1 ≤ w1.heap.size := by simpa using hsz
  have hb0 : ∀ k, k < w.heap.size → some k ≠ lv.ownBlock → w1.heap[k]? = w.heap[k]? := fun k hk hn => (h2.block k (by simp; omega) hn).trans (Below.heap_alloc _ _ _ hk)
  have hrl := heap_lt hr
  have hr1 : w1.heap[rb]? = some (.cells #[.pointer (some ⟨jb, 0, none⟩), lv, ov] 47 (0, 0)) := (hb0 rb hrl (own_ne hr hl (by decide))).trans hr
  have hr2 : (w1.setCell ⟨rb, 1, none⟩ v').heap[rb]? = some (.cells #[.pointer (some ⟨jb, 0, none⟩), v', ov] 47 (0, 0)) := by rw [setCell_heap hr1]; rfl
  have hb1 : ∀ k, k < w.heap.size → some k ≠ lv.ownBlock → k ≠ rb → (w1.setCell ⟨rb, 1, none⟩ v').heap[k]? = w.heap[k]? := fun k hk hn hnr => (Below.heap_setCell _ _ _ _ hnr).trans (hb0 k hk hn)
  have hov : ∀ k, ov.ownBlock = some k → k < w.heap.size ∧ some k ≠ lv.ownBlock ∧ k ≠ rb := by
    intro k hk
    refine ⟨(ho.lt k hk).2, fun e => hne k e.symm hk, ?_⟩
    rintro rfl
    obtain ⟨c, hc⟩ := own_type ho hk
    rw [hr] at hc; simp at hc
  refine ⟨⟨⟨v', hr2, ?_, ?_, ?_⟩, fun q hq => ?_⟩, ⟨h2.os, h2.tape, h2.output, by rw [setCell_size]; omega, fun k hk hn => ?_, fun k hk hf => ?_⟩⟩
  · simpa using ownsRow_setCell h1 (a := ⟨rb, 1, none⟩) (own_ne hr1 h1 (by decide)) v'
  · exact ownsRow_same ho (fun k hk => let h := hov k hk; hb1 k h.1 h.2.1 h.2.2)
  · intro k hk hk2
    rcases h3 with e | e
    · rw [e] at hk; exact hne k hk hk2
    · rw [e] at hk; simp at hk; have := (ho.lt k hk2).2; omega
  · have b := hrs.box q hq
    exact ⟨(hb1 _ (heap_lt b.1) (own_ne b.1 hl (by decide)) (by rintro e; have h := b.1; rw [e, hr] at h; simp at h)).trans b.1,
      (hb1 _ (heap_lt b.2) (own_ne b.2 hl (by decide)) (by rintro e; have h := b.2; rw [e, hr] at h; simp at h)).trans b.2⟩
  · rw [rf_of hr] at hn
    exact hb1 k hk (fun e => hn (.inr (.inl (.inl e.symm)))) (fun e => hn (.inl e))
  · rw [rf_of hr2] at hf
    rw [rf_of hr]
    rcases hf with hf | (hf | hf) | hf
    · exact .inl hf
    · rcases h3 with e | e
      · exact .inr (.inl (.inl (e ▸ hf)))
      · rw [hf] at e; simp at e; omega
    · exact .inr (.inl (.inr hf))
    · exact .inr (.inr hf)

end Go.Proofs.Ytekddnnclbnagaa
