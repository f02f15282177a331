/- JournalRuns: the contract of 'run'; what its steps do to the state. -/
import Derived.Test.YtekddnnclbnagaaLc
namespace Go.Proofs.Ytekddnnclbnagaa
set_option linter.unusedSimpArgs false
set_option linter.unusedVariables false
open Go.RowKit

def endOf : Option Int → Ending
  | none => .returned (.tuple #[])
  | some er => .panicked [{ v := .iface 63 (.agg #[.int .i64 er]), recovered := false }]

/-- The runner and its journal in one state: what can be undone, the log, the results. -/
structure RJ (B rb jb : Nat) (t : St) (ov : Value) (all big : List QR) (w : World) : Prop where
  j : JAt B jb (all.map cloQ) false w
  s : RS B rb jb t.log t.out ov big w
  l : t.L = all.map numQ
  sub : ∀ q ∈ all, q ∈ big

def RunEnds (B rb jb : Nat) (r : St × Option Int) (big : List QR) (w : World) (e : Ending) (w' : World) : Prop :=
  ∃ all' big' ov', (∀ q ∈ big, q ∈ big') ∧ DynH (U jb (RF rb big)) (U jb (RF rb big')) w w' ∧ RJ B rb jb r.1 ov' all' big' w' ∧ e = endOf r.2

def RunSpec (B rb jb : Nat) (W0 : World) (l : Ops) : Prop :=
  ∀ (w : World) (s : St) (ov : Value) (all big : List QR) (a : Option Addr) (cap : Nat), Below B W0 w → B ≤ rb → RJ B rb jb s ov all big w → (∀ k, U jb (RF rb big) w k → B ≤ k) →
    s.L.length + s.log.length + l.cnt ≤ 400 → s.out.length + l.cnt ≤ 400 → SliceOps W0 l a l.length →
    Calls Try.prog 33 #[.pointer (some ⟨rb, 0, none⟩), .slice a l.length cap] w fun e w' => RunEnds B rb jb (runP l s) big w e w'

def RunRel (B rb jb : Nat) (W0 w : World) (s : St) (l : Ops) (b off : Nat) (big : List QR) (g : Nat) (v : Value) (wr : World) : Prop :=
  ∃ (i : Nat) (r : Ops) (t : St) (all' big' : List QR) (ov' : Value), i + g = l.length ∧ r.length = g ∧ v = .int .i64 ((i : Nat) : Int) ∧ OpsAt W0 r b (off + i * 3) ∧ runP l s = runP r t ∧
    t.L.length + t.log.length + r.cnt ≤ 400 ∧ t.out.length + r.cnt ≤ 400 ∧ r.cnt ≤ l.cnt ∧ (∀ q ∈ big, q ∈ big') ∧ DynH (U jb (RF rb big)) (U jb (RF rb big')) w wr ∧ RJ B rb jb t ov' all' big' wr ∧
    wr.heap[w.heap.size]? = some (.cells #[.pointer (some ⟨rb, 0, none⟩)] 45 (0, 0)) ∧ Below B W0 wr

theorem rj_framed (B rb jb : Nat) (t : St) (ov : Value) (all big : List QR) : Framed (RJ B rb jb t ov all big) (U jb (RF rb big)) := by
  have hF := (jat_framed B jb (all.map cloQ) false).both (rs_framed B rb jb t.log t.out ov big)
  exact ⟨fun w k h hk => hF.inn w k ⟨h.j, h.s⟩ hk, fun w w' h hk => let r := hF.fr w w' ⟨h.j, h.s⟩ hk; ⟨⟨r.1.1, r.1.2, h.l, h.sub⟩, r.2⟩⟩

/-- The variable of an operation and the variable of the runner stand: they join the list. -/
theorem run_var {B rb jb : Nat} {t : St} {ov : Value} {all big big0 : List QR} {w wr : World} {x : Nat} (hx : wr.heap[x]? = some (.cells #[.pointer (some ⟨rb, 0, none⟩)] 45 (0, 0))) (hxw : w.heap.size ≤ x) (six : Bool) (k n : Int) (ka : Option Addr) (kl kc : Nat)
    (hD : DynH (U jb (RF rb big0)) (U jb (RF rb big)) w wr) (h : RJ B rb jb t ov all big wr) :
    DynH (U jb (RF rb big0)) (U jb (RF rb (big ++ [⟨x, wr.heap.size, six, k, n, ka, kl, kc⟩]))) w (wr.alloc (.cells #[.int .i64 k, .int .i64 n, .slice ka kl kc] 55)) ∧
    RJ B rb jb t ov all (big ++ [⟨x, wr.heap.size, six, k, n, ka, kl, kc⟩]) (wr.alloc (.cells #[.int .i64 k, .int .i64 n, .slice ka kl kc] 55)) := by
  have hF := rj_framed B rb jb t ov all big
  obtain ⟨d1, x1⟩ := Dyn.alloc hF h (.cells #[.int .i64 k, .int .i64 n, .slice ka kl kc] 55)
  have hs := hD.size
  have h2 := hD.trans (DynH.of d1)
  refine ⟨⟨h2.os, h2.tape, h2.output, h2.size, h2.block, fun u hu hf => ?_⟩, x1.j, ⟨x1.s.st, fun q hq => ?_⟩, x1.l, fun q hq => List.mem_append_left _ (x1.sub q hq)⟩
  · rcases hf with hf | hf | hf | ⟨q, hq, hf⟩
    · exact h2.foot u hu (.inl hf)
    · exact h2.foot u hu (.inr (.inl hf))
    · exact h2.foot u hu (.inr (.inr (.inl hf)))
    · rcases List.mem_append.1 hq with hq | hq
      · exact h2.foot u hu (.inr (.inr (.inr ⟨q, hq, hf⟩)))
      · simp at hq; subst hq; simp at hf; omega
  · rcases List.mem_append.1 hq with hq | hq
    · exact x1.s.box q hq
    · simp at hq; subst hq; exact ⟨alloc_heap hx, heap_alloc_new _ _⟩

theorem run_base {B rb jb : Nat} {big big2 : List QR} {w w1 : World} (hB : B ≤ w.heap.size) (h0 : ∀ k, U jb (RF rb big) w k → B ≤ k) (hD : DynH (U jb (RF rb big)) (U jb (RF rb big2)) w w1) (k : Nat) (hk : U jb (RF rb big2) w1 k) : B ≤ k := by
  rcases Nat.lt_or_ge k B with h | h
  · exact h0 k (hD.foot k (by omega) hk)
  · exact h

/-- Behind one operation. -/
theorem run_next {B rb jb : Nat} {W0 w w1 w2 : World} {s t2 : St} {l r : Ops} {b off i : Nat} {big big2 big3 all3 : List QR} {ov3 : Value} {q : QR} (hi : i + (r.length + 1) = l.length) (hat : OpsAt W0 r b (off + i * 3 + 3)) (hB : Below B W0 w1) (hBs : B ≤ w.heap.size)
    (hq : q ∈ big2) (hqx : q.x = w.heap.size) (hb0 : ∀ u ∈ big, u ∈ big2) (h0 : ∀ k, U jb (RF rb big) w k → B ≤ k) (h1 : DynH (U jb (RF rb big)) (U jb (RF rb big2)) w w1) (h2 : DynH (U jb (RF rb big2)) (U jb (RF rb big3)) w1 w2) (hsub : ∀ u ∈ big2, u ∈ big3)
    (hJ : RJ B rb jb t2 ov3 all3 big3 w2) (hr : runP l s = runP r t2) (hn1 : t2.L.length + t2.log.length + r.cnt ≤ 400) (hn2 : t2.out.length + r.cnt ≤ 400) (hn3 : r.cnt ≤ l.cnt) :
    RunRel B rb jb W0 w s l b off big r.length (.int .i64 ((i : Int) + 1)) w2 := by
  have hb1 := run_base hBs h0 h1
  refine ⟨i + 1, r, t2, all3, big3, ov3, by omega, rfl, by congr 1, by rw [show off + (i + 1) * 3 = off + i * 3 + 3 by omega]; exact hat, hr, hn1, hn2, hn3, fun u hu => hsub u (hb0 u hu), h1.trans h2, hJ, ?_, ?_⟩
  · rw [← hqx]; exact (hJ.s.box q (hsub q hq)).1
  · have hs := h1.size
    exact hB.trans ⟨h2.os, h2.tape, h2.output, h2.size, fun k hk => h2.block k (by omega) (fun hu => by have := hb1 k hu; omega)⟩

/-- A change is recorded. -/
theorem record_run {B rb jb : Nat} {t : St} {ov : Value} {all big : List QR} {w : World} (h : RJ B rb jb t ov all big w) (q : QR) (hq : q ∈ big) (hlen : t.L.length < 900) :
    Calls Try.prog 19 #[.pointer (some ⟨jb, 0, none⟩), cloQ q] w fun e w' => e = .returned (.tuple #[]) ∧ RJ B rb jb ⟨t.L ++ [numQ q], t.log, t.out⟩ ov (all ++ [q]) big w' ∧ Dyn (U jb (RF rb big)) w w' := by
  have hl := h.l
  have hll : t.L.length = all.length := by rw [hl]; simp
  refine (record_any B jb _ _ _ w (all.map cloQ) h.j (by simp; omega)).mono ?_
  rintro e w' ⟨rfl, j2, d2⟩
  obtain ⟨d3, s3⟩ := d2.left (rs_framed B rb jb t.log t.out ov big) h.s (fun k hk hu => (rs_apart B rb jb t.log t.out ov big).ne h.j h.s k hk hu)
  refine ⟨rfl, ⟨?_, s3, ?_, fun u hu => ?_⟩, d3⟩
  · rw [List.map_append]; exact j2
  · show t.L ++ [numQ q] = _; rw [List.map_append, hl]; rfl
  · rcases List.mem_append.1 hu with hu | hu
    · exact h.sub u hu
    · simp at hu; subst hu; exact hq

/-- What a number names: a place in the journal or none. -/
def badN (t : St) (n : Int) : Prop := n < 0 ∨ (t.L.length : Int) < n
instance (t : St) (n : Int) : Decidable (badN t n) := by unfold badN; infer_instance
def undoN (t : St) (n : Int) : St := if badN t n then t else t.undo n.toNat
def forgetN (t : St) (n : Int) : St := if badN t n then t else ⟨t.L.take n.toNat, t.log, t.out⟩
def codeN (t : St) (n : Int) : Int := if badN t n then 2 else 0

theorem rewind_run {B rb jb : Nat} {t : St} {ov : Value} {all big : List QR} {w : World} (hBr : B ≤ rb) (h : RJ B rb jb t ov all big w) (n : Int) (hlen : t.L.length + t.log.length < 900) :
    Calls Try.prog 18 #[.pointer (some ⟨jb, 0, none⟩), .int .i64 n] w fun e w' => e = .returned (.int .i64 (codeN t n)) ∧ (∃ all2, RJ B rb jb (undoN t n) ov all2 big w') ∧ Dyn (U jb (RF rb big)) w w' := by
  have hl := h.l
  have hll : t.L.length = all.length := by rw [hl]; simp
  by_cases hb : badN t n
  · obtain ⟨⟨a, c, hc0⟩, hc1⟩ := h.j.cells
    refine (rewind_range jb a _ c n w hc0 hc1 (by simp [maxLen]; omega) (by simpa [badN, hll] using hb)).mono ?_
    rintro e w' ⟨rfl, rfl⟩
    refine ⟨by simp [codeN, hb], ⟨all, ?_⟩, Dyn.refl _ _⟩
    simpa [undoN, hb] using h
  · have hb' := hb
    unfold badN at hb'
    obtain ⟨m, rfl⟩ : ∃ m : Nat, n = m := ⟨n.toNat, by omega⟩
    have hU := riq_undoes B rb jb all big t.log t.out ov h.sub hBr (by omega)
    refine (rewind_any B jb _ _ hU w (all.map cloQ) h.j ⟨by simp, by simp, by simpa using h.s⟩ (by simp; omega) m (by simp; omega)).mono ?_
    rintro e w' ⟨rfl, j2, i2, d2⟩
    have hm : (List.take m (all.map cloQ)).length = m := by simp; omega
    refine ⟨by simp [codeN, hb], ⟨all.take m, ?_⟩, d2⟩
    obtain ⟨_, _, i3⟩ := i2
    rw [hm] at i3
    refine ⟨by rw [List.map_take]; exact j2, ?_, ?_, fun q hq => h.sub q (List.mem_of_mem_take hq)⟩
    · simpa [undoN, hb, St.undo, hl, List.map_drop] using i3
    · simp [undoN, hb, St.undo, hl, List.map_take]

theorem forget_run {B rb jb : Nat} {t : St} {ov : Value} {all big : List QR} {w : World} (h : RJ B rb jb t ov all big w) (n : Int) (hlen : t.L.length + t.log.length < 900) :
    Calls Try.prog 36 #[.pointer (some ⟨jb, 0, none⟩), .int .i64 n] w fun e w' => e = .returned (.int .i64 (codeN t n)) ∧ (∃ all2, RJ B rb jb (forgetN t n) ov all2 big w') ∧ Dyn (U jb (RF rb big)) w w' := by
  have hl := h.l
  have hll : t.L.length = all.length := by rw [hl]; simp
  by_cases hb : badN t n
  · obtain ⟨⟨a, c, hc0⟩, hc1⟩ := h.j.cells
    refine (forget_range jb a _ c n w hc0 hc1 (by simp [maxLen]; omega) (by simpa [badN, hll] using hb)).mono ?_
    rintro e w' ⟨rfl, rfl⟩
    refine ⟨by simp [codeN, hb], ⟨all, ?_⟩, Dyn.refl _ _⟩
    simpa [forgetN, hb] using h
  · have hb' := hb
    unfold badN at hb'
    obtain ⟨m, rfl⟩ : ∃ m : Nat, n = m := ⟨n.toNat, by omega⟩
    refine (forget_any B jb w (all.map cloQ) h.j (by simp; omega) m (by simp; omega)).mono ?_
    rintro e w' ⟨rfl, j2, d2⟩
    obtain ⟨d3, s3⟩ := d2.left (rs_framed B rb jb t.log t.out ov big) h.s (fun k hk hu => (rs_apart B rb jb t.log t.out ov big).ne h.j h.s k hk hu)
    refine ⟨by simp [codeN, hb], ⟨all.take m, ?_⟩, d3⟩
    refine ⟨by rw [List.map_take]; exact j2, ?_, ?_, fun q hq => h.sub q (List.mem_of_mem_take hq)⟩
    · simpa [forgetN, hb] using s3
    · simp [forgetN, hb, hl, List.map_take]

end Go.Proofs.Ytekddnnclbnagaa
