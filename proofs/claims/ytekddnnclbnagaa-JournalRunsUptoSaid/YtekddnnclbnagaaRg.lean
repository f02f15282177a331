/- A region that draws its order, whose last operation writes a cell that the region loads: a condition on the world that is owed behind every operation but that last one. -/
import Derived.Test.YtekddnnclbnagaaKg
import Derived.Deep.RegionHeld3
import Derived.Deep.AppendLies
namespace Go.Proofs.Ytekddnnclbnagaa
set_option linter.unusedSimpArgs false
set_option linter.unusedVariables false
open Go.RowKit

section
variable {P : Program} {ops : Array Oper} {Q : Exit → Act → World → Prop} {S : World → Prop} {k : Nat}

/-- What has come up has all that it waits for behind it. -/
def ClosedUp (ops : Array Oper) (done : Array Bool) : Prop := ∀ j o, ops[j]? = some o → done.getD j false = true → ∀ e ∈ o.after, Region.binds .any e = true → done.getD e.on false = true

/-- Operation j waits for operation i, by a chain of at most n links. -/
def waitsFor (ops : Array Oper) (i : Nat) : Nat → Nat → Bool
  | 0, _ => false
  | n + 1, j => match ops[j]? with
    | none => false
    | some o => o.after.any fun e => Region.binds .any e && (e.on == i || waitsFor ops i n e.on)

theorem waits_open {i : Nat} {done : Array Bool} (hc : ClosedUp ops done) (hi : done.getD i false = false) : ∀ (n j : Nat), waitsFor ops i n j = true → ∃ o, ops[j]? = some o ∧ ∃ e ∈ o.after, Region.binds .any e = true ∧ done.getD e.on false = false := by
  intro n
  induction n with
  | zero => intro j h; cases h
  | succ n ih =>
    intro j h
    simp only [waitsFor] at h
    cases ho : ops[j]? with
    | none => rw [ho] at h; cases h
    | some o =>
      rw [ho] at h
      obtain ⟨e, he, hb⟩ := Array.any_eq_true'.1 h
      simp only [Bool.and_eq_true, Bool.or_eq_true, beq_iff_eq] at hb
      refine ⟨o, rfl, e, he, hb.1, ?_⟩
      rcases hb.2 with h1 | h1
      · rw [h1]; exact hi
      · obtain ⟨o', ho', e', he', hb', hd'⟩ := ih e.on h1
        cases hx : done.getD e.on false with
        | false => rfl
        | true => rw [hc e.on o' ho' hx e' he' hb'] at hd'; cases hd'

theorem unlisted {i : Nat} {done : Array Bool} (h : done.getD i true = false) : done.getD i false = false := by
  simp only [Array.getD_eq_getD_getElem?] at h ⊢
  cases hx : done[i]? with
  | none => rw [hx] at h; cases h
  | some b => rw [hx] at h; simpa using h

theorem waits_not_ready {i n : Nat} {done : Array Bool} (hc : ClosedUp ops done) (hi : i ∈ Region.ready .any ops done) (hw : waitsFor ops i n k = true) : k ∉ Region.ready .any ops done := by
  intro hk
  obtain ⟨o, ho, e, he, hb, hd⟩ := waits_open hc (unlisted (mem_ready.1 hi).1) n k hw
  obtain ⟨_, o', ho', hall⟩ := mem_ready.1 hk
  rw [ho] at ho'
  cases ho'
  rw [hall e he hb] at hd
  cases hd

theorem closed_set {j : Nat} {done : Array Bool} (hc : ClosedUp ops done) (hj : j ∈ Region.ready .any ops done) : ClosedUp ops (done.setIfInBounds j true) := by
  intro m o ho hm e he hb
  obtain ⟨_, oj, hoj, hall⟩ := mem_ready.1 hj
  rcases Decidable.em (j = m) with rfl | h
  · rw [ho] at hoj; cases hoj
    exact getD_set_true (hall e he hb)
  · rw [getD_set_ne false h] at hm
    exact getD_set_true (hc m o ho hm e he hb)

/-- Whatever order is picked, and S holds behind each operation but number k. -/
def anyBut (P : Program) (ops : Array Oper) (Q : Exit → Act → World → Prop) (S : World → Prop) (k : Nat) : Nat → Array Bool → Act → World → Prop
  | 0, done, a, w => Region.ready .any ops done = [] ∧ Q .normal a w
  | n + 1, done, a, w => (Region.ready .any ops done = [] → Q .normal a w) ∧
      ∀ i ∈ Region.ready .any ops done, wpOp P ops Q i (fun a' w' => (i = k ∨ S w') ∧ anyBut P ops Q S k n (done.setIfInBounds i true) a' w') a w

theorem any_of_but : ∀ (n : Nat) (done : Array Bool) (a : Act) (w : World), anyBut P ops Q S k n done a w → wpAny P .any ops Q n done a w
  | 0, _, _, _, h => h
  | n + 1, _, _, _, h => ⟨h.1, fun i hi => wpOp_mono (fun a' w' h' => any_of_but n _ a' w' h'.2) (h.2 i hi)⟩

theorem but_first {i m : Nat} {oi : Oper} {v : Value} (hi : ops[i]? = some oi) (hsel : ∀ (j : Nat) (o : Oper) cs b, ops[j]? = some o → o.op ≠ .select cs b)
    (hQ : ∀ c a w, Q (.panic c) (a.put oi.dst v) w → Q (.panic c) a w) (hw : waitsFor ops i m k = true) : ∀ (n : Nat) (done : Array Bool) (a : Act) (w : World), ClosedUp ops done →
      (∀ j oj, ops[j]? = some oj → j ≠ i → done.getD j true = false → (∀ e ∈ oj.after, Region.binds .any e = true → e.on ≠ i) → oi.apart ops oj = true) →
      i ∈ Region.ready .any ops done → YieldsIf P ops S oi v a → S w → anyBut P ops Q S k n (done.setIfInBounds i true) (a.put oi.dst v) w → anyBut P ops Q S k (n + 1) done a w := by
  intro n
  induction n with
  | zero =>
    intro done a w _ _ hr hy hS H
    constructor
    · intro h; rw [h] at hr; cases hr
    · intro j hj
      rcases Decidable.em (j = i) with rfl | hji
      · exact hy.wpOp hi hS ⟨.inr hS, H⟩
      · have h9 := ready_mono hj hji
        rw [H.1] at h9
        cases h9
  | succ n ih =>
    intro done a w hc hfree hr hy hS H
    constructor
    · intro h; rw [h] at hr; cases hr
    · intro j hj
      rcases Decidable.em (j = i) with rfl | hji
      · exact hy.wpOp hi hS ⟨.inr hS, H⟩
      · have hjk : j ≠ k := by rintro rfl; exact waits_not_ready hc hr hw hj
        obtain ⟨hjun, oj, hoj, hall⟩ := mem_ready.1 hj
        have hi0 := unlisted (mem_ready.1 hr).1
        have hnot : ∀ e ∈ oj.after, Region.binds .any e = true → e.on ≠ i := by
          rintro e he hb rfl
          rw [hall e he hb] at hi0
          cases hi0
        have hri := ready_mono hr (Ne.symm hji)
        refine wpOp_mono (fun a' w' h3 => ?_) (wpOp_putIf hoj (hfree j oj hoj hji hjun hnot) (fun cs b => hsel i oi cs b hi) (fun cs b => hsel j oj cs b hoj) hQ hy (H.2 j (ready_mono hj hji)))
        obtain ⟨hy', h4, h5⟩ := h3
        have hSw := h4.resolve_left hjk
        rw [Array.setIfInBounds_comm _ _ (Ne.symm hji)] at h5
        refine ⟨.inr hSw, ih _ a' w' (closed_set hc hj) (fun x ox hx hxi hun hno => hfree x ox hx hxi ?_ hno) hri hy' hSw h5⟩
        rcases Decidable.em (j = x) with rfl | hjx
        · exact hjun
        · rw [getD_set_ne true hjx] at hun; exact hun

def closedUpB (ops : Array Oper) (done : Array Bool) : Bool :=
  (List.range ops.size).all fun j => !done.getD j false || match ops[j]? with | some o => o.after.all (fun e => !Region.binds .any e || done.getD e.on false) | none => true

theorem closedUp_of {done : Array Bool} (h : closedUpB ops done = true) : ClosedUp ops done := by
  intro j o ho hj e he hb
  simp only [closedUpB, List.all_eq_true, List.mem_range] at h
  have h1 := h j (Array.getElem?_eq_some_iff.1 ho).1
  rw [hj, ho] at h1
  simp only [Bool.not_true, Bool.false_or] at h1
  have h2 := Array.all_eq_true_iff_forall_mem.1 h1 e he
  rw [hb] at h2
  simpa using h2

/-- Take number i first. -/
theorem but_take (i : Nat) {oi : Oper} {v : Value} {n : Nat} {done : Array Bool} {a : Act} {w : World} (hi : ops[i]? = some oi)
    (hb : (Region.noSelect ops && Region.free .any ops done i && (Region.ready .any ops done).contains i && waitsFor ops i ops.size k && closedUpB ops done) = true)
    (hQ : ∀ c a w, Q (.panic c) (a.put oi.dst v) w → Q (.panic c) a w) (hS : S w) (hwa : Region.wanted oi (yielded ops a.tmps) = true) (hy : ∀ w, S w → (execOp a.eval oi).run P w = .ok (.value v) w)
    (h : anyBut P ops Q S k n (done.setIfInBounds i true) (a.put oi.dst v) w) : anyBut P ops Q S k (n + 1) done a w := by
  simp only [Bool.and_eq_true] at hb
  exact but_first hi (Region.noSelect_spec hb.1.1.1.1) hQ hb.1.2 n done a w (closedUp_of hb.2) (Region.free_spec hi hb.1.1.1.2) (by simpa using hb.1.1.2) (.inl ⟨hwa, hy⟩) hS h

/-- Number i alone may come up; it is not the last. -/
theorem but_one (i : Nat) {oi : Oper} {n : Nat} {done : Array Bool} {a : Act} {w : World} (hi : ops[i]? = some oi) (hr : Region.ready .any ops done = [i])
    (h : ∀ K' : Act → World → Prop, Shut (∀ a' w', S w' → (S w' → anyBut P ops Q S k n (done.setIfInBounds i true) a' w') → K' a' w') → if Region.wanted oi (yielded ops a.tmps) = true then Oper.wp P oi a w K' Q else K' (a.put oi.dst undef) w) :
    anyBut P ops Q S k (n + 1) done a w := by
  refine ⟨fun h0 => (by rw [hr] at h0; cases h0), fun j hj => ?_⟩
  rw [hr] at hj
  cases List.mem_singleton.1 hj
  exact wpOp_step hi (fun K' hK => h K' (fun a' w' h1 h2 => hK a' w' ⟨.inr h1, h2 h1⟩))

/-- The last alone is left. -/
theorem but_last {oi : Oper} {n : Nat} {done : Array Bool} {a : Act} {w : World} (hi : ops[k]? = some oi) (hr : Region.ready .any ops done = [k]) (hd : Region.ready .any ops (done.setIfInBounds k true) = [])
    (h : ∀ K' : Act → World → Prop, Shut (∀ a' w', Q .normal a' w' → K' a' w') → if Region.wanted oi (yielded ops a.tmps) = true then Oper.wp P oi a w K' Q else K' (a.put oi.dst undef) w) :
    anyBut P ops Q S k (n + 1) done a w := by
  refine ⟨fun h0 => (by rw [hr] at h0; cases h0), fun j hj => ?_⟩
  rw [hr] at hj
  cases List.mem_singleton.1 hj
  refine wpOp_step hi (fun K' hK => h K' (fun a' w' h1 => hK a' w' ⟨.inl rfl, ?_⟩))
  cases n with
  | zero => exact ⟨hd, h1⟩
  | succ n => exact ⟨fun _ => h1, by rw [hd]; simp⟩

/-- All have come up. -/
theorem but_done {done : Array Bool} {a : Act} {w : World} (hr : Region.ready .any ops done = []) (h : Q .normal a w) : ∀ n, anyBut P ops Q S k n done a w
  | 0 => ⟨hr, h⟩
  | _ + 1 => ⟨fun _ => h, by rw [hr]; simp⟩

/-- The beginning: S and the number of the last operation. -/
theorem but_begin (S : World → Prop) (k : Nat) {id : Nat} {a : Act} {w : World} (hm : P.follows .mixedOrders = true) (h : anyBut P ops Q S k ops.size (Array.replicate ops.size false) a w.drew) : (Code.region id ops true).wp P Q a w :=
  wp_region_any hm (any_of_but _ _ _ _ h)

end
end Go.Proofs.Ytekddnnclbnagaa
