/- JournalRuns: the results; what the undoing does; the meaning of a program. -/
import Derived.Test.YtekddnnclbnagaaLb
namespace Go.Proofs.Ytekddnnclbnagaa
set_option linter.unusedSimpArgs false
set_option linter.unusedVariables false
open Go.RowKit

/-- A number more in the results. -/
theorem rs_out {B rb jb : Nat} {logs outs : List Int} {all : List QR} {w w1 : World} {lv ov v' : Value} {n : Int} {o : Obj} (hrs : RS B rb jb logs outs ov all w)
    (hr : w.heap[rb]? = some (.cells #[.pointer (some ⟨jb, 0, none⟩), lv, ov] 47 (0, 0))) (hl : w.ownsRow B 3 1 lv logs.length (ints logs)) (ho : w.ownsRow B 3 1 ov outs.length (ints outs)) (hne : ∀ k, lv.ownBlock = some k → ov.ownBlock ≠ some k)
    (h1 : w1.ownsRow B 3 1 v' (outs.length + 1) (ints (outs ++ [n]))) (h2 : ((w.alloc o).drew).grownBy w1 ov.ownBlock) (h3 : v'.ownBlock = ov.ownBlock ∨ v'.ownBlock = some (w.heap.size + 1)) :
    RS B rb jb logs (outs ++ [n]) v' all (w1.setCell ⟨rb, 2, none⟩ v') ∧ Dyn (RF rb all) w (w1.setCell ⟨rb, 2, none⟩ v') := by
  have hsz := h2.size
  have hsz' : w.heap.size + 1 ≤ w1.heap.size := by simpa using hsz
  have hb0 : ∀ k, k < w.heap.size → some k ≠ ov.ownBlock → w1.heap[k]? = w.heap[k]? := fun k hk hn => (h2.block k (by simp; omega) hn).trans (Below.heap_alloc _ _ _ hk)
  have hrl := heap_lt hr
  have hr1 : w1.heap[rb]? = some (.cells #[.pointer (some ⟨jb, 0, none⟩), lv, ov] 47 (0, 0)) := (hb0 rb hrl (own_ne hr ho (by decide))).trans hr
  have hr2 : (w1.setCell ⟨rb, 2, none⟩ v').heap[rb]? = some (.cells #[.pointer (some ⟨jb, 0, none⟩), lv, v'] 47 (0, 0)) := by rw [setCell_heap hr1]; rfl
  have hb1 : ∀ k, k < w.heap.size → some k ≠ ov.ownBlock → k ≠ rb → (w1.setCell ⟨rb, 2, none⟩ v').heap[k]? = w.heap[k]? := fun k hk hn hnr => (Below.heap_setCell _ _ _ _ hnr).trans (hb0 k hk hn)
  have hov : ∀ k, lv.ownBlock = some k → k < w.heap.size ∧ some k ≠ ov.ownBlock ∧ k ≠ rb := by
    intro k hk
    refine ⟨(hl.lt k hk).2, fun e => hne k hk e.symm, ?_⟩
    rintro rfl
    obtain ⟨c, hc⟩ := own_type hl hk
    rw [hr] at hc; simp at hc
  refine ⟨⟨⟨lv, hr2, ?_, ?_, ?_⟩, fun q hq => ?_⟩, ⟨h2.os, h2.tape, h2.output, by rw [setCell_size]; omega, fun k hk hn => ?_, fun k hk hf => ?_⟩⟩
  · exact ownsRow_same hl (fun k hk => let h := hov k hk; hb1 k h.1 h.2.1 h.2.2)
  · simpa using ownsRow_setCell h1 (a := ⟨rb, 2, none⟩) (own_ne hr1 h1 (by decide)) v'
  · intro k hk hk2
    rcases h3 with e | e
    · rw [e] at hk2; exact hne k hk hk2
    · rw [e] at hk2; simp at hk2; have := (hl.lt k hk).2; omega
  · have b := hrs.box q hq
    exact ⟨(hb1 _ (heap_lt b.1) (own_ne b.1 ho (by decide)) (by rintro e; have h := b.1; rw [e, hr] at h; simp at h)).trans b.1,
      (hb1 _ (heap_lt b.2) (own_ne b.2 ho (by decide)) (by rintro e; have h := b.2; rw [e, hr] at h; simp at h)).trans b.2⟩
  · rw [rf_of hr] at hn
    exact hb1 k hk (fun e => hn (.inr (.inl (.inr e.symm)))) (fun e => hn (.inl e))
  · rw [rf_of hr2] at hf
    rw [rf_of hr]
    rcases hf with hf | (hf | hf) | hf
    · exact .inl hf
    · exact .inr (.inl (.inl hf))
    · rcases h3 with e | e
      · exact .inr (.inl (.inr (e ▸ hf)))
      · rw [hf] at e; simp at e; omega
    · exact .inr (.inr hf)

theorem callFunc51 (cap : Array Value) (w : World) : (callFunc 51 cap).run Try.prog w = .ok (.enter 51 cap) w := by kernel_rfl
theorem callFunc52 (cap : Array Value) (w : World) : (callFunc 52 cap).run Try.prog w = .ok (.enter 52 cap) w := by kernel_rfl

theorem wrap_kind (x : Int) : IntKind.i64.wrap x = wrap64 x := by
  simp [IntKind.wrap, wrap64, IntKind.signed, IntKind.bits]
  split <;> omega

/-- What is left to be undone is a head of all; the log holds the others, last first. -/
def RIQ (B rb jb : Nat) (all big : List QR) (log0 outs : List Int) (ov : Value) (us : List Value) (w : World) : Prop :=
  us.length ≤ all.length ∧ us = (all.take us.length).map cloQ ∧ RS B rb jb (log0 ++ ((all.drop us.length).map numQ).reverse) outs ov big w

theorem riq_undoes (B rb jb : Nat) (all big : List QR) (log0 outs : List Int) (ov : Value) (hsub : ∀ q ∈ all, q ∈ big) (hBr : B ≤ rb) (hl : log0.length + all.length < 900) : Undoes B jb (RIQ B rb jb all big log0 outs ov) (RF rb big) := by
  refine ⟨fun us => ?_, fun us => ?_, fun us u w1 hJ hI => ?_⟩
  · exact ⟨fun w k h hk => (rs_framed _ _ _ _ _ _ _).inn w k h.2.2 hk, fun w w' h hk => let r := (rs_framed _ _ _ _ _ _ _).fr w w' h.2.2 hk; ⟨⟨h.1, h.2.1, r.1⟩, r.2⟩⟩
  · exact fun w k h hk => rs_apart _ _ _ _ _ _ _ w k h.2.2 hk
  · obtain ⟨h1, h2, h3⟩ := hI
    simp only [List.length_append, List.length_cons, List.length_nil, Nat.zero_add] at h1 h2 h3
    have hlt : us.length < all.length := by omega
    have hmem : all[us.length] ∈ all := List.getElem_mem hlt
    have hdrop : all.drop us.length = all[us.length] :: all.drop (us.length + 1) := List.drop_eq_getElem_cons hlt
    have htake : all.take (us.length + 1) = all.take us.length ++ [all[us.length]] := List.take_succ_eq_append_getElem hlt
    rw [htake, List.map_append] at h2
    obtain ⟨hus, hu⟩ := List.append_inj' h2 (by simp)
    simp only [List.map_cons, List.map_nil, List.cons.injEq, and_true] at hu
    have b := h3.box _ (hsub _ hmem)
    have hwB : B ≤ w1.heap.size := by obtain ⟨lv, hr, _⟩ := h3.st; have := heap_lt hr; omega
    have hln : (log0 ++ ((all.drop (us.length + 1)).map numQ).reverse).length < 1000 := by simp; omega
    have hlog : log0 ++ ((all.drop us.length).map numQ).reverse = (log0 ++ ((all.drop (us.length + 1)).map numQ).reverse) ++ [numQ all[us.length]] := by
      simp only [hdrop, List.map_cons, List.reverse_cons, List.append_assoc]
    by_cases hsix : all[us.length].six = true
    · refine ⟨52, #[.pointer (some ⟨all[us.length].x, 0, none⟩), .pointer (some ⟨all[us.length].o, 0, none⟩)], by rw [hu]; simp [cloQ, hsix], callFunc52 _, ?_⟩
      refine (undo52 B _ rb _ jb us all[us.length].n (numQ all[us.length]) (by simp only [numQ, hsix, if_true]; exact wrap_kind _) _ outs ov big w1 hJ h3 hwB b.1 (cell_of_heap b.2 1) hln (by omega)).mono ?_
      rintro e w' ⟨rfl, j2, s2, d2⟩
      refine ⟨rfl, j2, ⟨by omega, hus, ?_⟩, d2⟩
      rw [hlog]; exact s2
    · have hsix' : all[us.length].six = false := by simpa using hsix
      refine ⟨51, #[.pointer (some ⟨all[us.length].x, 0, none⟩), .pointer (some ⟨all[us.length].o, 0, none⟩)], by rw [hu]; simp [cloQ, hsix'], callFunc51 _, ?_⟩
      obtain ⟨lv, hr, hown, hoo, hne⟩ := h3.st
      refine (undo51 B _ rb _ all[us.length].n lv _ ov _ w1 hwB b.1 hr (cell_of_heap b.2 1) hown hln).mono ?_
      rintro e w' ⟨rfl, w2, v', g1, g2, g3, rfl⟩
      obtain ⟨r1, r2⟩ := rs_log h3 hr hown hoo hne g1 g2 g3
      obtain ⟨r3, r4⟩ := r2.right (jat_framed B jb us true) hJ (fun k hk hf => (rs_apart B rb jb _ outs ov big).ne hJ h3 k hf hk)
      refine ⟨rfl, r4, ⟨by omega, hus, ?_⟩, r3⟩
      rw [hlog]
      have : numQ all[us.length] = all[us.length].n := by simp [numQ, hsix']
      rw [this]; exact r1

/-- The state of a run: what can be undone, the log, the results. -/
structure St where
  (L log out : List Int)

def St.undo (s : St) (m : Nat) : St := ⟨s.L.take m, s.log ++ (s.L.drop m).reverse, s.out⟩
def St.put (s : St) (x : Int) : St := ⟨s.L, s.log, s.out ++ [x]⟩

/-- What a program does; the number with which it fails. -/
def runP : Ops → St → St × Option Int
  | .nil, s => (s, none)
  | .cons k n kids rest, s =>
    if k = 1 then runP rest ⟨s.L ++ [n], s.log, s.out⟩
    else if k = 6 then runP rest ⟨s.L ++ [wrap64 (-1000000 - n)], s.log, s.out⟩
    else if k = 2 then
      if n < 0 ∨ (s.L.length : Int) < n then runP rest (s.put 2) else runP rest ((s.undo n.toNat).put 0)
    else if k = 3 then
      if n < 0 ∨ (s.L.length : Int) < n then runP rest (s.put 2) else runP rest (St.put ⟨s.L.take n.toNat, s.log, s.out⟩ 0)
    else if k = 4 then (s, some (if n = 0 then 1 else n))
    else if k = 5 then
      match runP kids s with
      | (t, none) => runP rest (t.put 0)
      | (t, some e) => runP rest ((t.undo (min s.L.length t.L.length)).put e)
    else runP rest s

theorem runP_size : ∀ (l : Ops) (s : St), (runP l s).1.L.length + (runP l s).1.log.length ≤ s.L.length + s.log.length + l.cnt ∧ (runP l s).1.out.length ≤ s.out.length + l.cnt ∧ s.log.length ≤ (runP l s).1.log.length := by
  intro l
  induction l with
  | nil => intro s; simp [runP, Ops.cnt]
  | cons k n kids rest ih1 ih2 =>
    intro s
    simp only [runP, Ops.cnt]
    split
    · have := ih2 ⟨s.L ++ [n], s.log, s.out⟩; simp at this ⊢; omega
    split
    · have := ih2 ⟨s.L ++ [wrap64 (-1000000 - n)], s.log, s.out⟩; simp at this ⊢; omega
    split
    · split
      · have := ih2 (s.put 2); simp [St.put] at this ⊢; omega
      · have := ih2 ((s.undo n.toNat).put 0); simp [St.put, St.undo] at this ⊢; omega
    split
    · split
      · have := ih2 (s.put 2); simp [St.put] at this ⊢; omega
      · have := ih2 (St.put ⟨s.L.take n.toNat, s.log, s.out⟩ 0); simp [St.put] at this ⊢; omega
    split
    · simp <;> omega
    split
    · have h1 := ih1 s
      generalize runP kids s = r at h1
      obtain ⟨t, e⟩ := r
      cases e with
      | none => have := ih2 (t.put 0); simp [St.put] at this h1 ⊢; omega
      | some e => have := ih2 ((t.undo (min s.L.length t.L.length)).put e); simp [St.put, St.undo] at this h1 ⊢; omega
    · have := ih2 s; omega

end Go.Proofs.Ytekddnnclbnagaa
