/- JournalRuns: the transaction around the whole program. -/
import Derived.Test.YtekddnnclbnagaaMd
namespace Go.Proofs.Ytekddnnclbnagaa
set_option linter.unusedSimpArgs false
set_option linter.unusedVariables false
open Go.RowKit

theorem callFunc32 (cap : Array Value) (w : World) : (callFunc 32 cap).run Try.prog w = .ok (.enter 32 cap) w := by kernel_rfl

def St0 : St := ⟨[], [], []⟩

theorem act32 (B rb jb x o : Nat) (W0 : World) (l : Ops) (hrun : RunSpec B rb jb W0 l) (s : St) (ov : Value) (all big : List QR) (sa : Option Addr) (cap : Nat) (hka : SliceOps W0 l sa l.length)
    (hn1 : s.L.length + s.log.length + l.cnt ≤ 400) (hn2 : s.out.length + l.cnt ≤ 400) (w : World) (hB : Below B W0 w) (hBr : B ≤ rb) (hJ : RJ B rb jb s ov all big w) (hbs : ∀ k, U jb (RF rb big) w k → B ≤ k)
    (hx : w.heap[x]? = some (.cells #[.pointer (some ⟨rb, 0, none⟩)] 45 (0, 0))) (ho : w.heap[o]? = some (.cells #[.slice sa l.length cap] 22 (0, 0))) :
    Calls Try.prog 32 #[.pointer (some ⟨x, 0, none⟩), .pointer (some ⟨o, 0, none⟩)] w fun e w' => ∃ G2, DynH (U jb (RF rb big)) (U jb G2) w w' ∧
      ActEnds B jb G2 all.length
        (fun w => ∃ all2 big2 ov2, G2 = RF rb big2 ∧ RJ B rb jb (runP l s).1 ov2 all2 big2 w ∧ (runP l s).2 = none)
        (fun er w => ∃ all2 big2 ov2, G2 = RF rb big2 ∧ RJ B rb jb ((runP l s).1.undo (min s.L.length (runP l s).1.L.length)) ov2 all2 big2 w ∧ (runP l s).2 = some er) (fun _ _ _ => False) e w' := by
  have P := Lib.hid (hrun w s ov all big sa cap hB hBr hJ hbs hn1 hn2 hka)
  have c1 : w.cell? ⟨x, 0, none⟩ = some (.pointer (some ⟨rb, 0, none⟩)) := by rw [cell_of_heap hx]; rfl
  have c2 : w.cell? ⟨o, 0, none⟩ = some (.slice sa l.length cap) := by rw [cell_of_heap ho]; rfl
  have hs := runP_size l s
  have HL := Lib.hid (show s.L.length = all.length by rw [hJ.l]; simp)
  have HBR := Lib.hid hBr
  clear hJ hB hka hrun hbs hBr hx ho
  generalize hrr : runP l s = rr at *
  have HS := Lib.hid hs
  clear hs hrr
  go_enter Try.func32, Try.ntmps32
  go_wp2_with (go_at_call 33; refine P.out.mono ?_)
  rintro e w2 ⟨all2, big2, ov2, hsub, d2, j2, rfl⟩
  obtain ⟨t, eo⟩ := rr
  cases eo with
  | none =>
    have E := Lib.hid (show _ ∧ _ from ⟨d2, j2⟩)
    clear hsub d2 j2
    go_wp2
    go_end0
    obtain ⟨e2, e3⟩ := E.out
    refine ⟨_, e2, .inl ⟨all2.map cloQ, fun w => RS B rb jb t.log t.out ov2 big2 w, rs_framed _ _ _ _ _ _ _, e3.j, e3.s, rfl, fun w' j x => ?_⟩⟩
    exact ⟨all2, big2, rfl, ov2, ⟨j, x, e3.l, e3.sub⟩⟩
  | some er =>
    have hl2 : t.L.length = all2.length := by rw [j2.l]; simp
    have hsz := HS.out
    have hL := HL.out
    have hBR := HBR.out
    simp only at hsz
    refine ⟨rfl, _, d2, .inr ⟨all2.map cloQ, RIQ B rb jb all2 big2 t.log t.out ov2, riq_undoes B rb jb all2 big2 t.log t.out ov2 j2.sub hBR (by omega), by simp; omega, j2.j, ⟨by simp, by simp, by simpa using j2.s⟩, .inl ⟨er, rfl, fun w' j x => ?_⟩⟩⟩
    have hm : min all.length (all2.map cloQ).length = min s.L.length t.L.length := by simp [hL, hl2]
    rw [hm] at j x
    have hm2 : (List.take (min s.L.length t.L.length) (all2.map cloQ)).length = min s.L.length t.L.length := by simp; omega
    obtain ⟨_, _, i3⟩ := x
    rw [hm2] at i3
    refine ⟨all2.take (min s.L.length t.L.length), big2, ov2, rfl, ⟨by rw [List.map_take]; exact j, ?_, ?_, fun u hu => j2.sub u (List.mem_of_mem_take hu)⟩, rfl⟩
    · have hl3 := j2.l
      simp only at hl3
      simpa [St.undo, hl3, List.map_drop] using i3
    · have hl3 := j2.l
      simp only at hl3
      simp only [St.undo, hl3, List.map_take]

theorem attempt_top (B rb jb x o : Nat) (W0 : World) (l : Ops) (hrun : RunSpec B rb jb W0 l) (hn : l.cnt ≤ 100) (sa : Option Addr) (cap : Nat) (hka : SliceOps W0 l sa l.length) (w : World) (hB : Below B W0 w) (hBr : B ≤ rb) (hBs : B ≤ w.heap.size)
    (hJ : RJ B rb jb St0 (.slice none 0 0) [] [] w) (hbs : ∀ k, U jb (RF rb []) w k → B ≤ k)
    (hx : w.heap[x]? = some (.cells #[.pointer (some ⟨rb, 0, none⟩)] 45 (0, 0))) (ho : w.heap[o]? = some (.cells #[.slice sa l.length cap] 22 (0, 0))) (hxn : ¬ U jb (RF rb []) w x) (hon : ¬ U jb (RF rb []) w o) :
    Calls Try.prog 13 #[.pointer (some ⟨jb, 0, none⟩), .func (.func 32) #[] #[.pointer (some ⟨x, 0, none⟩), .pointer (some ⟨o, 0, none⟩)]] w fun e w' =>
      e = .returned (.int .i64 (attP l St0).2) ∧ ∃ all2 big2 ov2, DynH (U jb (RF rb [])) (U jb (RF rb big2)) w w' ∧ RJ B rb jb (attP l St0).1 ov2 all2 big2 w' := by
  refine (attempt_grow B jb (RS B rb jb [] [] (.slice none 0 0) []) (RF rb []) (rs_framed _ _ _ _ _ _ _) w [] hJ.j hJ.s (by simp) 32 _ (callFunc32 _) _ _ _ (fun w1 j1 x1 d1 => by
    refine act32 B rb jb x o W0 l hrun St0 (.slice none 0 0) [] [] sa cap hka (by simp [St0]; omega) (by simp [St0]; omega) w1 (hB.trans (d1.below (fun k hk => by omega) hbs)) hBr ⟨j1, x1, rfl, fun _ h => h⟩ (fun k hk => ?_)
      ((d1.block x (heap_lt hx) hxn).trans hx) ((d1.block o (heap_lt ho) hon).trans ho)
    rcases Nat.lt_or_ge k B with h | h
    · exact hbs k (d1.foot k (by omega) hk)
    · exact h)).mono ?_
  rintro e w' ⟨G2, d2, ⟨rfl, all2, big2, ov2, rfl, h3, h4⟩ | ⟨er, rfl, all2, big2, ov2, rfl, h3, h4⟩ | ⟨_, _, _, F⟩⟩
  · unfold attP
    generalize runP l St0 = rr at *
    obtain ⟨t, eo⟩ := rr
    simp only at h4
    subst h4
    exact ⟨rfl, all2, big2, ov2, d2, h3⟩
  · unfold attP
    generalize runP l St0 = rr at *
    obtain ⟨t, eo⟩ := rr
    simp only at h4
    subst h4
    exact ⟨rfl, all2, big2, ov2, d2, h3⟩
  · exact F.elim

theorem start_runs (w wa W : World) (sl : Value) (hb : Below (w.heap.size + 1) (w.alloc (.cells #[sl] 22)) wa)
    (hW : W = (((wa.alloc (.cells #[.slice none 0 0, .bool false] 29)).alloc (.cells #[.pointer (some ⟨wa.heap.size, 0, none⟩), .slice none 0 0, .slice none 0 0] 47)).alloc (.cells #[.pointer (some ⟨wa.heap.size + 1, 0, none⟩)] 45))) :
    RJ w.heap.size (wa.heap.size + 1) wa.heap.size St0 (.slice none 0 0) [] [] W ∧
    W.heap[wa.heap.size + 1 + 1]? = some (.cells #[.pointer (some ⟨wa.heap.size + 1, 0, none⟩)] 45 (0, 0)) ∧ W.heap[w.heap.size]? = some (.cells #[sl] 22 (0, 0)) ∧ Below w.heap.size w W := by
  subst hW
  have hs := hb.size
  simp only [alloc_size] at hs
  have a0 : wa.heap[w.heap.size]? = some (.cells #[sl] 22 (0, 0)) := by rw [hb.block _ (by omega)]; exact heap_alloc_new _ _
  refine ⟨⟨⟨by omega, .slice none 0 0, alloc_heap (alloc_heap (heap_alloc_new _ _)), World.ownsRow_nil _ _ _ _⟩, ⟨⟨.slice none 0 0, alloc_heap (nblock _ _ _ (by simp)), World.ownsRow_nil _ _ _ _, World.ownsRow_nil _ _ _ _, fun k hk => by simp [Value.ownBlock] at hk⟩, by simp⟩, rfl, fun _ h => h⟩, nblock _ _ _ (by simp),
    alloc_heap (alloc_heap (alloc_heap a0)), ?_⟩
  have b0 : Below w.heap.size w (w.alloc (.cells #[sl] 22)) := (Below.refl _ _).alloc (Nat.le_refl _) _
  exact (((b0.trans (hb.mono (by omega))).alloc (by omega) _).alloc (by simp; omega) _).alloc (by simp; omega) _

/-- The numbers of a row that is owned. -/
theorem ints_at {w : World} {B n c : Nat} {a : Option Addr} {l : List Int} (h : w.ownsRow B 3 1 (.slice a n c) n (ints l)) : IntsAt w a n (fun j => l.getD j 0) := by
  intro h0
  obtain ⟨a', c', e, hh⟩ := own_slice h
  simp at e
  obtain ⟨rfl, rfl⟩ := e
  obtain ⟨g, rfl, hc⟩ := hh h0
  refine ⟨g, 0, rfl, fun j hj => ?_⟩
  have hl := h.1
  have : (ints l)[j]? = some (.int .i64 (l.getD j 0)) := by
    simp [ints] at hl ⊢
    rw [List.getElem?_eq_getElem (by omega)]
    simp
  rw [Nat.zero_add]
  exact hc j _ this

end Go.Proofs.Ytekddnnclbnagaa
