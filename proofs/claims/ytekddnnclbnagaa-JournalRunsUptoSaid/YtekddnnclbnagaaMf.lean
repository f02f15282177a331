/- JournalRuns: the walk of the law. -/
import Derived.Test.YtekddnnclbnagaaMe
namespace Go.Proofs.Ytekddnnclbnagaa
set_option linter.unusedSimpArgs false
set_option linter.unusedVariables false
open Go.RowKit

theorem ms_far {M mb ob : Nat} {s : St} {Lv gv xv : Value} {w w1 : World} (h : MS M mb ob s Lv gv xv w) (hb : ∀ k, M ≤ k → k < w.heap.size → w1.heap[k]? = w.heap[k]?) : MS M mb ob s Lv gv xv w1 :=
  ⟨h.hm, h.ho, (hb _ h.hm (heap_lt h.bm)).trans h.bm, (hb _ h.ho (heap_lt h.bo)).trans h.bo, ownsRow_same h.l (fun k hk => hb k (h.l.lt k hk).1 (h.l.lt k hk).2), ownsRow_same h.g (fun k hk => hb k (h.g.lt k hk).1 (h.g.lt k hk).2), ownsRow_same h.x (fun k hk => hb k (h.x.lt k hk).1 (h.x.lt k hk).2), h.lg, h.lx, h.gx⟩

theorem start_model (M : Nat) (w : World) (hM : w.heap.size = M) (sa : Option Addr) (n cap : Nat) : MS M w.heap.size (w.heap.size + 1) St0 (.slice none 0 0) (.slice none 0 0) (.slice none 0 0) (((w.alloc (.cells #[.slice none 0 0, .slice none 0 0] 51)).alloc (.cells #[.slice none 0 0] 30)).alloc (.cells #[.int .i64 5, .int .i64 0, .slice sa n cap] 55)) := by
  have hn : ∀ k, (Value.slice none 0 0).ownBlock = some k → ∀ v : Value, v.ownBlock ≠ some k := fun k hk => by simp [Value.ownBlock] at hk
  exact ⟨by omega, by omega, alloc_heap (alloc_heap (heap_alloc_new _ _)), alloc_heap (nblock _ _ _ (by simp)), World.ownsRow_nil _ _ _ _, World.ownsRow_nil _ _ _ _, World.ownsRow_nil _ _ _ _, fun k hk => hn k hk _, fun k hk => hn k hk _, fun k hk => hn k hk _⟩

theorem attP_top (l : Ops) : (runP (.cons 5 0 l .nil) St0).1 = (attP l St0).1.put (attP l St0).2 := by rw [runP_5]; rfl

theorem quiet_left {P : Program} {f : FuncId} {args : Array Value} {w : World} {n : Nat} {v : Value}
    (h : Calls P f args (w.drewN n) fun e w' => e = .returned v ∧ w.drewN n = w') : Calls P f args (w.drewN n) fun e w'' => e = .returned v ∧ ∃ m, w'' = w.drewN m :=
  h.mono fun _ _ ⟨he, hm⟩ => ⟨he, n, hm.symm⟩

set_option maxRecDepth 100000 in
set_option maxHeartbeats 4000000 in
theorem runs_core (l : Ops) (hl : l.cnt ≤ 1048576) (sa : Option Addr) (cap : Nat) (w : World) (hs : SliceOps w l sa l.length) :
    Calls Try.prog 7 #[.slice sa l.length cap] w fun e w' => e = .returned (.bool true) ∧ Below w.heap.size w w' := by
  have HS := Lib.hid hs
  have hmf := makeFunc_run
  clear hs
  go_enter Try.func7, Try.ntmps7
  go_wp2_with (go_at_call 11; refine (awake_any _).mono ?_)
  rintro e wa ⟨rfl, hbb⟩
  simp only [alloc_size] at hbb
  have hsz := hbb.size
  simp only [alloc_size] at hsz
  have b0 : Below w.heap.size w wa := ((Below.refl _ _).alloc (Nat.le_refl _) _).trans (hbb.mono (by omega))
  have HSA := Lib.hid (HS.out.below b0 rfl)
  have c0 : wa.cell? ⟨w.heap.size, 0, none⟩ = some (.slice sa l.length cap) := by
    rw [hbb.cell (by show w.heap.size < _; omega)]; rw [cell_of_heap (heap_alloc_new _ _)]; rfl
  have GR := Lib.hid (great_any l hl wa sa cap HSA.out)
  have HB0 := Lib.hid b0
  have HBB := Lib.hid hbb
  clear b0 hbb
  by_cases hg : l.great = true
  · rw [hg] at GR
    go_wp2_with (go_at_call 12; refine GR.out.mono ?_; rintro e w' ⟨rfl, rfl⟩)
    go_ret
    exact ⟨rfl, HB0.out⟩
  · have hg' : l.great = false := by simpa using hg
    rw [hg'] at GR
    have hlim : l.cnt ≤ 60 := by simp [Ops.great] at hg'; omega
    clear hg hg'
    obtain ⟨j1, x1, o1, b1⟩ := start_runs w wa _ (.slice sa l.length cap) HBB.out rfl
    have hbs : ∀ k, U wa.heap.size (RF (wa.heap.size + 1) []) _ k → w.heap.size ≤ k := fun k hk => by
      rcases hk with hk | hk
      · exact jf_base j1.j k hk
      · obtain ⟨lv, hr, h1, h2, _⟩ := j1.s.st
        rcases (rf_of hr k).1 hk with rfl | (hk | hk) | ⟨q, hq, _⟩
        · omega
        · exact (h1.lt k hk).1
        · exact (h2.lt k hk).1
        · cases hq
    have hun : ∀ k c e, e ≠ 3 → e ≠ 47 → e ≠ 29 → e ≠ 1 → (((wa.alloc (.cells #[.slice none 0 0, .bool false] 29)).alloc (.cells #[.pointer (some ⟨wa.heap.size, 0, none⟩), .slice none 0 0, .slice none 0 0] 47)).alloc (.cells #[.pointer (some ⟨wa.heap.size + 1, 0, none⟩)] 45)).heap[k]? = some (.cells c e (0, 0)) → ¬ U wa.heap.size (RF (wa.heap.size + 1) []) (((wa.alloc (.cells #[.slice none 0 0, .bool false] 29)).alloc (.cells #[.pointer (some ⟨wa.heap.size, 0, none⟩), .slice none 0 0, .slice none 0 0] 47)).alloc (.cells #[.pointer (some ⟨wa.heap.size + 1, 0, none⟩)] 45)) k := by
      intro k c e h3 h47 h29 h1 hk hu
      rcases hu with hu | hu
      · exact jf_type j1.j hk h1 h29 hu
      · obtain ⟨lv, hr, g1, g2, _⟩ := j1.s.st
        rcases (rf_of hr k).1 hu with rfl | (hu | hu) | ⟨q, hq, _⟩
        · rw [hr] at hk; simp at hk; exact h47 hk.2.symm
        · exact own_ne hk g1 h3 hu.symm
        · exact own_ne hk g2 h3 hu.symm
        · cases hq
    have hrun := run33 w.heap.size (wa.heap.size + 1) wa.heap.size w rfl l.cnt l (Nat.le_refl _)
    have A := Lib.hid (attempt_top w.heap.size (wa.heap.size + 1) wa.heap.size (wa.heap.size + 1 + 1) w.heap.size w l hrun (by omega) sa cap HS.out _ b1 (by omega) (by simp; omega) j1 hbs x1 o1 (hun _ _ _ (by decide) (by decide) (by decide) (by decide) x1) (hun _ _ _ (by decide) (by decide) (by decide) (by decide) o1))
    have HX := Lib.hid (show _ ∧ _ ∧ _ ∧ _ from ⟨b1, hbs, And.intro x1 (hun _ _ _ (by decide) (by decide) (by decide) (by decide) x1), And.intro o1 (hun _ _ _ (by decide) (by decide) (by decide) (by decide) o1)⟩)
    clear j1 x1 o1 b1 hbs hun hrun
    have hsz2 := attP_size l St0
    have HTOP := Lib.hid (attP_top l)
    generalize attP l St0 = z at A hsz2 HTOP
    obtain ⟨t2, cc⟩ := z
    simp [St0] at hsz2
    simp only at A
    go_wp2_with (first | (go_at_call 12; refine GR.out.mono ?_; rintro e w' ⟨rfl, rfl⟩) | (go_at_call 13; refine A.out.mono ?_))
    clear c0
    rintro e w2 ⟨rfl, all2, big2, ov2, d2, j2⟩
    obtain ⟨b1, hbs, x1, o1⟩ := HX.out
    have x2 := (d2.block _ (heap_lt x1.1) x1.2).trans x1.1
    have o2 := (d2.block _ (heap_lt o1.1) o1.2).trans o1.1
    have b2 := b1.trans (d2.below (by have := b1.size; omega) hbs)
    have hb2 : ∀ k, U wa.heap.size (RF (wa.heap.size + 1) big2) w2 k → w.heap.size ≤ k := fun k hk => by
      rcases Nat.lt_or_ge k w.heap.size with h | h
      · exact hbs k (d2.foot k (by have := b1.size; omega) hk)
      · exact h
    have c1 : w2.cell? ⟨wa.heap.size + 1 + 1, 0, none⟩ = some (.pointer (some ⟨wa.heap.size + 1, 0, none⟩)) := cell_of_heap x2 0
    have c2 : w2.cell? ⟨w.heap.size, 0, none⟩ = some (.slice sa l.length cap) := cell_of_heap o2 0
    obtain ⟨M, hM⟩ : ∃ M, M = w2.heap.size := ⟨_, rfl⟩
    have HMM := Lib.hid hM
    have C0 := mtop34 M w2.heap.size (w2.heap.size + 1) (w2.heap.size + 1 + 1) w2 hM.symm l St0 _ _ _ _ ((((Below.refl M w2).alloc (by omega) _).alloc (by simp; omega) _).alloc (by simp; omega) _) (start_model M w2 hM.symm sa l.length cap) (by simp [St0]; omega) (by simp [St0]; omega) sa cap (HS.out.below b2 rfl) (nblock _ _ _ (by simp))
    have C := Lib.hid (C0.mono fun e w' h => (show e = .returned (.tuple #[.int .i64 0, .bool true]) ∧ MHas M w2.heap.size (w2.heap.size + 1) (t2.put cc) w' ∧ Below M _ w' from ⟨by rw [h.1, top_none]; rfl, by rw [← HTOP.out]; exact h.2.1, h.2.2⟩))
    have HY := Lib.hid (show _ ∧ _ ∧ _ ∧ _ ∧ _ ∧ _ from ⟨j2, d2, b2, hb2, x2, o2⟩)
    have hxl := heap_lt x2
    have hol := heap_lt o2
    clear C0 b1 hbs x1 o1 x2 o2 b2 hb2 j2 d2 hM
    go_wp2_with (go_at_call 34; refine C.out.mono ?_)
    rintro e w4 ⟨rfl, ⟨Lv, gv, xv, hMS⟩, hB4⟩
    obtain ⟨j2, d2, b2, hb2, x2, o2⟩ := HY.out
    have hM := HMM.out
    have b34 : ∀ k, k < w2.heap.size → w4.heap[k]? = w2.heap[k]? := fun k hk => (hB4.block k (by omega)).trans ((Below.heap_alloc _ _ _ (by simp; omega)).trans ((Below.heap_alloc _ _ _ (by simp; omega)).trans (Below.heap_alloc _ _ _ hk)))
    have hs4 : w2.heap.size ≤ w4.heap.size := by have := hB4.size; simp at this; omega
    have b24 : Below w.heap.size w2 w4 := ⟨hB4.os, hB4.tape, hB4.output, hs4, fun k hk => b34 k (by have := b2.size; omega)⟩
    have hFr := rj_framed w.heap.size (wa.heap.size + 1) wa.heap.size t2 ov2 all2 big2
    obtain ⟨j4, hU4⟩ := hFr.fr w2 w4 j2 (fun k hk => b34 k (hFr.inn w2 k j2 hk))
    have x4 := (b34 _ (heap_lt x2)).trans x2
    have y1 : w4.cell? ⟨wa.heap.size + 1 + 1, 0, none⟩ = some (.pointer (some ⟨wa.heap.size + 1, 0, none⟩)) := cell_of_heap x4 0
    obtain ⟨lv, hr4, ho1, ho2, hone⟩ := j4.s.st
    have y3 : w4.cell? ⟨wa.heap.size + 1, 2, none⟩ = some ov2 := cell_of_heap hr4 2
    have y4 : w4.frozen? ⟨wa.heap.size + 1, 2, none⟩ = false := frozen_of_heap hr4 2
    have y6 := heap_lt hr4
    have y7 := heap_lt x4
    have y13 : w.heap.size ≤ w4.heap.size := by have := b2.size; omega
    have HO := Lib.hid (show (w4.alloc (.cells #[.int .i64 cc] 3)).drew.ownsRow w.heap.size 3 1 ov2 t2.out.length (ints t2.out) from ho2.alloc _)
    have HNE := Lib.hid (show ov2.ownBlock ≠ some (wa.heap.size + 1) ∧ ov2.ownBlock ≠ some (wa.heap.size + 1 + 1) from ⟨fun e => own_ne hr4 ho2 (by decide) e.symm, fun e => own_ne x4 ho2 (by decide) e.symm⟩)
    have hUM : ∀ k, U wa.heap.size (RF (wa.heap.size + 1) big2) w4 k → k < M := fun k hk => by have := hFr.inn w2 k j2 (hU4 k hk); omega
    have HZ := Lib.hid (show _ ∧ _ ∧ _ ∧ _ ∧ _ ∧ _ from ⟨j4, b2.trans b24, fun k hk => hb2 k (hU4 k hk), x4, hMS, hUM⟩)
    obtain ⟨i0, hi', hi0, hi1, hi2⟩ := info_parts Try.info3
    clear j2 d2 b2 hb2 x2 o2 hM b34 b24 hFr j4 hU4 x4 hr4 ho1 ho2 hone hMS hB4 c1 c2 hUM
    go_wp2_with fail
    refine but_begin (fun w' => w'.cell? ⟨wa.heap.size + 1 + 1, 0, none⟩ = some (.pointer (some ⟨wa.heap.size + 1, 0, none⟩)) ∧ w'.cell? ⟨wa.heap.size + 1, 2, none⟩ = some ov2) 10 (by kernel_rfl) ?_
    have hHeld : w4.drew.cell? ⟨wa.heap.size + 1 + 1, 0, none⟩ = some (.pointer (some ⟨wa.heap.size + 1, 0, none⟩)) ∧ w4.drew.cell? ⟨wa.heap.size + 1, 2, none⟩ = some ov2 := ⟨y1, y3⟩
    (refine but_take 0 (v := ?_) rfl (by kernel_rfl) (fun _ _ _ h => h) (by assumption) (by rfl) (fun w hw => ?_) ?_; rotate_left; ((try dsimp only at hw); go_simp; try with_reducible rfl); (try simp only [Act.put, List.setIfInBounds_toArray, List.set_cons_zero, List.set_cons_succ]))
    (refine but_take 1 (v := ?_) rfl (by kernel_rfl) (fun _ _ _ h => h) (by assumption) (by rfl) (fun w hw => ?_) ?_; rotate_left; ((try dsimp only at hw); go_simp; try with_reducible rfl); (try simp only [Act.put, List.setIfInBounds_toArray, List.set_cons_zero, List.set_cons_succ]))
    (refine but_take 2 (v := ?_) rfl (by kernel_rfl) (fun _ _ _ h => h) (by assumption) (by rfl) (fun w hw => ?_) ?_; rotate_left; ((try dsimp only at hw); go_simp; try with_reducible rfl); (try simp only [Act.put, List.setIfInBounds_toArray, List.set_cons_zero, List.set_cons_succ]))
    (refine but_take 3 (v := ?_) rfl (by kernel_rfl) (fun _ _ _ h => h) (by assumption) (by rfl) (fun w hw => ?_) ?_; rotate_left; ((try dsimp only at hw); go_simp; try with_reducible rfl); (try simp only [Act.put, List.setIfInBounds_toArray, List.set_cons_zero, List.set_cons_succ]))
    (refine but_take 4 (v := ?_) rfl (by kernel_rfl) (fun _ _ _ h => h) (by assumption) (by rfl) (fun w hw => ?_) ?_; rotate_left; ((try dsimp only at hw); go_simp; try with_reducible rfl); (try simp only [Act.put, List.setIfInBounds_toArray, List.set_cons_zero, List.set_cons_succ]))
    (refine but_take 5 (v := ?_) rfl (by kernel_rfl) (fun _ _ _ h => h) (by assumption) (by rfl) (fun w hw => ?_) ?_; rotate_left; ((try dsimp only at hw); go_simp; try with_reducible rfl); (try simp only [Act.put, List.setIfInBounds_toArray, List.set_cons_zero, List.set_cons_succ]))
    refine but_one 6 rfl (by kernel_rfl) (fun K hK => ?_)
    go_simp
    refine hK.out _ _ ?_ (fun hHeld => ?_)
    · exact ⟨(World.cell?_alloc_lt _ _ _ y7).trans y1, (World.cell?_alloc_lt _ _ _ y6).trans y3⟩
    clear hK K
    refine but_one 7 rfl (by kernel_rfl) (fun K hK => ?_)
    refine step_append_lies _ (by rfl) (.tmp 32) (.tmp 34) 30 (by rfl) w.heap.size 3 i0 (.int .i64 0) 1 8 Try.underlying30 hi' hi0 hi1 hi2 rfl (by decide) ov2 t2.out.length (ints t2.out) (by rfl) HO.out ⟨w4.heap.size, 0, none⟩ 1 1 [.int .i64 cc] (by rfl) (by rfl) (cell_one_new _ _ _) (by simp [Value.oneCell']) (by omega) (by unfold maxLen; omega) (by omega) (by simp; omega) (w4.heap.size + 1) (by simp) ?_
    intro g cap' w1 h1 h2 h3 h4
    have hg2 : (w4.alloc (.cells #[.int .i64 cc] 3)).grownBy w1 ov2.ownBlock := ⟨h2.os, h2.tape, h2.output, h2.size, h2.block⟩
    have z1 := (keep_cell hg2 ⟨wa.heap.size + 1 + 1, 0, none⟩ y7 HNE.out.2).1.trans y1
    have z3 := (keep_cell hg2 ⟨wa.heap.size + 1, 2, none⟩ y6 HNE.out.1).1.trans y3
    have z4 := (keep_cell hg2 ⟨wa.heap.size + 1, 2, none⟩ y6 HNE.out.1).2.trans y4
    have HH := Lib.hid (show _ ∧ _ ∧ _ ∧ _ from ⟨h1, h2, h3, hg2⟩)
    clear h1 h2 h3 h4 hg2 hHeld
    refine hK.out _ _ ⟨z1, z3⟩ (fun hHeld => ?_)
    clear hK K
    try simp only [Act.put, List.setIfInBounds_toArray, List.set_cons_zero, List.set_cons_succ]
    (refine but_take 8 (v := ?_) rfl (by kernel_rfl) (fun _ _ _ h => h) (by assumption) (by rfl) (fun w hw => ?_) ?_; rotate_left; ((try dsimp only at hw); go_simp; try with_reducible rfl); (try simp only [Act.put, List.setIfInBounds_toArray, List.set_cons_zero, List.set_cons_succ]))
    (refine but_take 9 (v := ?_) rfl (by kernel_rfl) (fun _ _ _ h => h) (by assumption) (by rfl) (fun w hw => ?_) ?_; rotate_left; ((try dsimp only at hw); go_simp; try with_reducible rfl); (try simp only [Act.put, List.setIfInBounds_toArray, List.set_cons_zero, List.set_cons_succ]))
    refine but_last rfl (by kernel_rfl) (by kernel_rfl) (fun K hK => ?_)
    go_simp
    refine hK.out _ _ ?_
    clear hK K
    obtain ⟨h1, h2, h3, hg2⟩ := HH.out
    obtain ⟨j4, b4, hb4, x4, hMS, hUM⟩ := HZ.out
    obtain ⟨j5, d5⟩ := put_run (cc := cc) (o := .cells #[.int .i64 cc] 3) j4 (by simpa [ints] using h1) ⟨h2.os, h2.tape, h2.output, h2.size, h2.block⟩ (by
      rcases h3 with h3 | h3
      · exact .inl h3.symm
      · exact .inr (by simp [Value.ownBlock, h3]))
    have b5 := b4.trans (d5.below (fun k hk => by have := b4.size; omega) hb4)
    have hMS5 := ms_far hMS (fun k h1 h2 => d5.block k h2 (fun hu => by have := hUM k hu; omega))
    have x5 : (w1.setCell ⟨wa.heap.size + 1, 2, none⟩ (.slice (some ⟨g, 0, none⟩) (t2.out.length + 1) cap')).heap[wa.heap.size + 1 + 1]? = some (.cells #[.pointer (some ⟨wa.heap.size + 1, 0, none⟩)] 45 (0, 0)) :=
      setCell_heap_ne (((hg2.block _ (by simp; omega) (Ne.symm HNE.out.2)).trans (Below.heap_alloc _ _ _ y7)).trans x4) (by simp) _
    generalize w1.setCell ⟨wa.heap.size + 1, 2, none⟩ (.slice (some ⟨g, 0, none⟩) (t2.out.length + 1) cap') = w5 at *
    clear hHeld
    obtain ⟨⟨la, lc, hc0⟩, _⟩ := j5.j.cells
    obtain ⟨lv5, hr5, hl5, ho5, _⟩ := j5.s.st
    have e0 : w5.cell? ⟨wa.heap.size + 1 + 1, 0, none⟩ = some (.pointer (some ⟨wa.heap.size + 1, 0, none⟩)) := cell_of_heap x5 0
    have e1 : w5.cell? ⟨wa.heap.size + 1, 0, none⟩ = some (.pointer (some ⟨wa.heap.size, 0, none⟩)) := cell_of_heap hr5 0
    have e2 : w5.cell? ⟨wa.heap.size + 1, 1, none⟩ = some lv5 := cell_of_heap hr5 1
    have e3 : w5.cell? ⟨wa.heap.size + 1, 2, none⟩ = some (.slice (some ⟨g, 0, none⟩) (t2.out.length + 1) cap') := cell_of_heap hr5 2
    have e4 : w5.cell? ⟨w2.heap.size, 0, none⟩ = some Lv := cell_of_heap hMS5.bm 0
    have e5 : w5.cell? ⟨w2.heap.size, 1, none⟩ = some gv := cell_of_heap hMS5.bm 1
    have e6 : w5.cell? ⟨w2.heap.size + 1, 0, none⟩ = some xv := cell_of_heap hMS5.bo 0
    have hlen : (t2.put cc).out.length = t2.out.length + 1 := by simp [St.put]
    have hmx := hMS5.x
    rw [hlen] at ho5 hmx
    obtain ⟨xa, xc, hxv, _⟩ := own_slice hmx
    obtain ⟨ga, gc, hgv, _⟩ := own_slice hMS5.g
    obtain ⟨La, Lc, hLv, _⟩ := own_slice hMS5.l
    obtain ⟨va, vc, hlv, _⟩ := own_slice hl5
    subst hxv hgv hLv hlv
    have hll : (t2.put cc).L.length = (List.map cloQ all2).length := by rw [j5.l]; simp
    have hlb : (t2.put cc).log.length < 1000000 := by simp [St.put]; omega
    have hLb : (List.map cloQ all2).length < 1000000 := by rw [← hll]; simp [St.put]; omega
    rw [hll] at e4
    have hg5 := hMS5.g
    generalize (t2.put cc).log.length = N3 at *
    generalize (List.map cloQ all2).length = N2 at *
    have I1 := Lib.hid (fun n => ints_same (t2.out.length + 1) (by omega) _ _ _ cap' xc (w5.drewN n) (ints_at ho5) (ints_at hmx))
    have I2 := Lib.hid (fun n => ints_same N3 (by omega) _ _ _ vc gc (w5.drewN n) (ints_at hl5) (ints_at hg5))
    have LN := Lib.hid (fun n => len_any wa.heap.size la N2 lc (w5.drewN n) hc0 (by unfold maxLen; omega))
    have E := Lib.hid b5
    clear ho5 hmx hl5 hMS5 hg5 hll hc0 hr5 x5 b5 j5 d5 h1 h2 h3 hg2 j4 b4 hb4 x4 hMS hUM hsz2
    go_wp2_with fail
    go_quiet ((first | (go_at_call 16; with_reducible exact Calls.quiet_of (I1.out _)) | (go_at_call 16; with_reducible exact Calls.quiet_of (I2.out _)) | (go_at_call 17; with_reducible exact quiet_left (LN.out _))))
    go_wp2
    go_ret
    exact ⟨rfl, below_drewN E.out nq⟩

theorem runs_walk {H : Type} (enc : TypeId × Value → H) (v0 : Value) (d0 : DataW H) (p0 : List MemPlace) (base : Nat) {w : World}
    (hok : Value.okWide Try.prog w .any base 22 v0) (h : DataW.Trod enc Try.prog w 0 (fun _ => true) true 22 v0 d0 p0) (_ : ∀ x ∈ p0, x.block < w.heap.size) (_ : World) (hk : Rows.uptoSmall H ([d0] ++ []) = true) :
    Calls Try.prog 7 #[v0] w fun e w' => e = .returned (.bool true) ∧ Below w.heap.size w w' := by
  obtain ⟨fuel, hf⟩ := h
  obtain ⟨a, len, cap, l, hcs, hs, _, hb⟩ := trees_open fuel _ _ hf
  obtain ⟨a', len', cap', rfl⟩ := WideShapes.okWide_slice Try.underlying22 hok
  simp [Value.cells] at hcs
  obtain ⟨rfl, rfl, rfl⟩ := hcs
  have hk' := of_decide_eq_true hk
  simp only [List.append_nil, Rows.uptoBulkAll] at hk'
  obtain rfl := hs.1
  exact runs_core l (by simp only at hb; omega) _ _ w hs

end Go.Proofs.Ytekddnnclbnagaa
