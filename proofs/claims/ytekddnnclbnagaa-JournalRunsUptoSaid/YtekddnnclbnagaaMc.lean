/- JournalRuns: the reference model's 'Run'. -/
import Derived.Test.YtekddnnclbnagaaMb
import Derived.BigQuiet
import Derived.Deep.QuietTactic
namespace Go.Proofs.Ytekddnnclbnagaa
set_option linter.unusedSimpArgs false
set_option linter.unusedVariables false
open Go.RowKit

theorem ms_same {M mb ob : Nat} {s : St} {Lv gv xv : Value} {w w1 : World} (h : MS M mb ob s Lv gv xv w) (hb : ∀ k, k < w.heap.size → w1.heap[k]? = w.heap[k]?) : MS M mb ob s Lv gv xv w1 :=
  ⟨h.hm, h.ho, (hb _ (heap_lt h.bm)).trans h.bm, (hb _ (heap_lt h.bo)).trans h.bo, ownsRow_same h.l (fun k hk => hb k (h.l.lt k hk).2), ownsRow_same h.g (fun k hk => hb k (h.g.lt k hk).2), ownsRow_same h.x (fun k hk => hb k (h.x.lt k hk).2), h.lg, h.lx, h.gx⟩

theorem ms_app_l {M mb ob : Nat} {s : St} {Lv gv xv v' : Value} {w w1 : World} {x : Int} {o : Obj} (h : MS M mb ob s Lv gv xv w) (h1 : w1.ownsRow M 3 1 v' (s.L.length + 1) (ints s.L ++ [.int .i64 x])) (h2 : ((w.alloc o).drew).grownBy w1 Lv.ownBlock)
    (h3 : v'.ownBlock = Lv.ownBlock ∨ v'.ownBlock = some (w.heap.size + 1)) : MS M mb ob ⟨s.L ++ [x], s.log, s.out⟩ v' gv xv (w1.setCell ⟨mb, 0, none⟩ v') ∧ Below M w (w1.setCell ⟨mb, 0, none⟩ v') :=
  ms_l (q := s.L ++ [x]) h ⟨h2.os, h2.tape, h2.output, by have := h2.size; simp at this; omega⟩ (fun k hk hne => (h2.block k (by simp; omega) hne).trans (Below.heap_alloc _ _ _ hk)) (by simpa [ints] using h1) (by
    rcases h3 with h3 | h3
    · exact .inl h3
    · exact .inr (fun k hk => by rw [h3] at hk; simp at hk; omega))

theorem ms_app_x {M mb ob : Nat} {s : St} {Lv gv xv v' : Value} {w w1 : World} {x : Int} {o : Obj} (h : MS M mb ob s Lv gv xv w) (h1 : w1.ownsRow M 3 1 v' (s.out.length + 1) (ints s.out ++ [.int .i64 x])) (h2 : (w.alloc o).grownBy w1 xv.ownBlock)
    (h3 : v'.ownBlock = xv.ownBlock ∨ v'.ownBlock = some (w.heap.size + 1)) : MS M mb ob (s.put x) Lv gv v' (w1.setCell ⟨ob, 0, none⟩ v') ∧ Below M w (w1.setCell ⟨ob, 0, none⟩ v') :=
  ms_x (q := s.out ++ [x]) h ⟨h2.os, h2.tape, h2.output, by have := h2.size; simp at this; omega⟩ (fun k hk hne => (h2.block k (by simp; omega) hne).trans (Below.heap_alloc _ _ _ hk)) (by simpa [ints] using h1) (by
    rcases h3 with h3 | h3
    · exact .inl h3
    · exact .inr (fun k hk => by rw [h3] at hk; simp at hk; omega))

def MHas (M mb ob : Nat) (s : St) (w : World) : Prop := ∃ Lv gv xv, MS M mb ob s Lv gv xv w

/-- What the model's Run returns. -/
def MEnds (M mb ob : Nat) (r : St × Option Int) (w : World) (e : Ending) (w' : World) : Prop :=
  e = .returned (.tuple #[.int .i64 (r.2.getD 0), .bool r.2.isNone]) ∧ MHas M mb ob r.1 w' ∧ Below M w w'

def MSpec (M mb ob : Nat) (W0 : World) (l : Ops) : Prop :=
  ∀ (w : World) (s : St) (a : Option Addr) (cap : Nat), Below M W0 w → MHas M mb ob s w → s.L.length + s.log.length + l.cnt ≤ 400 → s.out.length + l.cnt ≤ 400 → SliceOps W0 l a l.length →
    Calls Try.prog 34 #[.pointer (some ⟨mb, 0, none⟩), .slice a l.length cap, .pointer (some ⟨ob, 0, none⟩)] w fun e w' => MEnds M mb ob (runP l s) w e w'

def MRel (M mb ob : Nat) (W0 w : World) (s : St) (l : Ops) (b off : Nat) (g : Nat) (v : Value) (wr : World) : Prop :=
  ∃ (i : Nat) (r : Ops) (t : St), i + g = l.length ∧ r.length = g ∧ v = .int .i64 ((i : Nat) : Int) ∧ OpsAt W0 r b (off + i * 3) ∧ runP l s = runP r t ∧
    t.L.length + t.log.length + r.cnt ≤ 400 ∧ t.out.length + r.cnt ≤ 400 ∧ r.cnt ≤ l.cnt ∧ MHas M mb ob t wr ∧ Below M w wr

theorem mrun_nil (M mb ob : Nat) (W0 : World) : MSpec M mb ob W0 .nil := by
  intro w s a cap hB hS hn1 hn2 hs
  have E := Lib.hid (show MEnds M mb ob (runP .nil s) w (.returned (.tuple #[.int .i64 0, .bool true])) w from ⟨rfl, hS, Below.refl _ _⟩)
  clear hB hS hn1 hn2 hs
  simp only [Ops.length]
  go_enter Try.func34, Try.ntmps34
  go_wp2
  refine wp_loop_once ?_
  go_wp2
  go_ret2
  exact E.out

/-- Behind one operation. -/
theorem mrun_next {M mb ob : Nat} {W0 w w2 : World} {s t2 : St} {l r : Ops} {b off i : Nat} (hi : i + (r.length + 1) = l.length) (hat : OpsAt W0 r b (off + i * 3 + 3)) (hr : runP l s = runP r t2)
    (hn1 : t2.L.length + t2.log.length + r.cnt ≤ 400) (hn2 : t2.out.length + r.cnt ≤ 400) (hn3 : r.cnt ≤ l.cnt) (hS : MHas M mb ob t2 w2) (hB : Below M w w2) :
    MRel M mb ob W0 w s l b off r.length (.int .i64 ((i : Int) + 1)) w2 :=
  ⟨i + 1, r, t2, by omega, rfl, by congr 1, by rw [show off + (i + 1) * 3 = off + i * 3 + 3 by omega]; exact hat, hr, hn1, hn2, hn3, hS, hB⟩

set_option maxRecDepth 100000 in
set_option maxHeartbeats 8000000 in
theorem mrun34 (M mb ob : Nat) (W0 : World) (hW0 : W0.heap.size = M) : ∀ (N : Nat) (l : Ops), l.cnt ≤ N → MSpec M mb ob W0 l := by
  intro N
  induction N with
  | zero =>
    intro l hl
    cases l with
    | nil => exact mrun_nil M mb ob W0
    | cons k n kids r => simp [Ops.cnt] at hl
  | succ N ih =>
    intro l hN w s a cap hB hS hn1 hn2 hs
    rcases Nat.eq_zero_or_pos l.length with h0 | h0
    · cases l with
      | nil => exact mrun_nil M mb ob W0 w s a cap hB hS hn1 hn2 hs
      | cons k n kids r => simp [Ops.length] at h0
    · obtain ⟨b, off, rfl, hbl, hat⟩ := hs.2 h0
      have hbz := hB.size
      have S0 := Lib.hid (show MRel M mb ob W0 w s l b off l.length (.int .i64 0) w from
        ⟨0, l, s, by omega, rfl, rfl, by simpa using hat, rfl, hn1, hn2, Nat.le_refl _, hS, Below.refl _ _⟩)
      have hll := l.length_le
      have IH := Lib.hid ih
      have HW := Lib.hid hW0
      have HB0 := Lib.hid hB
      have hll2 : l.length < 1000000 := by omega
      obtain ⟨i0, hi', hi0, hi1, hi2⟩ := info_parts Try.info3
      have HI' := Lib.hid (show _ ∧ _ ∧ _ ∧ _ from ⟨hi', hi0, hi1, hi2⟩)
      clear hS hs hat ih hB hW0 hi' hi0 hi1 hi2
      go_enter Try.func34, Try.ntmps34
      go_wp2
      go_loopg [8] l.length (fun g v wr => MRel M mb ob W0 w s l b off g v wr)
      case atStart => exact S0.out
      case round =>
        obtain ⟨i, r, t, hi, hr, rfl, hat, hrun, hm1, hm2, hm3, hS, hB⟩ := hrel
        cases r with
        | nil =>
          simp only [Ops.length] at hr
          subst hr
          have E := Lib.hid (show MEnds M mb ob (runP l s) w (.returned (.tuple #[.int .i64 0, .bool true])) wr from ⟨by rw [hrun]; rfl, by rw [hrun]; exact hS, hB⟩)
          obtain rfl : i = l.length := by omega
          clear hat hrun hm1 hm2 hm3 hS hB hi
          go_wp2
          go_ret2
          exact E.out
        | cons k n kids r =>
          simp only [Ops.length] at hr
          obtain ⟨Lv, gv, xv, hS⟩ := hS
          have hBW := HB0.out.trans hB
          have hwm : M ≤ wr.heap.size := by have := hBW.size; have := HW.out; omega
          obtain ⟨x0, x1, ⟨ka, kc, x2, hk⟩, wk, wn, hrr⟩ := hat
          have hbc : ∀ o, wr.cell? ⟨b, o, none⟩ = W0.cell? ⟨b, o, none⟩ := fun o => hBW.cell (by show b < _; have := HW.out; omega)
          have c0 : wr.cell? ⟨b, off + i * 3, none⟩ = some (.int .i64 k) := by rw [hbc]; exact x0
          have c1 : wr.cell? ⟨b, off + i * 3 + 1, none⟩ = some (.int .i64 n) := by rw [hbc]; exact x1
          have c2 : wr.cell? ⟨b, off + i * 3 + 2, none⟩ = some (.slice ka kids.length kc) := by rw [hbc]; exact x2
          have hlt : i < l.length := by omega
          have hmb := heap_lt hS.bm
          have hob := heap_lt hS.bo
          have e0 : wr.cell? ⟨mb, 0, none⟩ = some Lv := cell_of_heap hS.bm 0
          have hlL : t.L.length < 1000 := by omega
          have HAT := Lib.hid hrr
          have HK := Lib.hid hk
          have HM := Lib.hid (show _ ∧ _ ∧ _ from ⟨hm1, hm2, hm3⟩)
          have HRUN := Lib.hid hrun
          have HI := Lib.hid (show i + (r.length + 1) = l.length by omega)
          have HG := Lib.hid hr
          have hcc := HM.out
          simp only [Ops.cnt] at hcc
          have HBW := Lib.hid hBW
          clear hk hrr hrun hm1 hm2 hm3 wk wn hi hBW x0 x1 x2 hbc
          subst hr
          obtain ⟨hi', hi0, hi1, hi2⟩ := HI'.out
          have NX := Lib.hid (fun (t2 : St) (w2 : World) hr3 g1 g2 (hS3 : MHas M mb ob t2 w2) (hB3 : Below M w w2) => mrun_next (t2 := t2) (w2 := w2) (s := s) HI.out HAT.out hr3 g1 g2 (by have := HM.out; simp only [Ops.cnt] at this; omega) hS3 hB3)
          by_cases k1 : k = 1
          · subst k1
            have hH : (wr.alloc (.cells #[.int .i64 1, .int .i64 n, .slice ka kids.length kc] 55)).drew.cell? ⟨mb, 0, none⟩ = some Lv ∧ (wr.alloc (.cells #[.int .i64 1, .int .i64 n, .slice ka kids.length kc] 55)).drew.cell? ⟨wr.heap.size, 1, none⟩ = some (.int .i64 n) := ⟨(World.cell?_alloc_lt _ _ _ hmb).trans e0, cell_of_heap (heap_alloc_new _ _) 1⟩
            have hfz : (wr.alloc (.cells #[.int .i64 1, .int .i64 n, .slice ka kids.length kc] 55)).frozen? ⟨mb, 0, none⟩ = false := frozen_of_heap (alloc_heap hS.bm) 0
            have HSA := Lib.hid (show MS M mb ob t Lv gv xv (wr.alloc (.cells #[.int .i64 1, .int .i64 n, .slice ka kids.length kc] 55)) ∧ Below M w (wr.alloc (.cells #[.int .i64 1, .int .i64 n, .slice ka kids.length kc] 55)) from ⟨ms_same hS (fun k hk => Below.heap_alloc _ _ _ hk), hB.alloc hwm _⟩)
            clear hS hB
            go_wp2_with fail
            refine but_begin (fun w' => w'.cell? ⟨mb, 0, none⟩ = some Lv ∧ w'.cell? ⟨wr.heap.size, 1, none⟩ = some (.int .i64 n)) 11 (by kernel_rfl) ?_
            (refine but_take 0 (v := ?_) rfl (by kernel_rfl) (fun _ _ _ h => h) (by assumption) (by rfl) (fun w hw => ?_) ?_; rotate_left; ((try dsimp only at hw); go_simp; try with_reducible rfl); (try simp only [Act.put, List.setIfInBounds_toArray, List.set_cons_zero, List.set_cons_succ]))
            (refine but_take 1 (v := ?_) rfl (by kernel_rfl) (fun _ _ _ h => h) (by assumption) (by rfl) (fun w hw => ?_) ?_; rotate_left; ((try dsimp only at hw); go_simp; try with_reducible rfl); (try simp only [Act.put, List.setIfInBounds_toArray, List.set_cons_zero, List.set_cons_succ]))
            (refine but_take 2 (v := ?_) rfl (by kernel_rfl) (fun _ _ _ h => h) (by assumption) (by rfl) (fun w hw => ?_) ?_; rotate_left; ((try dsimp only at hw); go_simp; try with_reducible rfl); (try simp only [Act.put, List.setIfInBounds_toArray, List.set_cons_zero, List.set_cons_succ]))
            (refine but_take 3 (v := ?_) rfl (by kernel_rfl) (fun _ _ _ h => h) (by assumption) (by rfl) (fun w hw => ?_) ?_; rotate_left; ((try dsimp only at hw); go_simp; try with_reducible rfl); (try simp only [Act.put, List.setIfInBounds_toArray, List.set_cons_zero, List.set_cons_succ]))
            (refine but_take 4 (v := ?_) rfl (by kernel_rfl) (fun _ _ _ h => h) (by assumption) (by rfl) (fun w hw => ?_) ?_; rotate_left; ((try dsimp only at hw); go_simp; try with_reducible rfl); (try simp only [Act.put, List.setIfInBounds_toArray, List.set_cons_zero, List.set_cons_succ]))
            (refine but_take 5 (v := ?_) rfl (by kernel_rfl) (fun _ _ _ h => h) (by assumption) (by rfl) (fun w hw => ?_) ?_; rotate_left; ((try dsimp only at hw); go_simp; try with_reducible rfl); (try simp only [Act.put, List.setIfInBounds_toArray, List.set_cons_zero, List.set_cons_succ]))
            (refine but_take 6 (v := ?_) rfl (by kernel_rfl) (fun _ _ _ h => h) (by assumption) (by rfl) (fun w hw => ?_) ?_; rotate_left; ((try dsimp only at hw); go_simp; try with_reducible rfl); (try simp only [Act.put, List.setIfInBounds_toArray, List.set_cons_zero, List.set_cons_succ]))
            have HO := Lib.hid (show (((wr.alloc (.cells #[.int .i64 1, .int .i64 n, .slice ka kids.length kc] 55)).alloc (.cells #[.int .i64 n] 3)).drew).ownsRow M 3 1 Lv t.L.length (ints t.L) from HSA.out.1.l.alloc _)
            have HNB := Lib.hid (show Lv.ownBlock ≠ some mb from fun e => own_ne HSA.out.1.bm HSA.out.1.l (by decide) e.symm)
            have HNC := Lib.hid (show Lv.ownBlock ≠ some wr.heap.size from fun e => by have h7 := own_ne (heap_alloc_new _ _) HSA.out.1.l (by decide); exact h7 e.symm)
            generalize hWA : (wr.alloc (.cells #[.int .i64 1, .int .i64 n, .slice ka kids.length kc] 55)) = WA at *
            have hws : WA.heap.size = wr.heap.size + 1 := by rw [← hWA]; simp
            refine but_one 7 rfl (by kernel_rfl) (fun K hK => ?_)
            go_simp
            refine hK.out _ _ ?_ (fun hHeld => ?_)
            · exact ⟨(World.cell?_alloc_lt _ _ _ (by show mb < _; omega)).trans hH.1, (World.cell?_alloc_lt _ _ _ (by show wr.heap.size < _; omega)).trans hH.2⟩
            clear hK K
            refine but_one 8 rfl (by kernel_rfl) (fun K hK => ?_)
            refine step_append_any (by rfl) (.tmp 31) (.tmp 34) 30 (by rfl) M 3 i0 (.int .i64 0) 1 8 Try.underlying30 hi' hi0 hi1 hi2 rfl (by decide) Lv _ (ints t.L) (by rfl) HO.out ⟨wr.heap.size + 1, 0, none⟩ 1 1 [.int .i64 n] (by rfl) (by rfl) (by rw [← hws]; exact World.news_of_block (cs := #[.int .i64 n]) (t := 3) (fr := (0, 0)) (heap_alloc_new _ _)) (by simp [Value.oneCell']) (by unfold maxLen; omega) (by omega) (by simp; omega) ?_
            intro ga cap w1 h1 h2 h3
            have hg2 : (WA.alloc (.cells #[.int .i64 n] 3)).grownBy w1 Lv.ownBlock := ⟨h2.os, h2.tape, h2.output, h2.size, h2.block⟩
            have z0 := (keep_cell hg2 ⟨mb, 0, none⟩ (by show mb < _; omega) HNB.out).1.trans hH.1
            have z1 := (keep_cell hg2 ⟨wr.heap.size, 1, none⟩ (by show wr.heap.size < _; omega) HNC.out).1.trans hH.2
            have z3 := (keep_cell hg2 ⟨mb, 0, none⟩ (by show mb < _; omega) HNB.out).2.trans hfz
            have HH := Lib.hid (show _ ∧ _ ∧ _ from ⟨h1, h2, h3⟩)
            clear h1 h2 h3 hg2 hHeld
            refine hK.out _ _ ⟨z0, z1⟩ (fun hHeld => ?_)
            clear hK K
            try simp only [Act.put, List.setIfInBounds_toArray, List.set_cons_zero, List.set_cons_succ]
            (refine but_take 9 (v := ?_) rfl (by kernel_rfl) (fun _ _ _ h => h) (by assumption) (by rfl) (fun w hw => ?_) ?_; rotate_left; ((try dsimp only at hw); go_simp; try with_reducible rfl); (try simp only [Act.put, List.setIfInBounds_toArray, List.set_cons_zero, List.set_cons_succ]))
            (refine but_take 10 (v := ?_) rfl (by kernel_rfl) (fun _ _ _ h => h) (by assumption) (by rfl) (fun w hw => ?_) ?_; rotate_left; ((try dsimp only at hw); go_simp; try with_reducible rfl); (try simp only [Act.put, List.setIfInBounds_toArray, List.set_cons_zero, List.set_cons_succ]))
            refine but_last rfl (by kernel_rfl) (by kernel_rfl) (fun K hK => ?_)
            go_simp
            refine hK.out _ _ ?_
            clear hK K
            obtain ⟨h1, h2, h3⟩ := HH.out
            have MSn := ms_app_l HSA.out.1 h1 h2 (by simpa using h3)
            have F := Lib.hid (NX.out _ _ (by rw [HRUN.out]; simp [runP, wrap_kind]) (by simp; omega) (by simp; omega) ⟨_, _, _, MSn.1⟩ (HSA.out.2.trans MSn.2))
            clear h1 h2 h3 MSn
            go_wp2
            go_roundg r.length
            case measure => omega
            case rel => exact F.out
          · have k1' : (k == 1) = false := by simpa using k1
            by_cases k6 : k = 6
            · obtain ⟨m6, hm6⟩ : ∃ m6, IntKind.i64.wrap (-1000000 - n) = m6 := ⟨_, rfl⟩
              subst k6
              have hH : (wr.alloc (.cells #[.int .i64 6, .int .i64 n, .slice ka kids.length kc] 55)).drew.cell? ⟨mb, 0, none⟩ = some Lv ∧ (wr.alloc (.cells #[.int .i64 6, .int .i64 n, .slice ka kids.length kc] 55)).drew.cell? ⟨wr.heap.size, 1, none⟩ = some (.int .i64 n) := ⟨(World.cell?_alloc_lt _ _ _ hmb).trans e0, cell_of_heap (heap_alloc_new _ _) 1⟩
              have hfz : (wr.alloc (.cells #[.int .i64 6, .int .i64 n, .slice ka kids.length kc] 55)).frozen? ⟨mb, 0, none⟩ = false := frozen_of_heap (alloc_heap hS.bm) 0
              have HSA := Lib.hid (show MS M mb ob t Lv gv xv (wr.alloc (.cells #[.int .i64 6, .int .i64 n, .slice ka kids.length kc] 55)) ∧ Below M w (wr.alloc (.cells #[.int .i64 6, .int .i64 n, .slice ka kids.length kc] 55)) from ⟨ms_same hS (fun k hk => Below.heap_alloc _ _ _ hk), hB.alloc hwm _⟩)
              clear hS hB
              go_wp2_with fail
              refine but_begin (fun w' => w'.cell? ⟨mb, 0, none⟩ = some Lv ∧ w'.cell? ⟨wr.heap.size, 1, none⟩ = some (.int .i64 n)) 12 (by kernel_rfl) ?_
              (refine but_take 0 (v := ?_) rfl (by kernel_rfl) (fun _ _ _ h => h) (by assumption) (by rfl) (fun w hw => ?_) ?_; rotate_left; ((try dsimp only at hw); go_simp; try with_reducible rfl); (try simp only [Act.put, List.setIfInBounds_toArray, List.set_cons_zero, List.set_cons_succ]))
              (refine but_take 1 (v := ?_) rfl (by kernel_rfl) (fun _ _ _ h => h) (by assumption) (by rfl) (fun w hw => ?_) ?_; rotate_left; ((try dsimp only at hw); go_simp; try with_reducible rfl); (try simp only [Act.put, List.setIfInBounds_toArray, List.set_cons_zero, List.set_cons_succ]))
              (refine but_take 2 (v := ?_) rfl (by kernel_rfl) (fun _ _ _ h => h) (by assumption) (by rfl) (fun w hw => ?_) ?_; rotate_left; ((try dsimp only at hw); go_simp; try with_reducible rfl); (try simp only [Act.put, List.setIfInBounds_toArray, List.set_cons_zero, List.set_cons_succ]))
              (refine but_take 3 (v := ?_) rfl (by kernel_rfl) (fun _ _ _ h => h) (by assumption) (by rfl) (fun w hw => ?_) ?_; rotate_left; ((try dsimp only at hw); go_simp; try with_reducible rfl); (try simp only [Act.put, List.setIfInBounds_toArray, List.set_cons_zero, List.set_cons_succ]))
              (refine but_take 4 (v := ?_) rfl (by kernel_rfl) (fun _ _ _ h => h) (by assumption) (by rfl) (fun w hw => ?_) ?_; rotate_left; ((try dsimp only at hw); go_simp; try with_reducible rfl); (try simp only [Act.put, List.setIfInBounds_toArray, List.set_cons_zero, List.set_cons_succ]))
              (refine but_take 5 (v := ?_) rfl (by kernel_rfl) (fun _ _ _ h => h) (by assumption) (by rfl) (fun w hw => ?_) ?_; rotate_left; ((try dsimp only at hw); go_simp; try with_reducible rfl); (try simp only [Act.put, List.setIfInBounds_toArray, List.set_cons_zero, List.set_cons_succ]))
              (refine but_take 6 (v := ?_) rfl (by kernel_rfl) (fun _ _ _ h => h) (by assumption) (by rfl) (fun w hw => ?_) ?_; rotate_left; ((try dsimp only at hw); go_simp; try with_reducible rfl); (try simp only [Act.put, List.setIfInBounds_toArray, List.set_cons_zero, List.set_cons_succ]))
              (refine but_take 7 (v := ?_) rfl (by kernel_rfl) (fun _ _ _ h => h) (by assumption) (by rfl) (fun w hw => ?_) ?_; rotate_left; ((try dsimp only at hw); go_simp; try with_reducible rfl); (try simp only [Act.put, List.setIfInBounds_toArray, List.set_cons_zero, List.set_cons_succ]))
              have HO := Lib.hid (show (((wr.alloc (.cells #[.int .i64 6, .int .i64 n, .slice ka kids.length kc] 55)).alloc (.cells #[.int .i64 m6] 3)).drew).ownsRow M 3 1 Lv t.L.length (ints t.L) from HSA.out.1.l.alloc _)
              have HNB := Lib.hid (show Lv.ownBlock ≠ some mb from fun e => own_ne HSA.out.1.bm HSA.out.1.l (by decide) e.symm)
              have HNC := Lib.hid (show Lv.ownBlock ≠ some wr.heap.size from fun e => by have h7 := own_ne (heap_alloc_new _ _) HSA.out.1.l (by decide); exact h7 e.symm)
              generalize hWA : (wr.alloc (.cells #[.int .i64 6, .int .i64 n, .slice ka kids.length kc] 55)) = WA at *
              have hws : WA.heap.size = wr.heap.size + 1 := by rw [← hWA]; simp
              refine but_one 8 rfl (by kernel_rfl) (fun K hK => ?_)
              go_simp
              refine hK.out _ _ ?_ (fun hHeld => ?_)
              · exact ⟨(World.cell?_alloc_lt _ _ _ (by show mb < _; omega)).trans hH.1, (World.cell?_alloc_lt _ _ _ (by show wr.heap.size < _; omega)).trans hH.2⟩
              clear hK K
              refine but_one 9 rfl (by kernel_rfl) (fun K hK => ?_)
              refine step_append_any (by rfl) (.tmp 44) (.tmp 48) 30 (by rfl) M 3 i0 (.int .i64 0) 1 8 Try.underlying30 hi' hi0 hi1 hi2 rfl (by decide) Lv _ (ints t.L) (by rfl) HO.out ⟨wr.heap.size + 1, 0, none⟩ 1 1 [.int .i64 m6] (by rfl) (by rfl) (by rw [← hws]; exact World.news_of_block (cs := #[.int .i64 m6]) (t := 3) (fr := (0, 0)) (heap_alloc_new _ _)) (by simp [Value.oneCell']) (by unfold maxLen; omega) (by omega) (by simp; omega) ?_
              intro ga cap w1 h1 h2 h3
              have hg2 : (WA.alloc (.cells #[.int .i64 m6] 3)).grownBy w1 Lv.ownBlock := ⟨h2.os, h2.tape, h2.output, h2.size, h2.block⟩
              have z0 := (keep_cell hg2 ⟨mb, 0, none⟩ (by show mb < _; omega) HNB.out).1.trans hH.1
              have z1 := (keep_cell hg2 ⟨wr.heap.size, 1, none⟩ (by show wr.heap.size < _; omega) HNC.out).1.trans hH.2
              have z3 := (keep_cell hg2 ⟨mb, 0, none⟩ (by show mb < _; omega) HNB.out).2.trans hfz
              have HH := Lib.hid (show _ ∧ _ ∧ _ from ⟨h1, h2, h3⟩)
              clear h1 h2 h3 hg2 hHeld
              refine hK.out _ _ ⟨z0, z1⟩ (fun hHeld => ?_)
              clear hK K
              try simp only [Act.put, List.setIfInBounds_toArray, List.set_cons_zero, List.set_cons_succ]
              (refine but_take 10 (v := ?_) rfl (by kernel_rfl) (fun _ _ _ h => h) (by assumption) (by rfl) (fun w hw => ?_) ?_; rotate_left; ((try dsimp only at hw); go_simp; try with_reducible rfl); (try simp only [Act.put, List.setIfInBounds_toArray, List.set_cons_zero, List.set_cons_succ]))
              (refine but_take 11 (v := ?_) rfl (by kernel_rfl) (fun _ _ _ h => h) (by assumption) (by rfl) (fun w hw => ?_) ?_; rotate_left; ((try dsimp only at hw); go_simp; try with_reducible rfl); (try simp only [Act.put, List.setIfInBounds_toArray, List.set_cons_zero, List.set_cons_succ]))
              refine but_last rfl (by kernel_rfl) (by kernel_rfl) (fun K hK => ?_)
              go_simp
              refine hK.out _ _ ?_
              clear hK K
              obtain ⟨h1, h2, h3⟩ := HH.out
              have MSn := ms_app_l HSA.out.1 h1 h2 (by simpa using h3)
              have F := Lib.hid (NX.out _ _ (by rw [HRUN.out]; simp [runP, ← wrap_kind, hm6]) (by simp; omega) (by simp; omega) ⟨_, _, _, MSn.1⟩ (HSA.out.2.trans MSn.2))
              clear h1 h2 h3 MSn
              go_wp2
              go_roundg r.length
              case measure => omega
              case rel => exact F.out
            · have k6' : (k == 6) = false := by simpa using k6
              by_cases k2 : k = 2
              · subst k2
                have HSA := Lib.hid (show MS M mb ob t Lv gv xv (wr.alloc (.cells #[.int .i64 2, .int .i64 n, .slice ka kids.length kc] 55)) ∧ Below M w (wr.alloc (.cells #[.int .i64 2, .int .i64 n, .slice ka kids.length kc] 55)) from ⟨ms_same hS (fun k hk => Below.heap_alloc _ _ _ hk), hB.alloc hwm _⟩)
                have a0 : (wr.alloc (.cells #[.int .i64 2, .int .i64 n, .slice ka kids.length kc] 55)).cell? ⟨mb, 0, none⟩ = some Lv := (World.cell?_alloc_lt _ _ _ hmb).trans e0
                clear hS hB
                by_cases hneg : n < 0
                · have hd : decide (n < 0) = true := by simpa using hneg
                  obtain ⟨t2, ht2⟩ : ∃ t2, t2 = t := ⟨_, rfl⟩
                  have HRU := Lib.hid (show runP l s = runP r (t2.put 2) by rw [HRUN.out, runP_2, ht2]; simp [undoN, codeN, badN, hneg])
                  have HN := Lib.hid hneg
                  go_wp2_with fail
                  go_quiet (fail)
                  have HSD := Lib.hid (show MS M mb ob t Lv gv xv ((wr.alloc (.cells #[.int .i64 2, .int .i64 n, .slice ka kids.length kc] 55)).drewN nq) ∧ Below M w ((wr.alloc (.cells #[.int .i64 2, .int .i64 n, .slice ka kids.length kc] 55)).drewN nq) from ⟨ms_same HSA.out.1 (fun _ _ => rfl), HSA.out.2.trans ⟨rfl, rfl, rfl, Nat.le_refl _, fun _ _ => rfl⟩⟩)
                  have d0 : ((wr.alloc (.cells #[.int .i64 2, .int .i64 n, .slice ka kids.length kc] 55)).drewN nq).cell? ⟨wr.heap.size, 0, none⟩ = some (.int .i64 2) := cell_of_heap (heap_alloc_new wr _) 0
                  have d1 : ((wr.alloc (.cells #[.int .i64 2, .int .i64 n, .slice ka kids.length kc] 55)).drewN nq).cell? ⟨wr.heap.size, 1, none⟩ = some (.int .i64 n) := cell_of_heap (heap_alloc_new wr _) 1
                  generalize (wr.alloc (.cells #[.int .i64 2, .int .i64 n, .slice ka kids.length kc] 55)).drewN nq = WD at *
                  subst ht2
                  have hx0 : WD.cell? ⟨ob, 0, none⟩ = some xv := cell_of_heap HSD.out.1.bo 0
                  have hxf : WD.frozen? ⟨ob, 0, none⟩ = false := frozen_of_heap HSD.out.1.bo 0
                  have HXO := Lib.hid (show (WD.alloc (.cells #[.int .i64 2] 3)).ownsRow M 3 1 xv t2.out.length (ints t2.out) from HSD.out.1.x.alloc _)
                  have HXN := Lib.hid (show xv.ownBlock ≠ some ob from fun e => own_ne HSD.out.1.bo HSD.out.1.x (by decide) e.symm)
                  have hobw : ob < WD.heap.size := heap_lt HSD.out.1.bo
                  have hMw : M ≤ WD.heap.size := by have := HSD.out.1.ho; omega
                  go_wp2_with (at_builtin; refine wpList_append_lies _ rfl (.tmp 71) (.tmp 72) 30 rfl M 3 i0 (.int .i64 0) 1 8 Try.underlying30 hi' hi0 hi1 hi2 rfl (by decide) xv t2.out.length (ints t2.out) rfl HXO.out ⟨WD.heap.size, 0, none⟩ 1 1 [.int .i64 2] rfl rfl (World.news_of_block (cs := #[.int .i64 2]) (t := 3) (fr := (0, 0)) (heap_alloc_new _ _)) (by simp [Value.oneCell']) (by omega) (by unfold maxLen; omega) (by omega) (by simp; omega) (WD.heap.size + 1) (by simp) ?_; intro ga cap w1 h1 h2 h3 h4; have z0 := (keep_cell h2 ⟨ob, 0, none⟩ hobw HXN.out).1.trans hx0; have z1 := (keep_cell h2 ⟨ob, 0, none⟩ hobw HXN.out).2.trans hxf; have HH := Lib.hid (show _ ∧ _ ∧ _ from ⟨h1, h2, h3⟩); clear h1 h2 h3 h4)
                  obtain ⟨h1, h2, h3⟩ := HH.out
                  have MSn := ms_app_x HSD.out.1 h1 h2 (by
                    rcases h3 with h3 | h3
                    · exact .inl h3.symm
                    · exact .inr (by simp [Value.ownBlock, h3]))
                  have F := Lib.hid (NX.out _ _ (HRU.out) (by simp only [St.put]; omega) (by simp only [St.put]; simp; omega) ⟨_, _, _, MSn.1⟩ (HSD.out.2.trans MSn.2))
                  clear h1 h2 h3 MSn
                  go_roundg r.length
                  case measure => omega
                  case rel => exact F.out

                · have hd : decide (n < 0) = false := by simpa using hneg
                  obtain ⟨la, lc, hLv, _⟩ := own_slice HSA.out.1.l
                  subst hLv
                  by_cases hbig : (t.L.length : Int) < n
                  · have hd2 : decide ((t.L.length : Int) < n) = true := by simpa using hbig
                    obtain ⟨t2, ht2⟩ : ∃ t2, t2 = t := ⟨_, rfl⟩
                    have HRU := Lib.hid (show runP l s = runP r (t2.put 2) by rw [HRUN.out, runP_2, ht2]; simp [undoN, codeN, badN, hbig])
                    go_wp2_with fail
                    go_quiet (fail)
                    have HSD := Lib.hid (show MS M mb ob t (.slice la t.L.length lc) gv xv ((wr.alloc (.cells #[.int .i64 2, .int .i64 n, .slice ka kids.length kc] 55)).drewN nq) ∧ Below M w ((wr.alloc (.cells #[.int .i64 2, .int .i64 n, .slice ka kids.length kc] 55)).drewN nq) from ⟨ms_same HSA.out.1 (fun _ _ => rfl), HSA.out.2.trans ⟨rfl, rfl, rfl, Nat.le_refl _, fun _ _ => rfl⟩⟩)
                    have d0 : ((wr.alloc (.cells #[.int .i64 2, .int .i64 n, .slice ka kids.length kc] 55)).drewN nq).cell? ⟨wr.heap.size, 0, none⟩ = some (.int .i64 2) := cell_of_heap (heap_alloc_new wr _) 0
                    have d1 : ((wr.alloc (.cells #[.int .i64 2, .int .i64 n, .slice ka kids.length kc] 55)).drewN nq).cell? ⟨wr.heap.size, 1, none⟩ = some (.int .i64 n) := cell_of_heap (heap_alloc_new wr _) 1
                    generalize (wr.alloc (.cells #[.int .i64 2, .int .i64 n, .slice ka kids.length kc] 55)).drewN nq = WD at *
                    subst ht2
                    have hx0 : WD.cell? ⟨ob, 0, none⟩ = some xv := cell_of_heap HSD.out.1.bo 0
                    have hxf : WD.frozen? ⟨ob, 0, none⟩ = false := frozen_of_heap HSD.out.1.bo 0
                    have HXO := Lib.hid (show (WD.alloc (.cells #[.int .i64 2] 3)).ownsRow M 3 1 xv t2.out.length (ints t2.out) from HSD.out.1.x.alloc _)
                    have HXN := Lib.hid (show xv.ownBlock ≠ some ob from fun e => own_ne HSD.out.1.bo HSD.out.1.x (by decide) e.symm)
                    have hobw : ob < WD.heap.size := heap_lt HSD.out.1.bo
                    have hMw : M ≤ WD.heap.size := by have := HSD.out.1.ho; omega
                    go_wp2_with (at_builtin; refine wpList_append_lies _ rfl (.tmp 71) (.tmp 72) 30 rfl M 3 i0 (.int .i64 0) 1 8 Try.underlying30 hi' hi0 hi1 hi2 rfl (by decide) xv t2.out.length (ints t2.out) rfl HXO.out ⟨WD.heap.size, 0, none⟩ 1 1 [.int .i64 2] rfl rfl (World.news_of_block (cs := #[.int .i64 2]) (t := 3) (fr := (0, 0)) (heap_alloc_new _ _)) (by simp [Value.oneCell']) (by omega) (by unfold maxLen; omega) (by omega) (by simp; omega) (WD.heap.size + 1) (by simp) ?_; intro ga cap w1 h1 h2 h3 h4; have z0 := (keep_cell h2 ⟨ob, 0, none⟩ hobw HXN.out).1.trans hx0; have z1 := (keep_cell h2 ⟨ob, 0, none⟩ hobw HXN.out).2.trans hxf; have HH := Lib.hid (show _ ∧ _ ∧ _ from ⟨h1, h2, h3⟩); clear h1 h2 h3 h4)
                    obtain ⟨h1, h2, h3⟩ := HH.out
                    have MSn := ms_app_x HSD.out.1 h1 h2 (by
                      rcases h3 with h3 | h3
                      · exact .inl h3.symm
                      · exact .inr (by simp [Value.ownBlock, h3]))
                    have F := Lib.hid (NX.out _ _ (HRU.out) (by simp only [St.put]; omega) (by simp only [St.put]; simp; omega) ⟨_, _, _, MSn.1⟩ (HSD.out.2.trans MSn.2))
                    clear h1 h2 h3 MSn
                    go_roundg r.length
                    case measure => omega
                    case rel => exact F.out

                  · have hd2 : decide ((t.L.length : Int) < n) = false := by simpa using hbig
                    obtain ⟨b0, hb0⟩ : ∃ b0 : Nat, n = b0 := ⟨n.toNat, by omega⟩
                    subst hb0
                    have HRU := Lib.hid (show runP l s = runP r (St.put ⟨t.L.take b0, cutLog true t b0, t.out⟩ 0) by rw [HRUN.out, runP_2]; simp [undoN, codeN, badN, hbig, hneg, cutLog, St.undo])
                    go_wp2_with fail
                    go_quiet (fail)
                    have HSD := Lib.hid (show MS M mb ob t (.slice la t.L.length lc) gv xv ((wr.alloc (.cells #[.int .i64 2, .int .i64 b0, .slice ka kids.length kc] 55)).drewN nq) ∧ Below M w ((wr.alloc (.cells #[.int .i64 2, .int .i64 b0, .slice ka kids.length kc] 55)).drewN nq) from ⟨ms_same HSA.out.1 (fun _ _ => rfl), HSA.out.2.trans ⟨rfl, rfl, rfl, Nat.le_refl _, fun _ _ => rfl⟩⟩)
                    have d0 : ((wr.alloc (.cells #[.int .i64 2, .int .i64 b0, .slice ka kids.length kc] 55)).drewN nq).cell? ⟨wr.heap.size, 0, none⟩ = some (.int .i64 2) := cell_of_heap (heap_alloc_new wr _) 0
                    have d1 : ((wr.alloc (.cells #[.int .i64 2, .int .i64 b0, .slice ka kids.length kc] 55)).drewN nq).cell? ⟨wr.heap.size, 1, none⟩ = some (.int .i64 b0) := cell_of_heap (heap_alloc_new wr _) 1
                    generalize (wr.alloc (.cells #[.int .i64 2, .int .i64 b0, .slice ka kids.length kc] 55)).drewN nq = WD at *

                    have C := Lib.hid (cut55 M mb ob t (.slice la t.L.length lc) gv xv b0 true WD HSD.out.1 (by omega) (by omega) (by have := HSD.out.1.hm; have := heap_lt HSD.out.1.bm; omega))
                    go_wp2_with (go_at_call 55; refine C.out.mono ?_)
                    rintro e w2 ⟨rfl, ⟨Lv2, gv2, hS2⟩, hB2⟩
                    obtain ⟨t2, ht2⟩ : ∃ t2, (⟨t.L.take b0, cutLog true t b0, t.out⟩ : St) = t2 := ⟨_, rfl⟩
                    have hsz2 : t2.L.length + t2.log.length ≤ t.L.length + t.log.length ∧ t2.out.length ≤ t.out.length := by rw [← ht2]; simp [cutLog]; omega
                    rw [ht2] at hS2 HRU
                    have HSD2 := Lib.hid (show MS M mb ob t2 Lv2 gv2 xv w2 ∧ Below M w w2 from ⟨hS2, HSD.out.2.trans hB2⟩)
                    clear hS2 hB2 HSD HSA
                    have hx0 : w2.cell? ⟨ob, 0, none⟩ = some xv := cell_of_heap HSD2.out.1.bo 0
                    have hxf : w2.frozen? ⟨ob, 0, none⟩ = false := frozen_of_heap HSD2.out.1.bo 0
                    have HXO := Lib.hid (show (w2.alloc (.cells #[.int .i64 0] 3)).ownsRow M 3 1 xv t2.out.length (ints t2.out) from HSD2.out.1.x.alloc _)
                    have HXN := Lib.hid (show xv.ownBlock ≠ some ob from fun e => own_ne HSD2.out.1.bo HSD2.out.1.x (by decide) e.symm)
                    have hobw : ob < w2.heap.size := heap_lt HSD2.out.1.bo
                    have hMw : M ≤ w2.heap.size := by have := HSD2.out.1.ho; omega
                    go_wp2_with (at_builtin; refine wpList_append_lies _ rfl (.tmp 85) (.tmp 86) 30 rfl M 3 i0 (.int .i64 0) 1 8 Try.underlying30 hi' hi0 hi1 hi2 rfl (by decide) xv t2.out.length (ints t2.out) rfl HXO.out ⟨w2.heap.size, 0, none⟩ 1 1 [.int .i64 0] rfl rfl (World.news_of_block (cs := #[.int .i64 0]) (t := 3) (fr := (0, 0)) (heap_alloc_new _ _)) (by simp [Value.oneCell']) (by omega) (by unfold maxLen; omega) (by omega) (by simp; omega) (w2.heap.size + 1) (by simp) ?_; intro ga cap w1 h1 h2 h3 h4; have z0 := (keep_cell h2 ⟨ob, 0, none⟩ hobw HXN.out).1.trans hx0; have z1 := (keep_cell h2 ⟨ob, 0, none⟩ hobw HXN.out).2.trans hxf; have HH := Lib.hid (show _ ∧ _ ∧ _ from ⟨h1, h2, h3⟩); clear h1 h2 h3 h4)
                    obtain ⟨h1, h2, h3⟩ := HH.out
                    have MSn := ms_app_x HSD2.out.1 h1 h2 (by
                      rcases h3 with h3 | h3
                      · exact .inl h3.symm
                      · exact .inr (by simp [Value.ownBlock, h3]))
                    have F := Lib.hid (NX.out _ _ (HRU.out) (by simp only [St.put]; omega) (by simp only [St.put]; simp; omega) ⟨_, _, _, MSn.1⟩ (HSD2.out.2.trans MSn.2))
                    clear h1 h2 h3 MSn
                    go_roundg r.length
                    case measure => omega
                    case rel => exact F.out

              · have k2' : (k == 2) = false := by simpa using k2
                by_cases k3 : k = 3
                · subst k3
                  have HSA := Lib.hid (show MS M mb ob t Lv gv xv (wr.alloc (.cells #[.int .i64 3, .int .i64 n, .slice ka kids.length kc] 55)) ∧ Below M w (wr.alloc (.cells #[.int .i64 3, .int .i64 n, .slice ka kids.length kc] 55)) from ⟨ms_same hS (fun k hk => Below.heap_alloc _ _ _ hk), hB.alloc hwm _⟩)
                  have a0 : (wr.alloc (.cells #[.int .i64 3, .int .i64 n, .slice ka kids.length kc] 55)).cell? ⟨mb, 0, none⟩ = some Lv := (World.cell?_alloc_lt _ _ _ hmb).trans e0
                  clear hS hB
                  by_cases hneg : n < 0
                  · have hd : decide (n < 0) = true := by simpa using hneg
                    obtain ⟨t2, ht2⟩ : ∃ t2, t2 = t := ⟨_, rfl⟩
                    have HRU := Lib.hid (show runP l s = runP r (t2.put 2) by rw [HRUN.out, runP_3, ht2]; simp [forgetN, codeN, badN, hneg])
                    have HN := Lib.hid hneg
                    go_wp2_with fail
                    go_quiet (fail)
                    have HSD := Lib.hid (show MS M mb ob t Lv gv xv ((wr.alloc (.cells #[.int .i64 3, .int .i64 n, .slice ka kids.length kc] 55)).drewN nq) ∧ Below M w ((wr.alloc (.cells #[.int .i64 3, .int .i64 n, .slice ka kids.length kc] 55)).drewN nq) from ⟨ms_same HSA.out.1 (fun _ _ => rfl), HSA.out.2.trans ⟨rfl, rfl, rfl, Nat.le_refl _, fun _ _ => rfl⟩⟩)
                    have d0 : ((wr.alloc (.cells #[.int .i64 3, .int .i64 n, .slice ka kids.length kc] 55)).drewN nq).cell? ⟨wr.heap.size, 0, none⟩ = some (.int .i64 3) := cell_of_heap (heap_alloc_new wr _) 0
                    have d1 : ((wr.alloc (.cells #[.int .i64 3, .int .i64 n, .slice ka kids.length kc] 55)).drewN nq).cell? ⟨wr.heap.size, 1, none⟩ = some (.int .i64 n) := cell_of_heap (heap_alloc_new wr _) 1
                    generalize (wr.alloc (.cells #[.int .i64 3, .int .i64 n, .slice ka kids.length kc] 55)).drewN nq = WD at *
                    subst ht2
                    have hx0 : WD.cell? ⟨ob, 0, none⟩ = some xv := cell_of_heap HSD.out.1.bo 0
                    have hxf : WD.frozen? ⟨ob, 0, none⟩ = false := frozen_of_heap HSD.out.1.bo 0
                    have HXO := Lib.hid (show (WD.alloc (.cells #[.int .i64 2] 3)).ownsRow M 3 1 xv t2.out.length (ints t2.out) from HSD.out.1.x.alloc _)
                    have HXN := Lib.hid (show xv.ownBlock ≠ some ob from fun e => own_ne HSD.out.1.bo HSD.out.1.x (by decide) e.symm)
                    have hobw : ob < WD.heap.size := heap_lt HSD.out.1.bo
                    have hMw : M ≤ WD.heap.size := by have := HSD.out.1.ho; omega
                    go_wp2_with (at_builtin; refine wpList_append_lies _ rfl (.tmp 71) (.tmp 72) 30 rfl M 3 i0 (.int .i64 0) 1 8 Try.underlying30 hi' hi0 hi1 hi2 rfl (by decide) xv t2.out.length (ints t2.out) rfl HXO.out ⟨WD.heap.size, 0, none⟩ 1 1 [.int .i64 2] rfl rfl (World.news_of_block (cs := #[.int .i64 2]) (t := 3) (fr := (0, 0)) (heap_alloc_new _ _)) (by simp [Value.oneCell']) (by omega) (by unfold maxLen; omega) (by omega) (by simp; omega) (WD.heap.size + 1) (by simp) ?_; intro ga cap w1 h1 h2 h3 h4; have z0 := (keep_cell h2 ⟨ob, 0, none⟩ hobw HXN.out).1.trans hx0; have z1 := (keep_cell h2 ⟨ob, 0, none⟩ hobw HXN.out).2.trans hxf; have HH := Lib.hid (show _ ∧ _ ∧ _ from ⟨h1, h2, h3⟩); clear h1 h2 h3 h4)
                    obtain ⟨h1, h2, h3⟩ := HH.out
                    have MSn := ms_app_x HSD.out.1 h1 h2 (by
                      rcases h3 with h3 | h3
                      · exact .inl h3.symm
                      · exact .inr (by simp [Value.ownBlock, h3]))
                    have F := Lib.hid (NX.out _ _ (HRU.out) (by simp only [St.put]; omega) (by simp only [St.put]; simp; omega) ⟨_, _, _, MSn.1⟩ (HSD.out.2.trans MSn.2))
                    clear h1 h2 h3 MSn
                    go_roundg r.length
                    case measure => omega
                    case rel => exact F.out

                  · have hd : decide (n < 0) = false := by simpa using hneg
                    obtain ⟨la, lc, hLv, _⟩ := own_slice HSA.out.1.l
                    subst hLv
                    by_cases hbig : (t.L.length : Int) < n
                    · have hd2 : decide ((t.L.length : Int) < n) = true := by simpa using hbig
                      obtain ⟨t2, ht2⟩ : ∃ t2, t2 = t := ⟨_, rfl⟩
                      have HRU := Lib.hid (show runP l s = runP r (t2.put 2) by rw [HRUN.out, runP_3, ht2]; simp [forgetN, codeN, badN, hbig])
                      go_wp2_with fail
                      go_quiet (fail)
                      have HSD := Lib.hid (show MS M mb ob t (.slice la t.L.length lc) gv xv ((wr.alloc (.cells #[.int .i64 3, .int .i64 n, .slice ka kids.length kc] 55)).drewN nq) ∧ Below M w ((wr.alloc (.cells #[.int .i64 3, .int .i64 n, .slice ka kids.length kc] 55)).drewN nq) from ⟨ms_same HSA.out.1 (fun _ _ => rfl), HSA.out.2.trans ⟨rfl, rfl, rfl, Nat.le_refl _, fun _ _ => rfl⟩⟩)
                      have d0 : ((wr.alloc (.cells #[.int .i64 3, .int .i64 n, .slice ka kids.length kc] 55)).drewN nq).cell? ⟨wr.heap.size, 0, none⟩ = some (.int .i64 3) := cell_of_heap (heap_alloc_new wr _) 0
                      have d1 : ((wr.alloc (.cells #[.int .i64 3, .int .i64 n, .slice ka kids.length kc] 55)).drewN nq).cell? ⟨wr.heap.size, 1, none⟩ = some (.int .i64 n) := cell_of_heap (heap_alloc_new wr _) 1
                      generalize (wr.alloc (.cells #[.int .i64 3, .int .i64 n, .slice ka kids.length kc] 55)).drewN nq = WD at *
                      subst ht2
                      have hx0 : WD.cell? ⟨ob, 0, none⟩ = some xv := cell_of_heap HSD.out.1.bo 0
                      have hxf : WD.frozen? ⟨ob, 0, none⟩ = false := frozen_of_heap HSD.out.1.bo 0
                      have HXO := Lib.hid (show (WD.alloc (.cells #[.int .i64 2] 3)).ownsRow M 3 1 xv t2.out.length (ints t2.out) from HSD.out.1.x.alloc _)
                      have HXN := Lib.hid (show xv.ownBlock ≠ some ob from fun e => own_ne HSD.out.1.bo HSD.out.1.x (by decide) e.symm)
                      have hobw : ob < WD.heap.size := heap_lt HSD.out.1.bo
                      have hMw : M ≤ WD.heap.size := by have := HSD.out.1.ho; omega
                      go_wp2_with (at_builtin; refine wpList_append_lies _ rfl (.tmp 71) (.tmp 72) 30 rfl M 3 i0 (.int .i64 0) 1 8 Try.underlying30 hi' hi0 hi1 hi2 rfl (by decide) xv t2.out.length (ints t2.out) rfl HXO.out ⟨WD.heap.size, 0, none⟩ 1 1 [.int .i64 2] rfl rfl (World.news_of_block (cs := #[.int .i64 2]) (t := 3) (fr := (0, 0)) (heap_alloc_new _ _)) (by simp [Value.oneCell']) (by omega) (by unfold maxLen; omega) (by omega) (by simp; omega) (WD.heap.size + 1) (by simp) ?_; intro ga cap w1 h1 h2 h3 h4; have z0 := (keep_cell h2 ⟨ob, 0, none⟩ hobw HXN.out).1.trans hx0; have z1 := (keep_cell h2 ⟨ob, 0, none⟩ hobw HXN.out).2.trans hxf; have HH := Lib.hid (show _ ∧ _ ∧ _ from ⟨h1, h2, h3⟩); clear h1 h2 h3 h4)
                      obtain ⟨h1, h2, h3⟩ := HH.out
                      have MSn := ms_app_x HSD.out.1 h1 h2 (by
                        rcases h3 with h3 | h3
                        · exact .inl h3.symm
                        · exact .inr (by simp [Value.ownBlock, h3]))
                      have F := Lib.hid (NX.out _ _ (HRU.out) (by simp only [St.put]; omega) (by simp only [St.put]; simp; omega) ⟨_, _, _, MSn.1⟩ (HSD.out.2.trans MSn.2))
                      clear h1 h2 h3 MSn
                      go_roundg r.length
                      case measure => omega
                      case rel => exact F.out

                    · have hd2 : decide ((t.L.length : Int) < n) = false := by simpa using hbig
                      obtain ⟨b0, hb0⟩ : ∃ b0 : Nat, n = b0 := ⟨n.toNat, by omega⟩
                      subst hb0
                      have HRU := Lib.hid (show runP l s = runP r (St.put ⟨t.L.take b0, cutLog false t b0, t.out⟩ 0) by rw [HRUN.out, runP_3]; simp [forgetN, codeN, badN, hbig, hneg, cutLog, St.undo])
                      go_wp2_with fail
                      go_quiet (fail)
                      have HSD := Lib.hid (show MS M mb ob t (.slice la t.L.length lc) gv xv ((wr.alloc (.cells #[.int .i64 3, .int .i64 b0, .slice ka kids.length kc] 55)).drewN nq) ∧ Below M w ((wr.alloc (.cells #[.int .i64 3, .int .i64 b0, .slice ka kids.length kc] 55)).drewN nq) from ⟨ms_same HSA.out.1 (fun _ _ => rfl), HSA.out.2.trans ⟨rfl, rfl, rfl, Nat.le_refl _, fun _ _ => rfl⟩⟩)
                      have d0 : ((wr.alloc (.cells #[.int .i64 3, .int .i64 b0, .slice ka kids.length kc] 55)).drewN nq).cell? ⟨wr.heap.size, 0, none⟩ = some (.int .i64 3) := cell_of_heap (heap_alloc_new wr _) 0
                      have d1 : ((wr.alloc (.cells #[.int .i64 3, .int .i64 b0, .slice ka kids.length kc] 55)).drewN nq).cell? ⟨wr.heap.size, 1, none⟩ = some (.int .i64 b0) := cell_of_heap (heap_alloc_new wr _) 1
                      generalize (wr.alloc (.cells #[.int .i64 3, .int .i64 b0, .slice ka kids.length kc] 55)).drewN nq = WD at *

                      have C := Lib.hid (cut55 M mb ob t (.slice la t.L.length lc) gv xv b0 false WD HSD.out.1 (by omega) (by omega) (by have := HSD.out.1.hm; have := heap_lt HSD.out.1.bm; omega))
                      go_wp2_with (go_at_call 55; refine C.out.mono ?_)
                      rintro e w2 ⟨rfl, ⟨Lv2, gv2, hS2⟩, hB2⟩
                      obtain ⟨t2, ht2⟩ : ∃ t2, (⟨t.L.take b0, cutLog false t b0, t.out⟩ : St) = t2 := ⟨_, rfl⟩
                      have hsz2 : t2.L.length + t2.log.length ≤ t.L.length + t.log.length ∧ t2.out.length ≤ t.out.length := by rw [← ht2]; simp [cutLog]; omega
                      rw [ht2] at hS2 HRU
                      have HSD2 := Lib.hid (show MS M mb ob t2 Lv2 gv2 xv w2 ∧ Below M w w2 from ⟨hS2, HSD.out.2.trans hB2⟩)
                      clear hS2 hB2 HSD HSA
                      have hx0 : w2.cell? ⟨ob, 0, none⟩ = some xv := cell_of_heap HSD2.out.1.bo 0
                      have hxf : w2.frozen? ⟨ob, 0, none⟩ = false := frozen_of_heap HSD2.out.1.bo 0
                      have HXO := Lib.hid (show (w2.alloc (.cells #[.int .i64 0] 3)).ownsRow M 3 1 xv t2.out.length (ints t2.out) from HSD2.out.1.x.alloc _)
                      have HXN := Lib.hid (show xv.ownBlock ≠ some ob from fun e => own_ne HSD2.out.1.bo HSD2.out.1.x (by decide) e.symm)
                      have hobw : ob < w2.heap.size := heap_lt HSD2.out.1.bo
                      have hMw : M ≤ w2.heap.size := by have := HSD2.out.1.ho; omega
                      go_wp2_with (at_builtin; refine wpList_append_lies _ rfl (.tmp 85) (.tmp 86) 30 rfl M 3 i0 (.int .i64 0) 1 8 Try.underlying30 hi' hi0 hi1 hi2 rfl (by decide) xv t2.out.length (ints t2.out) rfl HXO.out ⟨w2.heap.size, 0, none⟩ 1 1 [.int .i64 0] rfl rfl (World.news_of_block (cs := #[.int .i64 0]) (t := 3) (fr := (0, 0)) (heap_alloc_new _ _)) (by simp [Value.oneCell']) (by omega) (by unfold maxLen; omega) (by omega) (by simp; omega) (w2.heap.size + 1) (by simp) ?_; intro ga cap w1 h1 h2 h3 h4; have z0 := (keep_cell h2 ⟨ob, 0, none⟩ hobw HXN.out).1.trans hx0; have z1 := (keep_cell h2 ⟨ob, 0, none⟩ hobw HXN.out).2.trans hxf; have HH := Lib.hid (show _ ∧ _ ∧ _ from ⟨h1, h2, h3⟩); clear h1 h2 h3 h4)
                      obtain ⟨h1, h2, h3⟩ := HH.out
                      have MSn := ms_app_x HSD2.out.1 h1 h2 (by
                        rcases h3 with h3 | h3
                        · exact .inl h3.symm
                        · exact .inr (by simp [Value.ownBlock, h3]))
                      have F := Lib.hid (NX.out _ _ (HRU.out) (by simp only [St.put]; omega) (by simp only [St.put]; simp; omega) ⟨_, _, _, MSn.1⟩ (HSD2.out.2.trans MSn.2))
                      clear h1 h2 h3 MSn
                      go_roundg r.length
                      case measure => omega
                      case rel => exact F.out

                · have k3' : (k == 3) = false := by simpa using k3
                  by_cases k4 : k = 4
                  · subst k4
                    have HSA := Lib.hid (show MS M mb ob t Lv gv xv (wr.alloc (.cells #[.int .i64 4, .int .i64 n, .slice ka kids.length kc] 55)) ∧ Below M w (wr.alloc (.cells #[.int .i64 4, .int .i64 n, .slice ka kids.length kc] 55)) from ⟨ms_same hS (fun k hk => Below.heap_alloc _ _ _ hk), hB.alloc hwm _⟩)
                    clear hS hB
                    by_cases hz : n = 0
                    · have E := Lib.hid (show MEnds M mb ob (runP l s) w (.returned (.tuple #[.int .i64 1, .bool false])) (wr.alloc (.cells #[.int .i64 4, .int .i64 n, .slice ka kids.length kc] 55)) from by rw [HRUN.out]; exact ⟨by simp [runP, hz], ⟨_, _, _, by simpa [runP] using HSA.out.1⟩, HSA.out.2⟩)
                      subst hz
                      go_wp2_with fail
                      go_ret2
                      exact E.out
                    · have hz' : (n == 0) = false := by simpa using hz
                      have E := Lib.hid (show MEnds M mb ob (runP l s) w (.returned (.tuple #[.int .i64 n, .bool false])) (wr.alloc (.cells #[.int .i64 4, .int .i64 n, .slice ka kids.length kc] 55)) from by rw [HRUN.out]; exact ⟨by simp [runP, hz], ⟨_, _, _, by simpa [runP] using HSA.out.1⟩, HSA.out.2⟩)
                      have HZ := Lib.hid hz
                      clear hz
                      go_wp2_with fail
                      go_ret2
                      exact E.out
                  · have k4' : (k == 4) = false := by simpa using k4
                    by_cases k5 : k = 5
                    · subst k5
                      have HSA := Lib.hid (show MS M mb ob t Lv gv xv (wr.alloc (.cells #[.int .i64 5, .int .i64 n, .slice ka kids.length kc] 55)) ∧ Below M w (wr.alloc (.cells #[.int .i64 5, .int .i64 n, .slice ka kids.length kc] 55)) from ⟨ms_same hS (fun k hk => Below.heap_alloc _ _ _ hk), hB.alloc hwm _⟩)
                      have a0 : (wr.alloc (.cells #[.int .i64 5, .int .i64 n, .slice ka kids.length kc] 55)).cell? ⟨mb, 0, none⟩ = some Lv := (World.cell?_alloc_lt _ _ _ hmb).trans e0
                      obtain ⟨la, lc, hLv, _⟩ := own_slice hS.l
                      subst hLv
                      clear hS hB
                      have C := Lib.hid (IH.out kids (by omega) (wr.alloc (.cells #[.int .i64 5, .int .i64 n, .slice ka kids.length kc] 55)) t ka kc (HBW.out.alloc hwm _) ⟨_, _, _, HSA.out.1⟩ (by omega) (by omega) ⟨rfl, HK.out⟩)
                      have HRU := Lib.hid ((HRUN.out).trans (runP_5 n kids r t))
                      have hsz := runP_size kids t
                      simp only [attP] at HRU
                      generalize runP kids t = z at C HRU hsz
                      obtain ⟨t2, _ | er⟩ := z
                      · simp only at HRU hsz
                        go_wp2_with (go_at_call 34; refine C.out.mono ?_)
                        rintro e w2 ⟨rfl, ⟨Lv2, gv2, xv2, hS2⟩, hB2⟩
                        have HSD := Lib.hid (show MS M mb ob t2 Lv2 gv2 xv2 w2 ∧ Below M w w2 from ⟨hS2, HSA.out.2.trans hB2⟩)
                        clear hS2 hB2 HSA
                        have hx0 : w2.cell? ⟨ob, 0, none⟩ = some xv2 := cell_of_heap HSD.out.1.bo 0
                        have hxf : w2.frozen? ⟨ob, 0, none⟩ = false := frozen_of_heap HSD.out.1.bo 0
                        have HXO := Lib.hid (show (w2.alloc (.cells #[.int .i64 0] 3)).ownsRow M 3 1 xv2 t2.out.length (ints t2.out) from HSD.out.1.x.alloc _)
                        have HXN := Lib.hid (show xv2.ownBlock ≠ some ob from fun e => own_ne HSD.out.1.bo HSD.out.1.x (by decide) e.symm)
                        have hobw : ob < w2.heap.size := heap_lt HSD.out.1.bo
                        have hMw : M ≤ w2.heap.size := by have := HSD.out.1.ho; omega
                        go_wp2_with (at_builtin; refine wpList_append_lies _ rfl (.tmp 125) (.tmp 127) 30 rfl M 3 i0 (.int .i64 0) 1 8 Try.underlying30 hi' hi0 hi1 hi2 rfl (by decide) xv2 t2.out.length (ints t2.out) rfl HXO.out ⟨w2.heap.size, 0, none⟩ 1 1 [.int .i64 0] rfl rfl (World.news_of_block (cs := #[.int .i64 0]) (t := 3) (fr := (0, 0)) (heap_alloc_new _ _)) (by simp [Value.oneCell']) (by omega) (by unfold maxLen; omega) (by omega) (by simp; omega) (w2.heap.size + 1) (by simp) ?_; intro ga cap w1 h1 h2 h3 h4; have z0 := (keep_cell h2 ⟨ob, 0, none⟩ hobw HXN.out).1.trans hx0; have z1 := (keep_cell h2 ⟨ob, 0, none⟩ hobw HXN.out).2.trans hxf; have HH := Lib.hid (show _ ∧ _ ∧ _ from ⟨h1, h2, h3⟩); clear h1 h2 h3 h4)
                        obtain ⟨h1, h2, h3⟩ := HH.out
                        have MSn := ms_app_x HSD.out.1 h1 h2 (by
                          rcases h3 with h3 | h3
                          · exact .inl h3.symm
                          · exact .inr (by simp [Value.ownBlock, h3]))
                        have F := Lib.hid (NX.out _ _ (HRU.out) (by simp only [St.put]; omega) (by simp only [St.put]; simp; omega) ⟨_, _, _, MSn.1⟩ (HSD.out.2.trans MSn.2))
                        clear h1 h2 h3 MSn
                        go_roundg r.length
                        case measure => omega
                        case rel => exact F.out

                      · simp only at HRU hsz
                        go_wp2_with (go_at_call 34; refine C.out.mono ?_)
                        rintro e w2 ⟨rfl, ⟨Lv2, gv2, xv2, hS2⟩, hB2⟩
                        obtain ⟨la2, lc2, hLv2, _⟩ := own_slice hS2.l
                        subst hLv2
                        have hz2 : w2.cell? ⟨mb, 0, none⟩ = some (.slice la2 t2.L.length lc2) := cell_of_heap hS2.bm 0
                        have HS2 := Lib.hid hS2
                        have HB2 := Lib.hid hB2
                        clear hS2 hB2
                        rcases (Nat.lt_or_ge t2.L.length t.L.length).symm with hle | hle
                        · have hmn : min t.L.length t2.L.length = t.L.length := by omega
                          rw [hmn] at HRU
                          have C2 := Lib.hid (cut55 M mb ob t2 (.slice la2 t2.L.length lc2) gv2 xv2 t.L.length true w2 HS2.out (by omega) (by omega) (by have := HS2.out.hm; have := heap_lt HS2.out.bm; omega))
                          clear hmn
                          go_wp2_with (go_at_call 55; with_reducible refine C2.out.mono ?_)
                          rintro e w3 ⟨rfl, ⟨Lv3, gv3, hS3⟩, hB3⟩
                          obtain ⟨t3, ht3⟩ : ∃ t3, (⟨t2.L.take (t.L.length), cutLog true t2 (t.L.length), t2.out⟩ : St) = t3 := ⟨_, rfl⟩
                          have hsz3 : t3.L.length + t3.log.length ≤ t2.L.length + t2.log.length ∧ t3.out.length ≤ t2.out.length := by rw [← ht3]; simp [cutLog] <;> omega
                          rw [ht3] at hS3
                          have HRU3 := Lib.hid (show runP l s = runP r (t3.put er) by rw [HRU, ← ht3]; simp [St.undo, cutLog])
                          have HSD := Lib.hid (show MS M mb ob t3 Lv3 gv3 xv2 w3 ∧ Below M w w3 from ⟨hS3, (HSA.out.2.trans HB2.out).trans hB3⟩)
                          clear hS3 hB3 HSA HRU
                          have hx0 : w3.cell? ⟨ob, 0, none⟩ = some xv2 := cell_of_heap HSD.out.1.bo 0
                          have hxf : w3.frozen? ⟨ob, 0, none⟩ = false := frozen_of_heap HSD.out.1.bo 0
                          have HXO := Lib.hid (show (w3.alloc (.cells #[.int .i64 er] 3)).ownsRow M 3 1 xv2 t3.out.length (ints t3.out) from HSD.out.1.x.alloc _)
                          have HXN := Lib.hid (show xv2.ownBlock ≠ some ob from fun e => own_ne HSD.out.1.bo HSD.out.1.x (by decide) e.symm)
                          have hobw : ob < w3.heap.size := heap_lt HSD.out.1.bo
                          have hMw : M ≤ w3.heap.size := by have := HSD.out.1.ho; omega
                          go_wp2_with (at_builtin; refine wpList_append_lies _ rfl (.tmp 125) (.tmp 127) 30 rfl M 3 i0 (.int .i64 0) 1 8 Try.underlying30 hi' hi0 hi1 hi2 rfl (by decide) xv2 t3.out.length (ints t3.out) rfl HXO.out ⟨w3.heap.size, 0, none⟩ 1 1 [.int .i64 er] rfl rfl (World.news_of_block (cs := #[.int .i64 er]) (t := 3) (fr := (0, 0)) (heap_alloc_new _ _)) (by simp [Value.oneCell']) (by omega) (by unfold maxLen; omega) (by omega) (by simp; omega) (w3.heap.size + 1) (by simp) ?_; intro ga cap w1 h1 h2 h3 h4; have z0 := (keep_cell h2 ⟨ob, 0, none⟩ hobw HXN.out).1.trans hx0; have z1 := (keep_cell h2 ⟨ob, 0, none⟩ hobw HXN.out).2.trans hxf; have HH := Lib.hid (show _ ∧ _ ∧ _ from ⟨h1, h2, h3⟩); clear h1 h2 h3 h4)
                          obtain ⟨h1, h2, h3⟩ := HH.out
                          have MSn := ms_app_x HSD.out.1 h1 h2 (by
                            rcases h3 with h3 | h3
                            · exact .inl h3.symm
                            · exact .inr (by simp [Value.ownBlock, h3]))
                          have F := Lib.hid (NX.out _ _ (HRU3.out) (by simp only [St.put]; omega) (by simp only [St.put]; simp; omega) ⟨_, _, _, MSn.1⟩ (HSD.out.2.trans MSn.2))
                          clear h1 h2 h3 MSn
                          go_roundg r.length
                          case measure => omega
                          case rel => exact F.out

                        · have hmn : min t.L.length t2.L.length = t2.L.length := by omega
                          rw [hmn] at HRU
                          have C2 := Lib.hid (cut55 M mb ob t2 (.slice la2 t2.L.length lc2) gv2 xv2 t2.L.length true w2 HS2.out (by omega) (by omega) (by have := HS2.out.hm; have := heap_lt HS2.out.bm; omega))
                          clear hmn
                          go_wp2_with (go_at_call 55; with_reducible refine C2.out.mono ?_)
                          rintro e w3 ⟨rfl, ⟨Lv3, gv3, hS3⟩, hB3⟩
                          obtain ⟨t3, ht3⟩ : ∃ t3, (⟨t2.L.take (t2.L.length), cutLog true t2 (t2.L.length), t2.out⟩ : St) = t3 := ⟨_, rfl⟩
                          have hsz3 : t3.L.length + t3.log.length ≤ t2.L.length + t2.log.length ∧ t3.out.length ≤ t2.out.length := by rw [← ht3]; simp [cutLog] <;> omega
                          rw [ht3] at hS3
                          have HRU3 := Lib.hid (show runP l s = runP r (t3.put er) by rw [HRU, ← ht3]; simp [St.undo, cutLog])
                          have HSD := Lib.hid (show MS M mb ob t3 Lv3 gv3 xv2 w3 ∧ Below M w w3 from ⟨hS3, (HSA.out.2.trans HB2.out).trans hB3⟩)
                          clear hS3 hB3 HSA HRU
                          have hx0 : w3.cell? ⟨ob, 0, none⟩ = some xv2 := cell_of_heap HSD.out.1.bo 0
                          have hxf : w3.frozen? ⟨ob, 0, none⟩ = false := frozen_of_heap HSD.out.1.bo 0
                          have HXO := Lib.hid (show (w3.alloc (.cells #[.int .i64 er] 3)).ownsRow M 3 1 xv2 t3.out.length (ints t3.out) from HSD.out.1.x.alloc _)
                          have HXN := Lib.hid (show xv2.ownBlock ≠ some ob from fun e => own_ne HSD.out.1.bo HSD.out.1.x (by decide) e.symm)
                          have hobw : ob < w3.heap.size := heap_lt HSD.out.1.bo
                          have hMw : M ≤ w3.heap.size := by have := HSD.out.1.ho; omega
                          go_wp2_with (at_builtin; refine wpList_append_lies _ rfl (.tmp 125) (.tmp 127) 30 rfl M 3 i0 (.int .i64 0) 1 8 Try.underlying30 hi' hi0 hi1 hi2 rfl (by decide) xv2 t3.out.length (ints t3.out) rfl HXO.out ⟨w3.heap.size, 0, none⟩ 1 1 [.int .i64 er] rfl rfl (World.news_of_block (cs := #[.int .i64 er]) (t := 3) (fr := (0, 0)) (heap_alloc_new _ _)) (by simp [Value.oneCell']) (by omega) (by unfold maxLen; omega) (by omega) (by simp; omega) (w3.heap.size + 1) (by simp) ?_; intro ga cap w1 h1 h2 h3 h4; have z0 := (keep_cell h2 ⟨ob, 0, none⟩ hobw HXN.out).1.trans hx0; have z1 := (keep_cell h2 ⟨ob, 0, none⟩ hobw HXN.out).2.trans hxf; have HH := Lib.hid (show _ ∧ _ ∧ _ from ⟨h1, h2, h3⟩); clear h1 h2 h3 h4)
                          obtain ⟨h1, h2, h3⟩ := HH.out
                          have MSn := ms_app_x HSD.out.1 h1 h2 (by
                            rcases h3 with h3 | h3
                            · exact .inl h3.symm
                            · exact .inr (by simp [Value.ownBlock, h3]))
                          have F := Lib.hid (NX.out _ _ (HRU3.out) (by simp only [St.put]; omega) (by simp only [St.put]; simp; omega) ⟨_, _, _, MSn.1⟩ (HSD.out.2.trans MSn.2))
                          clear h1 h2 h3 MSn
                          go_roundg r.length
                          case measure => omega
                          case rel => exact F.out

                    · have k5' : (k == 5) = false := by simpa using k5
                      have F := Lib.hid (NX.out _ _ (by rw [HRUN.out]; simp [runP, k1, k2, k3, k4, k5, k6]) (by omega) (by omega) ⟨_, _, _, ms_same hS (fun q hq => Below.heap_alloc wr (.cells #[.int .i64 k, .int .i64 n, .slice ka kids.length kc] 55) _ hq)⟩ (hB.alloc hwm _))
                      clear k1 k2 k3 k4 k5 k6 hS hB
                      go_wp2
                      go_roundg r.length
                      case measure => omega
                      case rel => exact F.out

end Go.Proofs.Ytekddnnclbnagaa
