/- JournalRuns: 'run'. -/
import Derived.Test.YtekddnnclbnagaaLf
import Derived.Deep.RegionHeld3
import Derived.Deep.AppendLies
import Derived.Test.YtekddnnclbnagaaRg
namespace Go.Proofs.Ytekddnnclbnagaa
set_option linter.unusedSimpArgs false
set_option linter.unusedVariables false
open Go.RowKit

theorem rj_drew1 {B rb jb : Nat} {t : St} {ov : Value} {all big : List QR} {w : World} (h : RJ B rb jb t ov all big w) : RJ B rb jb t ov all big w.drew ∧ Dyn (U jb (RF rb big)) w w.drew := by
  have hF := rj_framed B rb jb t ov all big
  have hb : ∀ k, k < w.heap.size → w.drew.heap[k]? = w.heap[k]? := fun _ _ => rfl
  exact ⟨hF.keep h hb, Dyn.quiet hF h rfl rfl rfl (Nat.le_refl _) hb⟩

theorem run_nil (B rb jb : Nat) (W0 : World) : RunSpec B rb jb W0 .nil := by
  intro w s ov all big a cap hB hBr hJ hbs hn1 hn2 hs
  have hF := rj_framed B rb jb s ov all big
  obtain ⟨d1, x1⟩ := Dyn.alloc hF hJ (.cells #[.pointer (some ⟨rb, 0, none⟩)] 45)
  have E := Lib.hid (show RunEnds B rb jb (runP .nil s) big w (.returned (.tuple #[])) (w.alloc (.cells #[.pointer (some ⟨rb, 0, none⟩)] 45)) from
    ⟨all, big, ov, fun _ h => h, DynH.of d1, x1, rfl⟩)
  clear hF d1 x1 hB hBr hJ hbs hn1 hn2 hs
  simp only [Ops.length]
  go_enter Try.func33, Try.ntmps33
  go_wp2
  refine wp_loop_once ?_
  go_wp2
  go_end0
  exact E.out

theorem keep_cell {w2 w1 : World} {o : Obj} {row : Option Nat} (h : (w2.alloc o).grownBy w1 row) (a : Addr) (hlt : a.block < w2.heap.size) (hne : row ≠ some a.block) : w1.cell? a = w2.cell? a ∧ w1.frozen? a = w2.frozen? a := by
  have hb : w1.heap[a.block]? = w2.heap[a.block]? := (h.block a.block (by simp; omega) (Ne.symm hne)).trans (Below.heap_alloc _ _ _ hlt)
  exact ⟨World.cell?_of_block hb, World.frozen?_of_block hb⟩

theorem runP_2 (n : Int) (kids r : Ops) (t : St) : runP (.cons 2 n kids r) t = runP r ((undoN t n).put (codeN t n)) := by
  simp only [runP, undoN, codeN, badN]
  by_cases h : n < 0 ∨ (t.L.length : Int) < n
  · simp [h]
  · simp [h]
theorem runP_3 (n : Int) (kids r : Ops) (t : St) : runP (.cons 3 n kids r) t = runP r ((forgetN t n).put (codeN t n)) := by
  simp only [runP, forgetN, codeN, badN]
  by_cases h : n < 0 ∨ (t.L.length : Int) < n
  · simp [h]
  · simp [h]
theorem runP_5 (n : Int) (kids r : Ops) (t : St) : runP (.cons 5 n kids r) t = runP r ((attP kids t).1.put (attP kids t).2) := by
  simp only [runP, attP]
  generalize runP kids t = x
  obtain ⟨y, e⟩ := x
  cases e <;> rfl
theorem undoN_size (t : St) (n : Int) : (undoN t n).L.length + (undoN t n).log.length ≤ t.L.length + t.log.length ∧ (undoN t n).out = t.out := by
  unfold undoN; split
  · exact ⟨Nat.le_refl _, rfl⟩
  · refine ⟨?_, rfl⟩; simp [St.undo]; omega
theorem forgetN_size (t : St) (n : Int) : (forgetN t n).L.length + (forgetN t n).log.length ≤ t.L.length + t.log.length ∧ (forgetN t n).out = t.out := by
  unfold forgetN; split
  · exact ⟨Nat.le_refl _, rfl⟩
  · refine ⟨?_, rfl⟩; simp; omega
theorem attP_size (kids : Ops) (t : St) : (attP kids t).1.L.length + (attP kids t).1.log.length ≤ t.L.length + t.log.length + kids.cnt ∧ (attP kids t).1.out.length ≤ t.out.length + kids.cnt := by
  have h := runP_size kids t
  unfold attP
  generalize runP kids t = x at h
  obtain ⟨y, e⟩ := x
  cases e
  · exact ⟨h.1, h.2.1⟩
  · simp [St.undo] at h ⊢; omega

set_option maxRecDepth 100000 in
set_option maxHeartbeats 8000000 in
theorem run33 (B rb jb : Nat) (W0 : World) (hW0 : W0.heap.size = B) : ∀ (N : Nat) (l : Ops), l.cnt ≤ N → RunSpec B rb jb W0 l := by
  intro N
  induction N with
  | zero =>
    intro l hl
    cases l with
    | nil => exact run_nil B rb jb W0
    | cons k n kids r => simp [Ops.cnt] at hl
  | succ N ih =>
    intro l hN w s ov all big a cap hB hBr hJ hbs hn1 hn2 hs
    rcases Nat.eq_zero_or_pos l.length with h0 | h0
    · cases l with
      | nil => exact run_nil B rb jb W0 w s ov all big a cap hB hBr hJ hbs hn1 hn2 hs
      | cons k n kids r => simp [Ops.length] at h0
    · obtain ⟨b, off, rfl, hbl, hat⟩ := hs.2 h0
      have hF := rj_framed B rb jb s ov all big
      obtain ⟨d1, x1⟩ := Dyn.alloc hF hJ (.cells #[.pointer (some ⟨rb, 0, none⟩)] 45)
      have hbz := hB.size
      have S0 := Lib.hid (show RunRel B rb jb W0 w s l b off big l.length (.int .i64 0) (w.alloc (.cells #[.pointer (some ⟨rb, 0, none⟩)] 45)) from
        ⟨0, l, s, all, big, ov, by omega, rfl, rfl, by simpa using hat, rfl, hn1, hn2, Nat.le_refl _, fun _ h => h, DynH.of d1, x1, heap_alloc_new _ _, hB.alloc (by omega) _⟩)
      have hll := l.length_le
      have hmf := makeFunc_run
      have IH := Lib.hid ih
      have HW := Lib.hid hW0
      have HBR := Lib.hid hBr
      have HBS0 := Lib.hid hbs
      have hll2 : l.length < 1000000 := by omega
      obtain ⟨i0, hi', hi0, hi1, hi2⟩ := info_parts Try.info3
      have HI' := Lib.hid (show _ ∧ _ ∧ _ ∧ _ from ⟨hi', hi0, hi1, hi2⟩)
      clear hJ hF d1 x1 hs hat ih hB hW0 hbs hBr hi' hi0 hi1 hi2
      go_enter Try.func33, Try.ntmps33
      go_wp2
      go_loopg [4] l.length (fun g v wr => RunRel B rb jb W0 w s l b off big g v wr)
      case atStart => exact S0.out
      case round =>
        obtain ⟨i, r, t, all', big', ov', hi, hr, rfl, hat, hrun, hm1, hm2, hm3, hsub, hD, hJ, hx, hB⟩ := hrel
        cases r with
        | nil =>
          simp only [Ops.length] at hr
          subst hr
          have E := Lib.hid (show RunEnds B rb jb (runP l s) big w (.returned (.tuple #[])) wr from ⟨all', big', ov', hsub, hD, by rw [hrun]; exact hJ, by rw [hrun]; rfl⟩)
          obtain rfl : i = l.length := by omega
          clear hat hrun hm1 hm2 hm3 hsub hD hJ hx hB hi
          go_wp2
          go_end0
          exact E.out
        | cons k n kids r =>
          obtain ⟨c0, c1, ⟨ka, kc, c2, hk⟩, wk, wn, hrr⟩ := hat
          simp only [Ops.length] at hr
          subst hr
          have hlt : i < l.length := by omega
          have hbc : ∀ o, wr.cell? ⟨b, o, none⟩ = W0.cell? ⟨b, o, none⟩ := fun o => hB.cell (by show b < _; have := HW.out; omega)
          have d0 : wr.cell? ⟨b, off + i * 3, none⟩ = some (.int .i64 k) := by rw [hbc]; exact c0
          have d1 : wr.cell? ⟨b, off + i * 3 + 1, none⟩ = some (.int .i64 n) := by rw [hbc]; exact c1
          have d2 : wr.cell? ⟨b, off + i * 3 + 2, none⟩ = some (.slice ka kids.length kc) := by rw [hbc]; exact c2
          obtain ⟨lv, hr0, _⟩ := hJ.s.st
          have e1 : wr.cell? ⟨w.heap.size, 0, none⟩ = some (.pointer (some ⟨rb, 0, none⟩)) := by rw [cell_of_heap hx]; rfl
          have e2 : wr.cell? ⟨rb, 0, none⟩ = some (.pointer (some ⟨jb, 0, none⟩)) := by rw [cell_of_heap hr0]; rfl
          have hs1 : w.heap.size < wr.heap.size := heap_lt hx
          have hs2 : rb < wr.heap.size := heap_lt hr0
          have hbz2 := hB.size
          have HAT := Lib.hid hrr
          have HK := Lib.hid hk
          have HM := Lib.hid (show _ ∧ _ ∧ _ from ⟨hm1, hm2, hm3⟩)
          have HRUN := Lib.hid hrun
          have HSUB := Lib.hid hsub
          have HB := Lib.hid hB
          have HI := Lib.hid hi
          have PV := Lib.hid (fun six => run_var hx (Nat.le_refl _) six k n ka kids.length kc hD hJ)
          have HBS := Lib.hid (fun six => run_base (by have := HW.out; omega) HBS0.out (PV.out six).1)
          have hcc := HM.out
          simp only [Ops.cnt] at hcc
          clear c0 c1 c2 hbc hrr hk hm1 hm2 hm3 hrun hsub hD hJ hx hB wk wn hi hr0
          -- behind a step
          have NX := Lib.hid (fun (six : Bool) (t2 : St) (ov3 : Value) (all3 big3 : List QR) (w2 : World) h2 hsub3 hJ3 hr3 g1 g2 =>
            run_next (q := ⟨w.heap.size, wr.heap.size, six, k, n, ka, kids.length, kc⟩) (t2 := t2) (ov3 := ov3) (all3 := all3) (big3 := big3) (w2 := w2) (s := s) HI.out HAT.out (HB.out.alloc (by have := HW.out; omega) (.cells #[.int .i64 k, .int .i64 n, .slice ka kids.length kc] 55)) (by have := HW.out; omega)
              (by simp) rfl (fun u hu => List.mem_append_left _ (HSUB.out u hu)) HBS0.out (PV.out six).1 h2 hsub3 hJ3 hr3 g1 g2 (by have := HM.out; simp only [Ops.cnt] at this; omega))
          by_cases k1 : k = 1
          · subst k1
            have A := Lib.hid (record_run (PV.out false).2 ⟨w.heap.size, wr.heap.size, false, 1, n, ka, kids.length, kc⟩ (by simp) (by omega))
            simp only [cloQ] at A
            go_wp2_with (go_at_call 19; refine A.out.mono ?_)
            rintro e w2 ⟨rfl, j2, d2⟩
            have F := Lib.hid (NX.out false _ _ _ _ _ (DynH.of d2) (fun _ h => h) j2 (by rw [HRUN.out]; simp [runP, numQ]) (by simp; omega) (by simp; omega))
            clear j2 d2
            go_wp2
            go_roundg r.length
            case measure => omega
            case rel => exact F.out
          · have k1' : (k == 1) = false := by simpa using k1
            by_cases k6 : k = 6
            · subst k6
              have A := Lib.hid (record_run (PV.out true).2 ⟨w.heap.size, wr.heap.size, true, 6, n, ka, kids.length, kc⟩ (by simp) (by omega))
              simp only [cloQ] at A
              go_wp2_with (go_at_call 19; refine A.out.mono ?_)
              rintro e w2 ⟨rfl, j2, d2⟩
              have F := Lib.hid (NX.out true _ _ _ _ _ (DynH.of d2) (fun _ h => h) j2 (by rw [HRUN.out]; simp [runP, numQ]) (by simp; omega) (by simp; omega))
              clear j2 d2
              go_wp2
              go_roundg r.length
              case measure => omega
              case rel => exact F.out
            · have k6' : (k == 6) = false := by simpa using k6
              by_cases k4 : k = 4
              · subst k4
                obtain ⟨er, her, hf⟩ : ∃ er : Int, er = (if n = 0 then 1 else n) ∧ ∀ w, Calls Try.prog 31 #[.int .i64 n] w fun e w' => e = .panicked [{ v := .iface 63 (.agg #[.int .i64 er]), recovered := false }] ∧ w = w' := ⟨_, rfl, fail_any n⟩
                have HF := Lib.hid hf
                have E := Lib.hid (show RunEnds B rb jb (runP l s) big w (.panicked [{ v := .iface 63 (.agg #[.int .i64 er]), recovered := false }]) (wr.alloc (.cells #[.int .i64 4, .int .i64 n, .slice ka kids.length kc] 55)) from
                  ⟨all', _, ov', fun u hu => List.mem_append_left _ (HSUB.out u hu), (PV.out false).1, by rw [HRUN.out]; simp [runP]; exact (PV.out false).2, by rw [HRUN.out]; simp [runP, endOf, her]⟩)
                clear hf her
                go_wp2_with (go_at_call 31; refine (HF.out _).mono ?_; rintro e w2 ⟨rfl, rfl⟩)
                exact ⟨rfl, E.out⟩
              · have k4' : (k == 4) = false := by simpa using k4
                by_cases k2 : k = 2
                · subst k2
                  obtain ⟨hi', hi0, hi1, hi2⟩ := HI'.out
                  have HD := rj_drew1 (PV.out false).2
                  have A := Lib.hid (rewind_run HBR.out HD.1 n (by omega))
                  obtain ⟨x1, x2, x3, x4, x5, x6, x7, x8, x9, x10, x11⟩ := rj_cells HD.1 (q := ⟨w.heap.size, wr.heap.size, false, 2, n, ka, kids.length, kc⟩) (by simp)
                  have HDD := Lib.hid HD.2
                  have HRU := Lib.hid ((HRUN.out).trans (runP_2 n kids r t))
                  have hsz := undoN_size t n
                  generalize codeN t n = cc at A HRU
                  generalize undoN t n = t2 at A HRU hsz
                  obtain ⟨hsz1, hto⟩ := hsz
                  have HTO := Lib.hid hto
                  have hol : t.out.length < 1000 := by omega
                  clear x8 x9 x10 x11 HD hto
                  go_wp2_with fail
                  refine but_begin (fun w' => w'.cell? ⟨w.heap.size, 0, none⟩ = some (.pointer (some ⟨rb, 0, none⟩)) ∧ w'.cell? ⟨rb, 0, none⟩ = some (.pointer (some ⟨jb, 0, none⟩)) ∧ w'.cell? ⟨wr.heap.size, 1, none⟩ = some (.int .i64 n) ∧ w'.cell? ⟨rb, 2, none⟩ = some ov') 16 (by kernel_rfl) ?_
                  have hHeld := And.intro x1 (And.intro x2 (And.intro x5 x3))
                  (refine but_take 0 (v := ?_) rfl (by kernel_rfl) (fun _ _ _ h => h) (by assumption) (by rfl) (fun w hw => ?_) ?_; rotate_left; ((try dsimp only at hw); go_simp; try with_reducible rfl); (try simp only [Act.put, List.setIfInBounds_toArray, List.set_cons_zero, List.set_cons_succ]))
                  (refine but_take 1 (v := ?_) rfl (by kernel_rfl) (fun _ _ _ h => h) (by assumption) (by rfl) (fun w hw => ?_) ?_; rotate_left; ((try dsimp only at hw); go_simp; try with_reducible rfl); (try simp only [Act.put, List.setIfInBounds_toArray, List.set_cons_zero, List.set_cons_succ]))
                  (refine but_take 2 (v := ?_) rfl (by kernel_rfl) (fun _ _ _ h => h) (by assumption) (by rfl) (fun w hw => ?_) ?_; rotate_left; ((try dsimp only at hw); go_simp; try with_reducible rfl); (try simp only [Act.put, List.setIfInBounds_toArray, List.set_cons_zero, List.set_cons_succ]))
                  (refine but_take 3 (v := ?_) rfl (by kernel_rfl) (fun _ _ _ h => h) (by assumption) (by rfl) (fun w hw => ?_) ?_; rotate_left; ((try dsimp only at hw); go_simp; try with_reducible rfl); (try simp only [Act.put, List.setIfInBounds_toArray, List.set_cons_zero, List.set_cons_succ]))
                  (refine but_take 4 (v := ?_) rfl (by kernel_rfl) (fun _ _ _ h => h) (by assumption) (by rfl) (fun w hw => ?_) ?_; rotate_left; ((try dsimp only at hw); go_simp; try with_reducible rfl); (try simp only [Act.put, List.setIfInBounds_toArray, List.set_cons_zero, List.set_cons_succ]))
                  (refine but_take 5 (v := ?_) rfl (by kernel_rfl) (fun _ _ _ h => h) (by assumption) (by rfl) (fun w hw => ?_) ?_; rotate_left; ((try dsimp only at hw); go_simp; try with_reducible rfl); (try simp only [Act.put, List.setIfInBounds_toArray, List.set_cons_zero, List.set_cons_succ]))
                  (refine but_take 6 (v := ?_) rfl (by kernel_rfl) (fun _ _ _ h => h) (by assumption) (by rfl) (fun w hw => ?_) ?_; rotate_left; ((try dsimp only at hw); go_simp; try with_reducible rfl); (try simp only [Act.put, List.setIfInBounds_toArray, List.set_cons_zero, List.set_cons_succ]))
                  (refine but_take 7 (v := ?_) rfl (by kernel_rfl) (fun _ _ _ h => h) (by assumption) (by rfl) (fun w hw => ?_) ?_; rotate_left; ((try dsimp only at hw); go_simp; try with_reducible rfl); (try simp only [Act.put, List.setIfInBounds_toArray, List.set_cons_zero, List.set_cons_succ]))
                  (refine but_take 8 (v := ?_) rfl (by kernel_rfl) (fun _ _ _ h => h) (by assumption) (by rfl) (fun w hw => ?_) ?_; rotate_left; ((try dsimp only at hw); go_simp; try with_reducible rfl); (try simp only [Act.put, List.setIfInBounds_toArray, List.set_cons_zero, List.set_cons_succ]))
                  (refine but_take 9 (v := ?_) rfl (by kernel_rfl) (fun _ _ _ h => h) (by assumption) (by rfl) (fun w hw => ?_) ?_; rotate_left; ((try dsimp only at hw); go_simp; try with_reducible rfl); (try simp only [Act.put, List.setIfInBounds_toArray, List.set_cons_zero, List.set_cons_succ]))
                  (refine but_take 10 (v := ?_) rfl (by kernel_rfl) (fun _ _ _ h => h) (by assumption) (by rfl) (fun w hw => ?_) ?_; rotate_left; ((try dsimp only at hw); go_simp; try with_reducible rfl); (try simp only [Act.put, List.setIfInBounds_toArray, List.set_cons_zero, List.set_cons_succ]))
                  refine but_one 11 rfl (by kernel_rfl) (fun K hK => ?_)
                  go_simp
                  go_at_call 18
                  refine A.out.mono ?_
                  rintro e w2 ⟨rfl, ⟨all2, j2⟩, d2⟩
                  obtain ⟨y1, y2, y3, y4, y5, y6, y7, y8, y9⟩ := rj_cells j2 (q := ⟨w.heap.size, wr.heap.size, false, 2, n, ka, kids.length, kc⟩) (by simp)
                  have y12 := World.block_lt_of_cell? w2 _ y5
                  have HP := Lib.hid (show _ ∧ _ from ⟨j2, d2⟩)
                  have HO := Lib.hid (show (w2.alloc (.cells #[.int .i64 cc] 3)).ownsRow B 3 1 ov' t.out.length (ints t.out) from World.ownsRow.alloc (by rw [HTO.out] at y8; exact y8) _)
                  have HNE := Lib.hid y9
                  have y13 : B ≤ w2.heap.size := (by have := HBR.out; omega)
                  clear j2 d2 y8 y9 hHeld
                  refine hK.out _ _ ⟨y1, y2, y5, y3⟩ (fun hHeld => ?_)
                  clear hK K
                  try simp only [Act.put, List.setIfInBounds_toArray, List.set_cons_zero, List.set_cons_succ]
                  refine but_one 12 rfl (by kernel_rfl) (fun K hK => ?_)
                  go_simp
                  refine hK.out _ _ ?_ (fun hHeld => ?_)
                  · exact ⟨(World.cell?_alloc_lt _ _ _ y7).trans y1, (World.cell?_alloc_lt _ _ _ y6).trans y2, (World.cell?_alloc_lt _ _ _ y12).trans y5, (World.cell?_alloc_lt _ _ _ y6).trans y3⟩
                  clear hK K
                  refine but_one 13 rfl (by kernel_rfl) (fun K hK => ?_)
                  refine step_append_lies _ (by rfl) (.tmp 41) (.tmp 49) 30 (by rfl) B 3 i0 (.int .i64 0) 1 8 Try.underlying30 hi' hi0 hi1 hi2 rfl (by decide) ov' t.out.length (ints t.out) (by rfl) HO.out ⟨w2.heap.size, 0, none⟩ 1 1 [.int .i64 cc] (by rfl) (by rfl) (World.news_of_block (cs := #[.int .i64 cc]) (t := 3) (fr := (0, 0)) (heap_alloc_new _ _)) (by simp [Value.oneCell']) (by omega) (by unfold maxLen; omega) (by omega) (by simp; omega) (w2.heap.size + 1) (by simp) ?_
                  intro g cap' w1 h1 h2 h3 h4
                  have z1 := (keep_cell h2 ⟨w.heap.size, 0, none⟩ y7 HNE.out.2.1).1.trans y1
                  have z2 := (keep_cell h2 ⟨rb, 0, none⟩ y6 HNE.out.1).1.trans y2
                  have z3 := (keep_cell h2 ⟨rb, 2, none⟩ y6 HNE.out.1).1.trans y3
                  have z4 := (keep_cell h2 ⟨rb, 2, none⟩ y6 HNE.out.1).2.trans y4
                  have z5 := (keep_cell h2 ⟨wr.heap.size, 1, none⟩ y12 HNE.out.2.2).1.trans y5
                  have HH := Lib.hid (show _ ∧ _ ∧ _ from ⟨h1, h2, h3⟩)
                  clear h1 h2 h3 h4 hHeld
                  refine hK.out _ _ ⟨z1, z2, z5, z3⟩ (fun hHeld => ?_)
                  clear hK K
                  try simp only [Act.put, List.setIfInBounds_toArray, List.set_cons_zero, List.set_cons_succ]
                  (refine but_take 14 (v := ?_) rfl (by kernel_rfl) (fun _ _ _ h => h) (by assumption) (by rfl) (fun w hw => ?_) ?_; rotate_left; ((try dsimp only at hw); go_simp; try with_reducible rfl); (try simp only [Act.put, List.setIfInBounds_toArray, List.set_cons_zero, List.set_cons_succ]))
                  (refine but_take 15 (v := ?_) rfl (by kernel_rfl) (fun _ _ _ h => h) (by assumption) (by rfl) (fun w hw => ?_) ?_; rotate_left; ((try dsimp only at hw); go_simp; try with_reducible rfl); (try simp only [Act.put, List.setIfInBounds_toArray, List.set_cons_zero, List.set_cons_succ]))
                  refine but_last rfl (by kernel_rfl) (by kernel_rfl) (fun K hK => ?_)
                  go_simp
                  refine hK.out _ _ ?_
                  clear hK K
                  all_goals
                    obtain ⟨j2, d2⟩ := HP.out
                    obtain ⟨h1, h2, h3⟩ := HH.out
                    have PJ := put_run (cc := cc) (o := .cells #[.int .i64 cc] 3) j2 (by rw [HTO.out]; simpa [ints] using h1) ⟨h2.os, h2.tape, h2.output, h2.size, h2.block⟩ (by
                      rcases h3 with h3 | h3
                      · exact .inl h3.symm
                      · exact .inr (by simp [Value.ownBlock, h3]))
                    have F := Lib.hid (NX.out false _ _ _ _ _ (DynH.of (HDD.out.trans (d2.trans PJ.2))) (fun _ h => h) PJ.1 HRU.out (by simp only [St.put]; omega) (by simp only [St.put, HTO.out]; simp; omega))
                    clear j2 d2 h1 h2 h3 PJ
                    go_wp2
                    go_roundg r.length
                    case measure => omega
                    case rel => exact F.out
                · have k2' : (k == 2) = false := by simpa using k2
                  by_cases k3 : k = 3
                  · subst k3
                    obtain ⟨hi', hi0, hi1, hi2⟩ := HI'.out
                    have HD := rj_drew1 (PV.out false).2
                    have A := Lib.hid (forget_run HD.1 n (by omega))
                    obtain ⟨x1, x2, x3, x4, x5, x6, x7, x8, x9, x10, x11⟩ := rj_cells HD.1 (q := ⟨w.heap.size, wr.heap.size, false, 3, n, ka, kids.length, kc⟩) (by simp)
                    have HDD := Lib.hid HD.2
                    have HRU := Lib.hid ((HRUN.out).trans (runP_3 n kids r t))
                    have hsz := forgetN_size t n
                    generalize codeN t n = cc at A HRU
                    generalize forgetN t n = t2 at A HRU hsz
                    obtain ⟨hsz1, hto⟩ := hsz
                    have HTO := Lib.hid hto
                    have hol : t.out.length < 1000 := by omega
                    clear x8 x9 x10 x11 HD hto
                    go_wp2_with fail
                    refine but_begin (fun w' => w'.cell? ⟨w.heap.size, 0, none⟩ = some (.pointer (some ⟨rb, 0, none⟩)) ∧ w'.cell? ⟨rb, 0, none⟩ = some (.pointer (some ⟨jb, 0, none⟩)) ∧ w'.cell? ⟨wr.heap.size, 1, none⟩ = some (.int .i64 n) ∧ w'.cell? ⟨rb, 2, none⟩ = some ov') 16 (by kernel_rfl) ?_
                    have hHeld := And.intro x1 (And.intro x2 (And.intro x5 x3))
                    (refine but_take 0 (v := ?_) rfl (by kernel_rfl) (fun _ _ _ h => h) (by assumption) (by rfl) (fun w hw => ?_) ?_; rotate_left; ((try dsimp only at hw); go_simp; try with_reducible rfl); (try simp only [Act.put, List.setIfInBounds_toArray, List.set_cons_zero, List.set_cons_succ]))
                    (refine but_take 1 (v := ?_) rfl (by kernel_rfl) (fun _ _ _ h => h) (by assumption) (by rfl) (fun w hw => ?_) ?_; rotate_left; ((try dsimp only at hw); go_simp; try with_reducible rfl); (try simp only [Act.put, List.setIfInBounds_toArray, List.set_cons_zero, List.set_cons_succ]))
                    (refine but_take 2 (v := ?_) rfl (by kernel_rfl) (fun _ _ _ h => h) (by assumption) (by rfl) (fun w hw => ?_) ?_; rotate_left; ((try dsimp only at hw); go_simp; try with_reducible rfl); (try simp only [Act.put, List.setIfInBounds_toArray, List.set_cons_zero, List.set_cons_succ]))
                    (refine but_take 3 (v := ?_) rfl (by kernel_rfl) (fun _ _ _ h => h) (by assumption) (by rfl) (fun w hw => ?_) ?_; rotate_left; ((try dsimp only at hw); go_simp; try with_reducible rfl); (try simp only [Act.put, List.setIfInBounds_toArray, List.set_cons_zero, List.set_cons_succ]))
                    (refine but_take 4 (v := ?_) rfl (by kernel_rfl) (fun _ _ _ h => h) (by assumption) (by rfl) (fun w hw => ?_) ?_; rotate_left; ((try dsimp only at hw); go_simp; try with_reducible rfl); (try simp only [Act.put, List.setIfInBounds_toArray, List.set_cons_zero, List.set_cons_succ]))
                    (refine but_take 5 (v := ?_) rfl (by kernel_rfl) (fun _ _ _ h => h) (by assumption) (by rfl) (fun w hw => ?_) ?_; rotate_left; ((try dsimp only at hw); go_simp; try with_reducible rfl); (try simp only [Act.put, List.setIfInBounds_toArray, List.set_cons_zero, List.set_cons_succ]))
                    (refine but_take 6 (v := ?_) rfl (by kernel_rfl) (fun _ _ _ h => h) (by assumption) (by rfl) (fun w hw => ?_) ?_; rotate_left; ((try dsimp only at hw); go_simp; try with_reducible rfl); (try simp only [Act.put, List.setIfInBounds_toArray, List.set_cons_zero, List.set_cons_succ]))
                    (refine but_take 7 (v := ?_) rfl (by kernel_rfl) (fun _ _ _ h => h) (by assumption) (by rfl) (fun w hw => ?_) ?_; rotate_left; ((try dsimp only at hw); go_simp; try with_reducible rfl); (try simp only [Act.put, List.setIfInBounds_toArray, List.set_cons_zero, List.set_cons_succ]))
                    (refine but_take 8 (v := ?_) rfl (by kernel_rfl) (fun _ _ _ h => h) (by assumption) (by rfl) (fun w hw => ?_) ?_; rotate_left; ((try dsimp only at hw); go_simp; try with_reducible rfl); (try simp only [Act.put, List.setIfInBounds_toArray, List.set_cons_zero, List.set_cons_succ]))
                    (refine but_take 9 (v := ?_) rfl (by kernel_rfl) (fun _ _ _ h => h) (by assumption) (by rfl) (fun w hw => ?_) ?_; rotate_left; ((try dsimp only at hw); go_simp; try with_reducible rfl); (try simp only [Act.put, List.setIfInBounds_toArray, List.set_cons_zero, List.set_cons_succ]))
                    (refine but_take 10 (v := ?_) rfl (by kernel_rfl) (fun _ _ _ h => h) (by assumption) (by rfl) (fun w hw => ?_) ?_; rotate_left; ((try dsimp only at hw); go_simp; try with_reducible rfl); (try simp only [Act.put, List.setIfInBounds_toArray, List.set_cons_zero, List.set_cons_succ]))
                    refine but_one 11 rfl (by kernel_rfl) (fun K hK => ?_)
                    go_simp
                    go_at_call 36
                    refine A.out.mono ?_
                    rintro e w2 ⟨rfl, ⟨all2, j2⟩, d2⟩
                    obtain ⟨y1, y2, y3, y4, y5, y6, y7, y8, y9⟩ := rj_cells j2 (q := ⟨w.heap.size, wr.heap.size, false, 3, n, ka, kids.length, kc⟩) (by simp)
                    have y12 := World.block_lt_of_cell? w2 _ y5
                    have HP := Lib.hid (show _ ∧ _ from ⟨j2, d2⟩)
                    have HO := Lib.hid (show (w2.alloc (.cells #[.int .i64 cc] 3)).ownsRow B 3 1 ov' t.out.length (ints t.out) from World.ownsRow.alloc (by rw [HTO.out] at y8; exact y8) _)
                    have HNE := Lib.hid y9
                    have y13 : B ≤ w2.heap.size := (by have := HBR.out; omega)
                    clear j2 d2 y8 y9 hHeld
                    refine hK.out _ _ ⟨y1, y2, y5, y3⟩ (fun hHeld => ?_)
                    clear hK K
                    try simp only [Act.put, List.setIfInBounds_toArray, List.set_cons_zero, List.set_cons_succ]
                    refine but_one 12 rfl (by kernel_rfl) (fun K hK => ?_)
                    go_simp
                    refine hK.out _ _ ?_ (fun hHeld => ?_)
                    · exact ⟨(World.cell?_alloc_lt _ _ _ y7).trans y1, (World.cell?_alloc_lt _ _ _ y6).trans y2, (World.cell?_alloc_lt _ _ _ y12).trans y5, (World.cell?_alloc_lt _ _ _ y6).trans y3⟩
                    clear hK K
                    refine but_one 13 rfl (by kernel_rfl) (fun K hK => ?_)
                    refine step_append_lies _ (by rfl) (.tmp 59) (.tmp 67) 30 (by rfl) B 3 i0 (.int .i64 0) 1 8 Try.underlying30 hi' hi0 hi1 hi2 rfl (by decide) ov' t.out.length (ints t.out) (by rfl) HO.out ⟨w2.heap.size, 0, none⟩ 1 1 [.int .i64 cc] (by rfl) (by rfl) (World.news_of_block (cs := #[.int .i64 cc]) (t := 3) (fr := (0, 0)) (heap_alloc_new _ _)) (by simp [Value.oneCell']) (by omega) (by unfold maxLen; omega) (by omega) (by simp; omega) (w2.heap.size + 1) (by simp) ?_
                    intro g cap' w1 h1 h2 h3 h4
                    have z1 := (keep_cell h2 ⟨w.heap.size, 0, none⟩ y7 HNE.out.2.1).1.trans y1
                    have z2 := (keep_cell h2 ⟨rb, 0, none⟩ y6 HNE.out.1).1.trans y2
                    have z3 := (keep_cell h2 ⟨rb, 2, none⟩ y6 HNE.out.1).1.trans y3
                    have z4 := (keep_cell h2 ⟨rb, 2, none⟩ y6 HNE.out.1).2.trans y4
                    have z5 := (keep_cell h2 ⟨wr.heap.size, 1, none⟩ y12 HNE.out.2.2).1.trans y5
                    have HH := Lib.hid (show _ ∧ _ ∧ _ from ⟨h1, h2, h3⟩)
                    clear h1 h2 h3 h4 hHeld
                    refine hK.out _ _ ⟨z1, z2, z5, z3⟩ (fun hHeld => ?_)
                    clear hK K
                    try simp only [Act.put, List.setIfInBounds_toArray, List.set_cons_zero, List.set_cons_succ]
                    (refine but_take 14 (v := ?_) rfl (by kernel_rfl) (fun _ _ _ h => h) (by assumption) (by rfl) (fun w hw => ?_) ?_; rotate_left; ((try dsimp only at hw); go_simp; try with_reducible rfl); (try simp only [Act.put, List.setIfInBounds_toArray, List.set_cons_zero, List.set_cons_succ]))
                    (refine but_take 15 (v := ?_) rfl (by kernel_rfl) (fun _ _ _ h => h) (by assumption) (by rfl) (fun w hw => ?_) ?_; rotate_left; ((try dsimp only at hw); go_simp; try with_reducible rfl); (try simp only [Act.put, List.setIfInBounds_toArray, List.set_cons_zero, List.set_cons_succ]))
                    refine but_last rfl (by kernel_rfl) (by kernel_rfl) (fun K hK => ?_)
                    go_simp
                    refine hK.out _ _ ?_
                    clear hK K
                    all_goals
                      obtain ⟨j2, d2⟩ := HP.out
                      obtain ⟨h1, h2, h3⟩ := HH.out
                      have PJ := put_run (cc := cc) (o := .cells #[.int .i64 cc] 3) j2 (by rw [HTO.out]; simpa [ints] using h1) ⟨h2.os, h2.tape, h2.output, h2.size, h2.block⟩ (by
                        rcases h3 with h3 | h3
                        · exact .inl h3.symm
                        · exact .inr (by simp [Value.ownBlock, h3]))
                      have F := Lib.hid (NX.out false _ _ _ _ _ (DynH.of (HDD.out.trans (d2.trans PJ.2))) (fun _ h => h) PJ.1 HRU.out (by simp only [St.put]; omega) (by simp only [St.put, HTO.out]; simp; omega))
                      clear j2 d2 h1 h2 h3 PJ
                      go_wp2
                      go_roundg r.length
                      case measure => omega
                      case rel => exact F.out
                  · have k3' : (k == 3) = false := by simpa using k3
                    by_cases k5 : k = 5
                    · subst k5
                      obtain ⟨hi', hi0, hi1, hi2⟩ := HI'.out
                      have hcc5 := hcc
                      have A := Lib.hid (attempt_run B rb jb W0 kids (IH.out kids (by omega)) t ov' all' _ ⟨w.heap.size, wr.heap.size, false, 5, n, ka, kids.length, kc⟩ (by simp) ⟨rfl, HK.out⟩ rfl (by omega) (by omega) _ (HB.out.alloc (by have := HW.out; omega) _) HBR.out (by simp; have := HW.out; omega) (PV.out false).2 (HBS.out false))
                      have HRU := Lib.hid ((HRUN.out).trans (runP_5 n kids r t))
                      have hsz := attP_size kids t
                      generalize attP kids t = z at A HRU hsz
                      obtain ⟨t2, cc⟩ := z
                      simp only at A HRU hsz
                      obtain ⟨hsz1, hsz2⟩ := hsz
                      have hol : t2.out.length < 1000 := by omega
                      go_wp2_with (go_at_call 13; refine A.out.mono ?_)
                      rintro e w2 ⟨rfl, all2, big3, ov2, hsub3, d3, j3⟩
                      obtain ⟨y1, y2, y3, y4, y5, y6, y7, y8, y9⟩ := rj_cells j3 (q := ⟨w.heap.size, wr.heap.size, false, 5, n, ka, kids.length, kc⟩) (hsub3 _ (by simp))
                      have HP := Lib.hid (show _ ∧ _ ∧ _ from ⟨j3, d3, hsub3⟩)
                      have HO := Lib.hid (show (w2.alloc (.cells #[.int .i64 cc] 3)).drew.ownsRow B 3 1 ov2 t2.out.length (ints t2.out) from y8.alloc _)
                      have HNE := Lib.hid y9
                      have y13 : B ≤ w2.heap.size := by have := HBR.out; omega
                      clear j3 d3 hsub3 y8 y9
                      go_wp2_with fail
                      refine but_begin (fun w' => w'.cell? ⟨w.heap.size, 0, none⟩ = some (.pointer (some ⟨rb, 0, none⟩)) ∧ w'.cell? ⟨rb, 2, none⟩ = some ov2) 10 (by kernel_rfl) ?_
                      have hHeld : w2.drew.cell? ⟨w.heap.size, 0, none⟩ = some (.pointer (some ⟨rb, 0, none⟩)) ∧ w2.drew.cell? ⟨rb, 2, none⟩ = some ov2 := ⟨y1, y3⟩
                      (refine but_take 0 (v := ?_) rfl (by kernel_rfl) (fun _ _ _ h => h) (by assumption) (by rfl) (fun w hw => ?_) ?_; rotate_left; ((try dsimp only at hw); go_simp; try with_reducible rfl); (try simp only [Act.put, List.setIfInBounds_toArray, List.set_cons_zero, List.set_cons_succ]))
                      (refine but_take 1 (v := ?_) rfl (by kernel_rfl) (fun _ _ _ h => h) (by assumption) (by rfl) (fun w hw => ?_) ?_; rotate_left; ((try dsimp only at hw); go_simp; try with_reducible rfl); (try simp only [Act.put, List.setIfInBounds_toArray, List.set_cons_zero, List.set_cons_succ]))
                      (refine but_take 2 (v := ?_) rfl (by kernel_rfl) (fun _ _ _ h => h) (by assumption) (by rfl) (fun w hw => ?_) ?_; rotate_left; ((try dsimp only at hw); go_simp; try with_reducible rfl); (try simp only [Act.put, List.setIfInBounds_toArray, List.set_cons_zero, List.set_cons_succ]))
                      (refine but_take 3 (v := ?_) rfl (by kernel_rfl) (fun _ _ _ h => h) (by assumption) (by rfl) (fun w hw => ?_) ?_; rotate_left; ((try dsimp only at hw); go_simp; try with_reducible rfl); (try simp only [Act.put, List.setIfInBounds_toArray, List.set_cons_zero, List.set_cons_succ]))
                      (refine but_take 4 (v := ?_) rfl (by kernel_rfl) (fun _ _ _ h => h) (by assumption) (by rfl) (fun w hw => ?_) ?_; rotate_left; ((try dsimp only at hw); go_simp; try with_reducible rfl); (try simp only [Act.put, List.setIfInBounds_toArray, List.set_cons_zero, List.set_cons_succ]))
                      (refine but_take 5 (v := ?_) rfl (by kernel_rfl) (fun _ _ _ h => h) (by assumption) (by rfl) (fun w hw => ?_) ?_; rotate_left; ((try dsimp only at hw); go_simp; try with_reducible rfl); (try simp only [Act.put, List.setIfInBounds_toArray, List.set_cons_zero, List.set_cons_succ]))
                      refine but_one 6 rfl (by kernel_rfl) (fun K hK => ?_)
                      go_simp
                      refine hK.out _ _ ?_ (fun hHeld => ?_)
                      · exact ⟨(World.cell?_alloc_lt _ _ _ y7).trans y1, (World.cell?_alloc_lt _ _ _ y6).trans y3⟩
                      clear hK K
                      refine but_one 7 rfl (by kernel_rfl) (fun K hK => ?_)
                      refine step_append_lies _ (by rfl) (.tmp 88) (.tmp 90) 30 (by rfl) B 3 i0 (.int .i64 0) 1 8 Try.underlying30 hi' hi0 hi1 hi2 rfl (by decide) ov2 t2.out.length (ints t2.out) (by rfl) HO.out ⟨w2.heap.size, 0, none⟩ 1 1 [.int .i64 cc] (by rfl) (by rfl) (cell_one_new _ _ _) (by simp [Value.oneCell']) (by omega) (by unfold maxLen; omega) (by omega) (by simp; omega) (w2.heap.size + 1) (by simp) ?_
                      intro g cap' w1 h1 h2 h3 h4
                      have hg2 : (w2.alloc (.cells #[.int .i64 cc] 3)).grownBy w1 ov2.ownBlock := ⟨h2.os, h2.tape, h2.output, h2.size, h2.block⟩
                      have z1 := (keep_cell hg2 ⟨w.heap.size, 0, none⟩ y7 HNE.out.2.1).1.trans y1
                      have z3 := (keep_cell hg2 ⟨rb, 2, none⟩ y6 HNE.out.1).1.trans y3
                      have z4 := (keep_cell hg2 ⟨rb, 2, none⟩ y6 HNE.out.1).2.trans y4
                      have HH := Lib.hid (show _ ∧ _ ∧ _ from ⟨h1, h2, h3⟩)
                      clear h1 h2 h3 h4 hg2 hHeld
                      refine hK.out _ _ ⟨z1, z3⟩ (fun hHeld => ?_)
                      clear hK K
                      try simp only [Act.put, List.setIfInBounds_toArray, List.set_cons_zero, List.set_cons_succ]
                      (refine but_take 8 (v := ?_) rfl (by kernel_rfl) (fun _ _ _ h => h) (by assumption) (by rfl) (fun w hw => ?_) ?_; rotate_left; ((try dsimp only at hw); go_simp; try with_reducible rfl); (try simp only [Act.put, List.setIfInBounds_toArray, List.set_cons_zero, List.set_cons_succ]))
                      (refine but_take 9 (v := ?_) rfl (by kernel_rfl) (fun _ _ _ h => h) (by assumption) (by rfl) (fun w hw => ?_) ?_; rotate_left; ((try dsimp only at hw); go_simp; try with_reducible rfl); (try simp only [Act.put, List.setIfInBounds_toArray, List.set_cons_zero, List.set_cons_succ]))
                      refine but_last rfl (by kernel_rfl) (by kernel_rfl) (fun K hK => ?_)
                      go_simp
                      refine hK.out _ _ ?_
                      clear hK K
                      all_goals
                        obtain ⟨j2, d2, hsub3⟩ := HP.out
                        obtain ⟨h1, h2, h3⟩ := HH.out
                        have PJ := put_run (cc := cc) (o := .cells #[.int .i64 cc] 3) j2 (by simpa [ints] using h1) ⟨h2.os, h2.tape, h2.output, h2.size, h2.block⟩ (by
                          rcases h3 with h3 | h3
                          · exact .inl h3.symm
                          · exact .inr (by simp [Value.ownBlock, h3]))
                        have F := Lib.hid (NX.out false _ _ _ _ _ (d2.trans (DynH.of PJ.2)) hsub3 PJ.1 HRU.out (by simp only [St.put]; omega) (by simp only [St.put]; simp; omega))
                        clear j2 d2 hsub3 h1 h2 h3 PJ
                        go_wp2
                        go_roundg r.length
                        case measure => omega
                        case rel => exact F.out
                    · have k5' : (k == 5) = false := by simpa using k5
                      have F := Lib.hid (NX.out false t ov' all' _ _ (DynH.of (Dyn.refl _ _)) (fun _ h => h) (PV.out false).2 (by rw [HRUN.out]; simp [runP, k1, k2, k3, k4, k5, k6]) (by omega) (by omega))
                      clear k1 k2 k3 k4 k5 k6
                      go_wp2
                      go_roundg r.length
                      case measure => omega
                      case rel => exact F.out

end Go.Proofs.Ytekddnnclbnagaa
