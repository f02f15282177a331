/- JournalRuns: the reference model's 'Run' on the one operation that attempts all. -/
import Derived.Test.YtekddnnclbnagaaMc
namespace Go.Proofs.Ytekddnnclbnagaa
set_option linter.unusedSimpArgs false
set_option linter.unusedVariables false
open Go.RowKit

def TRel (M mb ob : Nat) (t : St) (l : Ops) (w : World) (g : Nat) (v : Value) (wr : World) : Prop :=
  (g = 1 ∧ v = .int .i64 0 ∧ wr = w) ∨ (g = 0 ∧ v = .int .i64 1 ∧ MHas M mb ob (runP (.cons 5 0 l .nil) t).1 wr ∧ Below M w wr)

theorem top_none (l : Ops) (t : St) : (runP (.cons 5 0 l .nil) t).2 = none := by
  rw [runP_5]; rfl

set_option maxRecDepth 100000 in
set_option maxHeartbeats 4000000 in
theorem mtop34 (M mb ob tb : Nat) (W0 : World) (hW0 : W0.heap.size = M) (l : Ops) (t : St) (Lv gv xv : Value) (w : World) (hB : Below M W0 w) (hS : MS M mb ob t Lv gv xv w) (hn1 : t.L.length + t.log.length + l.cnt ≤ 300) (hn2 : t.out.length + l.cnt ≤ 300)
    (sa : Option Addr) (cap : Nat) (hs : SliceOps W0 l sa l.length) (ht : w.heap[tb]? = some (.cells #[.int .i64 5, .int .i64 0, .slice sa l.length cap] 55 (0, 0))) :
    Calls Try.prog 34 #[.pointer (some ⟨mb, 0, none⟩), .slice (some ⟨tb, 0, none⟩) 1 1, .pointer (some ⟨ob, 0, none⟩)] w fun e w' => MEnds M mb ob (runP (.cons 5 0 l .nil) t) w e w' := by
  have HIH := Lib.hid (mrun34 M mb ob W0 hW0 l.cnt l (Nat.le_refl _))
  have hwm : M ≤ w.heap.size := by have := hB.size; omega
  have c0 : w.cell? ⟨tb, 0, none⟩ = some (.int .i64 5) := cell_of_heap ht 0
  have c1 : w.cell? ⟨tb, 1, none⟩ = some (.int .i64 0) := cell_of_heap ht 1
  have c2 : w.cell? ⟨tb, 2, none⟩ = some (.slice sa l.length cap) := cell_of_heap ht 2
  have hmb := heap_lt hS.bm
  have hob := heap_lt hS.bo
  have e0 : w.cell? ⟨mb, 0, none⟩ = some Lv := cell_of_heap hS.bm 0
  have HK := Lib.hid hs
  have HBW := Lib.hid hB
  have HMS := Lib.hid hS
  have HTN := Lib.hid (top_none l t)
  obtain ⟨i0, hi', hi0, hi1, hi2⟩ := info_parts Try.info3
  have HI' := Lib.hid (show _ ∧ _ ∧ _ ∧ _ from ⟨hi', hi0, hi1, hi2⟩)
  clear hS hB hs ht hW0 hi' hi0 hi1 hi2
  go_enter Try.func34, Try.ntmps34
  go_wp2
  go_loopg [8] 1 (fun g v wr => TRel M mb ob t l w g v wr)
  case atStart => exact .inl ⟨rfl, rfl, rfl⟩
  case round =>
    rcases hrel with ⟨hg, rfl, rfl⟩ | ⟨hg, rfl, hM, hB⟩
    · subst hg
      obtain ⟨hi', hi0, hi1, hi2⟩ := HI'.out
      have hS := HMS.out
      have hB := Below.refl M wr
      have NX := Lib.hid (fun (t2 : St) (w2 : World) (hr3 : runP (.cons 5 0 l .nil) t = runP .nil t2) (g1 : t2.L.length + t2.log.length + Ops.nil.cnt ≤ 400) (g2 : t2.out.length + Ops.nil.cnt ≤ 400) (hS3 : MHas M mb ob t2 w2) (hB3 : Below M wr w2) =>
        (show TRel M mb ob t l wr 0 (.int .i64 1) w2 from .inr ⟨rfl, rfl, by rw [hr3]; exact hS3, hB3⟩))
      have HSA := Lib.hid (show MS M mb ob t Lv gv xv (wr.alloc (.cells #[.int .i64 5, .int .i64 0, .slice sa l.length cap] 55)) ∧ Below M wr (wr.alloc (.cells #[.int .i64 5, .int .i64 0, .slice sa l.length cap] 55)) from ⟨ms_same hS (fun k hk => Below.heap_alloc _ _ _ hk), hB.alloc hwm _⟩)
      have a0 : (wr.alloc (.cells #[.int .i64 5, .int .i64 0, .slice sa l.length cap] 55)).cell? ⟨mb, 0, none⟩ = some Lv := (World.cell?_alloc_lt _ _ _ hmb).trans e0
      obtain ⟨la, lc, hLv, _⟩ := own_slice hS.l
      subst hLv
      clear hS hB
      have C := Lib.hid (HIH.out (wr.alloc (.cells #[.int .i64 5, .int .i64 0, .slice sa l.length cap] 55)) t sa cap (HBW.out.alloc hwm _) ⟨_, _, _, HSA.out.1⟩ (by omega) (by omega) HK.out)
      have HRU := Lib.hid (runP_5 0 l .nil t)
      have hsz := runP_size l t
      simp only [attP] at HRU
      generalize runP l t = z at C HRU hsz
      obtain ⟨t2, _ | er⟩ := z
      · simp only at HRU hsz
        go_wp2_with (go_at_call 34; refine C.out.mono ?_)
        rintro e w2 ⟨rfl, ⟨Lv2, gv2, xv2, hS2⟩, hB2⟩
        have HSD := Lib.hid (show MS M mb ob t2 Lv2 gv2 xv2 w2 ∧ Below M wr w2 from ⟨hS2, HSA.out.2.trans hB2⟩)
        clear hS2 hB2 HSA
        have hx0 : w2.cell? ⟨ob, 0, none⟩ = some xv2 := cell_of_heap HSD.out.1.bo 0
        have hxf : w2.frozen? ⟨ob, 0, none⟩ = false := frozen_of_heap HSD.out.1.bo 0
        have HXO := Lib.hid (show (w2.alloc (.cells #[.int .i64 0] 3)).ownsRow M 3 1 xv2 t2.out.length (ints t2.out) from HSD.out.1.x.alloc _)
        have HXN := Lib.hid (show xv2.ownBlock ≠ some ob from fun e => own_ne HSD.out.1.bo HSD.out.1.x (by decide) e.symm)
        have hobw : ob < w2.heap.size := heap_lt HSD.out.1.bo
        have hMw : M ≤ w2.heap.size := by have := HSD.out.1.ho; omega
        go_wp2_with (at_builtin; refine wpList_append_lies _ rfl (.tmp 125) (.tmp 127) 30 rfl M 3 i0 (.int .i64 0) 1 8 Try.underlying30 hi' hi0 hi1 hi2 rfl (by decide) xv2 t2.out.length (ints t2.out) rfl HXO.out ⟨w2.heap.size, 0, none⟩ 1 1 [.int .i64 0] rfl rfl (World.news_of_block (cs := #[.int .i64 0]) (t := 3) (fr := (0, 0)) (heap_alloc_new _ _)) (by simp [Value.oneCell']) (by omega) (by unfold maxLen; omega) (by omega) (by simp; omega) (w2.heap.size + 1) (by simp) ?_; intro ga cap w1 h1 h2 h3 h4; have z0 := (keep_cell h2 ⟨ob, 0, none⟩ hobw HXN.out).1.trans hx0; have z1 := (keep_cell h2 ⟨ob, 0, none⟩ hobw HXN.out).2.trans hxf; have HH := Lib.hid (show _ ∧ _ ∧ _ from ⟨h1, h2, h3⟩); clear h1 h2 h3 h4)
        obtain ⟨h1, h2, h3⟩ := HH.out
        have MSn := ms_app_x HSD.out.1 h1 h2 (by
          rcases h3 with h3 | h3
          · exact .inl h3.symm
          · exact .inr (by simp [Value.ownBlock, h3]))
        have F := Lib.hid (NX.out _ _ (HRU.out) (by simp only [St.put, Ops.cnt]; omega) (by simp only [St.put, Ops.cnt]; simp; omega) ⟨_, _, _, MSn.1⟩ (HSD.out.2.trans MSn.2))
        clear h1 h2 h3 MSn
        go_roundg 0
        case measure => omega
        case rel => exact F.out

      · simp only at HRU hsz
        go_wp2_with (go_at_call 34; refine C.out.mono ?_)
        rintro e w2 ⟨rfl, ⟨Lv2, gv2, xv2, hS2⟩, hB2⟩
        obtain ⟨la2, lc2, hLv2, _⟩ := own_slice hS2.l
        subst hLv2
        have hz2 : w2.cell? ⟨mb, 0, none⟩ = some (.slice la2 t2.L.length lc2) := cell_of_heap hS2.bm 0
        have HS2 := Lib.hid hS2
        have HB2 := Lib.hid hB2
        clear hS2 hB2
        rcases (Nat.lt_or_ge t2.L.length t.L.length).symm with hle | hle
        · have hmn : min t.L.length t2.L.length = t.L.length := by omega
          rw [hmn] at HRU
          have C2 := Lib.hid (cut55 M mb ob t2 (.slice la2 t2.L.length lc2) gv2 xv2 t.L.length true w2 HS2.out (by omega) (by omega) (by have := HS2.out.hm; have := heap_lt HS2.out.bm; omega))
          clear hmn
          go_wp2_with (go_at_call 55; with_reducible refine C2.out.mono ?_)
          rintro e w3 ⟨rfl, ⟨Lv3, gv3, hS3⟩, hB3⟩
          obtain ⟨t3, ht3⟩ : ∃ t3, (⟨t2.L.take (t.L.length), cutLog true t2 (t.L.length), t2.out⟩ : St) = t3 := ⟨_, rfl⟩
          have hsz3 : t3.L.length + t3.log.length ≤ t2.L.length + t2.log.length ∧ t3.out.length ≤ t2.out.length := by rw [← ht3]; simp [cutLog] <;> omega
          rw [ht3] at hS3
          have HRU3 := Lib.hid (show runP (.cons 5 0 l .nil) t = runP .nil (t3.put er) by rw [HRU, ← ht3]; simp [St.undo, cutLog])
          have HSD := Lib.hid (show MS M mb ob t3 Lv3 gv3 xv2 w3 ∧ Below M wr w3 from ⟨hS3, (HSA.out.2.trans HB2.out).trans hB3⟩)
          clear hS3 hB3 HSA HRU
          have hx0 : w3.cell? ⟨ob, 0, none⟩ = some xv2 := cell_of_heap HSD.out.1.bo 0
          have hxf : w3.frozen? ⟨ob, 0, none⟩ = false := frozen_of_heap HSD.out.1.bo 0
          have HXO := Lib.hid (show (w3.alloc (.cells #[.int .i64 er] 3)).ownsRow M 3 1 xv2 t3.out.length (ints t3.out) from HSD.out.1.x.alloc _)
          have HXN := Lib.hid (show xv2.ownBlock ≠ some ob from fun e => own_ne HSD.out.1.bo HSD.out.1.x (by decide) e.symm)
          have hobw : ob < w3.heap.size := heap_lt HSD.out.1.bo
          have hMw : M ≤ w3.heap.size := by have := HSD.out.1.ho; omega
          go_wp2_with (at_builtin; refine wpList_append_lies _ rfl (.tmp 125) (.tmp 127) 30 rfl M 3 i0 (.int .i64 0) 1 8 Try.underlying30 hi' hi0 hi1 hi2 rfl (by decide) xv2 t3.out.length (ints t3.out) rfl HXO.out ⟨w3.heap.size, 0, none⟩ 1 1 [.int .i64 er] rfl rfl (World.news_of_block (cs := #[.int .i64 er]) (t := 3) (fr := (0, 0)) (heap_alloc_new _ _)) (by simp [Value.oneCell']) (by omega) (by unfold maxLen; omega) (by omega) (by simp; omega) (w3.heap.size + 1) (by simp) ?_; intro ga cap w1 h1 h2 h3 h4; have z0 := (keep_cell h2 ⟨ob, 0, none⟩ hobw HXN.out).1.trans hx0; have z1 := (keep_cell h2 ⟨ob, 0, none⟩ hobw HXN.out).2.trans hxf; have HH := Lib.hid (show _ ∧ _ ∧ _ from ⟨h1, h2, h3⟩); clear h1 h2 h3 h4)
          obtain ⟨h1, h2, h3⟩ := HH.out
          have MSn := ms_app_x HSD.out.1 h1 h2 (by
            rcases h3 with h3 | h3
            · exact .inl h3.symm
            · exact .inr (by simp [Value.ownBlock, h3]))
          have F := Lib.hid (NX.out _ _ (HRU3.out) (by simp only [St.put, Ops.cnt]; omega) (by simp only [St.put, Ops.cnt]; simp; omega) ⟨_, _, _, MSn.1⟩ (HSD.out.2.trans MSn.2))
          clear h1 h2 h3 MSn
          go_roundg 0
          case measure => omega
          case rel => exact F.out

        · have hmn : min t.L.length t2.L.length = t2.L.length := by omega
          rw [hmn] at HRU
          have C2 := Lib.hid (cut55 M mb ob t2 (.slice la2 t2.L.length lc2) gv2 xv2 t2.L.length true w2 HS2.out (by omega) (by omega) (by have := HS2.out.hm; have := heap_lt HS2.out.bm; omega))
          clear hmn
          go_wp2_with (go_at_call 55; with_reducible refine C2.out.mono ?_)
          rintro e w3 ⟨rfl, ⟨Lv3, gv3, hS3⟩, hB3⟩
          obtain ⟨t3, ht3⟩ : ∃ t3, (⟨t2.L.take (t2.L.length), cutLog true t2 (t2.L.length), t2.out⟩ : St) = t3 := ⟨_, rfl⟩
          have hsz3 : t3.L.length + t3.log.length ≤ t2.L.length + t2.log.length ∧ t3.out.length ≤ t2.out.length := by rw [← ht3]; simp [cutLog] <;> omega
          rw [ht3] at hS3
          have HRU3 := Lib.hid (show runP (.cons 5 0 l .nil) t = runP .nil (t3.put er) by rw [HRU, ← ht3]; simp [St.undo, cutLog])
          have HSD := Lib.hid (show MS M mb ob t3 Lv3 gv3 xv2 w3 ∧ Below M wr w3 from ⟨hS3, (HSA.out.2.trans HB2.out).trans hB3⟩)
          clear hS3 hB3 HSA HRU
          have hx0 : w3.cell? ⟨ob, 0, none⟩ = some xv2 := cell_of_heap HSD.out.1.bo 0
          have hxf : w3.frozen? ⟨ob, 0, none⟩ = false := frozen_of_heap HSD.out.1.bo 0
          have HXO := Lib.hid (show (w3.alloc (.cells #[.int .i64 er] 3)).ownsRow M 3 1 xv2 t3.out.length (ints t3.out) from HSD.out.1.x.alloc _)
          have HXN := Lib.hid (show xv2.ownBlock ≠ some ob from fun e => own_ne HSD.out.1.bo HSD.out.1.x (by decide) e.symm)
          have hobw : ob < w3.heap.size := heap_lt HSD.out.1.bo
          have hMw : M ≤ w3.heap.size := by have := HSD.out.1.ho; omega
          go_wp2_with (at_builtin; refine wpList_append_lies _ rfl (.tmp 125) (.tmp 127) 30 rfl M 3 i0 (.int .i64 0) 1 8 Try.underlying30 hi' hi0 hi1 hi2 rfl (by decide) xv2 t3.out.length (ints t3.out) rfl HXO.out ⟨w3.heap.size, 0, none⟩ 1 1 [.int .i64 er] rfl rfl (World.news_of_block (cs := #[.int .i64 er]) (t := 3) (fr := (0, 0)) (heap_alloc_new _ _)) (by simp [Value.oneCell']) (by omega) (by unfold maxLen; omega) (by omega) (by simp; omega) (w3.heap.size + 1) (by simp) ?_; intro ga cap w1 h1 h2 h3 h4; have z0 := (keep_cell h2 ⟨ob, 0, none⟩ hobw HXN.out).1.trans hx0; have z1 := (keep_cell h2 ⟨ob, 0, none⟩ hobw HXN.out).2.trans hxf; have HH := Lib.hid (show _ ∧ _ ∧ _ from ⟨h1, h2, h3⟩); clear h1 h2 h3 h4)
          obtain ⟨h1, h2, h3⟩ := HH.out
          have MSn := ms_app_x HSD.out.1 h1 h2 (by
            rcases h3 with h3 | h3
            · exact .inl h3.symm
            · exact .inr (by simp [Value.ownBlock, h3]))
          have F := Lib.hid (NX.out _ _ (HRU3.out) (by simp only [St.put, Ops.cnt]; omega) (by simp only [St.put, Ops.cnt]; simp; omega) ⟨_, _, _, MSn.1⟩ (HSD.out.2.trans MSn.2))
          clear h1 h2 h3 MSn
          go_roundg 0
          case measure => omega
          case rel => exact F.out
    · subst hg
      have E := Lib.hid (show MEnds M mb ob (runP (.cons 5 0 l .nil) t) w (.returned (.tuple #[.int .i64 0, .bool true])) wr from ⟨by rw [HTN.out]; rfl, hM, hB⟩)
      clear hM hB
      go_wp2
      go_ret2
      exact E.out

end Go.Proofs.Ytekddnnclbnagaa
