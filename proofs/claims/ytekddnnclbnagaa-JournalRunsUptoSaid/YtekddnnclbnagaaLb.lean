/- JournalRuns: the undo functions that use the journal, and the undoing. -/
import Derived.Test.YtekddnnclbnagaaLa
import Derived.Deep.DeepCutAuto
namespace Go.Proofs.Ytekddnnclbnagaa
set_option linter.unusedSimpArgs false
set_option linter.unusedVariables false
open Go.RowKit

theorem check_busy (B jb : Nat) (us : List Value) (t : Int) (w : World) (h : JAt B jb us true w) :
    Calls Try.prog 49 #[.pointer (some ⟨jb, 0, none⟩), .int .i64 t] w fun e w' => e = .returned (.int .i64 20) ∧ w = w' := by
  obtain ⟨_, hc1⟩ := h.cells
  go_enter Try.func49, Try.ntmps49
  go_wp2
  go_ret
  exact ⟨rfl, rfl⟩

theorem rewind_busy (B jb : Nat) (us : List Value) (t : Int) (w : World) (h : JAt B jb us true w) :
    Calls Try.prog 18 #[.pointer (some ⟨jb, 0, none⟩), .int .i64 t] w fun e w' => e = .returned (.int .i64 20) ∧ w = w' := by
  have C := Lib.hid (check_busy B jb us t w h)
  clear h
  go_enter Try.func18, Try.ntmps18
  go_wp2_with (go_at_call 49; refine C.out.mono ?_; rintro e w' ⟨rfl, rfl⟩)
  go_ret
  exact ⟨rfl, rfl⟩

theorem forget_busy (B jb : Nat) (us : List Value) (t : Int) (w : World) (h : JAt B jb us true w) :
    Calls Try.prog 36 #[.pointer (some ⟨jb, 0, none⟩), .int .i64 t] w fun e w' => e = .returned (.int .i64 20) ∧ w = w' := by
  have C := Lib.hid (check_busy B jb us t w h)
  clear h
  go_enter Try.func36, Try.ntmps36
  go_wp2_with (go_at_call 49; refine C.out.mono ?_; rintro e w' ⟨rfl, rfl⟩)
  go_ret
  exact ⟨rfl, rfl⟩

set_option maxHeartbeats 2000000 in
theorem undo52 (B x rb o jb : Nat) (us : List Value) (n m : Int) (hm : IntKind.i64.wrap (-1000000 - n) = m) (logs outs : List Int) (ov : Value) (all : List QR) (w : World) (hJ : JAt B jb us true w) (hS : RS B rb jb logs outs ov all w) (hB : B ≤ w.heap.size) (hx : w.heap[x]? = some (.cells #[.pointer (some ⟨rb, 0, none⟩)] 45 (0, 0)))
    (ho : w.cell? ⟨o, 1, none⟩ = some (.int .i64 n)) (hl : logs.length < 1000) (hul : us.length < 100000) :
    Calls Try.prog 52 #[.pointer (some ⟨x, 0, none⟩), .pointer (some ⟨o, 0, none⟩)] w fun e w' => e = .returned (.tuple #[]) ∧ JAt B jb us true w' ∧ RS B rb jb (logs ++ [m]) outs ov all w' ∧ Dyn (U jb (RF rb all)) w w' := by
  obtain ⟨lv, hr, hown, hoo, hne⟩ := hS.st
  have c0 : w.cell? ⟨x, 0, none⟩ = some (.pointer (some ⟨rb, 0, none⟩)) := by rw [cell_of_heap hx]; rfl
  have c1 : w.cell? ⟨rb, 1, none⟩ = some lv := by rw [cell_of_heap hr]; rfl
  obtain ⟨i0, hi, hi0, hi1, hi2⟩ := info_parts Try.info3
  have HO := Lib.hid (show ((w.alloc (.cells #[.int .i64 (m)] 3)).drew).ownsRow B 3 1 lv logs.length (ints logs) from hown.alloc _)
  have HX := Lib.hid hx
  have HR := Lib.hid hr
  have HS := Lib.hid hS
  have HJ := Lib.hid hJ
  have HOW := Lib.hid (show _ ∧ _ ∧ _ from ⟨hown, hoo, hne⟩)
  have hxl := heap_lt hx
  have hrl := heap_lt hr
  have HN := Lib.hid (show ∀ j u, [Value.int .i64 (m)][j]? = some u → ((w.alloc (.cells #[.int .i64 (m)] 3)).drew).cell? ((⟨w.heap.size, 0, none⟩ : Addr).add j) = some u from cell_one_new _ _ _)
  have hmf := makeFunc_run
  clear hx hr hown hS hJ hoo hne
  go_enter Try.func52, Try.ntmps52
  go_upto_region 0 with fail
  go_cut [] (fun wx => ∃ w1 v', w1.ownsRow B 3 1 v' (logs.length + 1) (ints (logs ++ [m])) ∧ ((w.alloc (.cells #[.int .i64 (m)] 3)).drew).grownBy w1 lv.ownBlock ∧ (v'.ownBlock = lv.ownBlock ∨ v'.ownBlock = some (w.heap.size + 1)) ∧ wx = w1.setCell ⟨rb, 1, none⟩ v')
  case first =>
    go_region_law ((refine step_append_lies _ rfl (.tmp 7) (.tmp 11) 30 rfl B 3 i0 (.int .i64 0) 1 8 Try.underlying30 hi hi0 hi1 hi2 rfl (by decide) lv logs.length (ints logs) rfl HO.out ⟨w.heap.size, 0, none⟩ 1 1 [.int .i64 (m)] rfl rfl HN.out (by simp [Value.oneCell']) (by omega) (by unfold maxLen; omega) (by omega) (by simp; omega) (w.heap.size + 1) (by simp) ?_; intro g cap w1 h1 h2 h3 h4; have hr1 : w1.heap[rb]? = some (.cells #[.pointer (some ⟨jb, 0, none⟩), lv, ov] 47 (0, 0)) := (h2.block rb (by simp; omega) (own_ne (alloc_heap (o' := .cells #[.int .i64 (m)] 3) HR.out) HO.out (by decide))).trans (alloc_heap HR.out); have hx1 : w1.heap[x]? = some (.cells #[.pointer (some ⟨rb, 0, none⟩)] 45 (0, 0)) := (h2.block x (by simp; omega) (own_ne (alloc_heap (o' := .cells #[.int .i64 (m)] 3) HX.out) HO.out (by decide))).trans (alloc_heap HX.out); have e0 : w1.cell? ⟨x, 0, none⟩ = some (.pointer (some ⟨rb, 0, none⟩)) := (cell_of_heap hx1 0); have e1 : w1.cell? ⟨rb, 1, none⟩ = some lv := (cell_of_heap hr1 1); have e2 : w1.frozen? ⟨rb, 1, none⟩ = false := frozen_of_heap hr1 1; have HH := Lib.hid (show _ ∧ _ ∧ _ from ⟨h1, h2, h3⟩); clear h1 h2 h3 h4 hr1 hx1))
    all_goals
      go_wp2_with fail
      go_meet
      case rel =>
        obtain ⟨h1, h2, h3⟩ := HH.out
        refine ⟨w1, _, by simpa [ints] using h1, h2, ?_, rfl⟩
        rcases h3 with h3 | h3
        · exact .inl h3.symm
        · exact .inr (by simp [Value.ownBlock, h3])
  case rest =>
    obtain ⟨w1, v', h1, h2, h3, rfl⟩ := hcut
    obtain ⟨hown, hoo, hne⟩ := HOW.out
    obtain ⟨r1, r2⟩ := rs_log HS.out HR.out hown hoo hne h1 h2 h3
    obtain ⟨r3, r4⟩ := r2.right (jat_framed B jb us true) HJ.out (fun k hk hf => (rs_apart B rb jb logs outs ov all).ne HJ.out HS.out k hf hk)
    have hxr : x ≠ rb := by rintro rfl; have h := HX.out; rw [HR.out] at h; simp at h
    have hx1 : (w1.setCell ⟨rb, 1, none⟩ v').heap[x]? = some (.cells #[.pointer (some ⟨rb, 0, none⟩)] 45 (0, 0)) :=
      setCell_heap_ne ((h2.block x (by simp; omega) (own_ne (alloc_heap (o' := .cells #[.int .i64 m] 3) HX.out) (hown.alloc _) (by decide))).trans (alloc_heap HX.out)) hxr _
    obtain ⟨lv2, hr2, _⟩ := r1.st
    have d0 : (w1.setCell ⟨rb, 1, none⟩ v').cell? ⟨x, 0, none⟩ = some (.pointer (some ⟨rb, 0, none⟩)) := cell_of_heap hx1 0
    have d1 : (w1.setCell ⟨rb, 1, none⟩ v').cell? ⟨rb, 0, none⟩ = some (.pointer (some ⟨jb, 0, none⟩)) := cell_of_heap hr2 0
    obtain ⟨⟨la, lc, hc0⟩, _⟩ := r4.cells
    have L := Lib.hid (len_any jb la _ lc _ hc0 (by unfold maxLen; omega))
    have RC := Lib.hid (fun first cap => record_busy B jb (.func 53) first cap _ us r4)
    have RW := Lib.hid (rewind_busy B jb us 0 _ r4)
    have FG := Lib.hid (forget_busy B jb us 0 _ r4)
    have E := Lib.hid (show _ ∧ _ ∧ _ from ⟨r4, r1, r3⟩)
    generalize hWW : w1.setCell ⟨rb, 1, none⟩ v' = WW at *
    clear r1 r2 r3 r4 hx1 hr2 hc0 h1 h2 h3 hown hoo hne c0 c1 hWW
    go_wp2_with (first | (go_at_call 17; refine L.out.mono ?_; rintro e w' ⟨rfl, rfl⟩) | (go_at_call 19; refine (RC.out _ _).mono ?_; rintro e w' ⟨rfl, rfl⟩) | (go_at_call 18; refine RW.out.mono ?_; rintro e w' ⟨rfl, rfl⟩) | (go_at_call 36; refine FG.out.mono ?_; rintro e w' ⟨rfl, rfl⟩))
    go_end0
    exact ⟨rfl, E.out⟩

end Go.Proofs.Ytekddnnclbnagaa
