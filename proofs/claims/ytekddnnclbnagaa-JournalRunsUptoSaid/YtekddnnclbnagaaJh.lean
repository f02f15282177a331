/- Nil journals, nil functions; Forget. -/
import Derived.Test.YtekddnnclbnagaaJg
import Derived.Lib.SliceRun
namespace Go.Proofs.Ytekddnnclbnagaa
set_option linter.unusedSimpArgs false
set_option linter.unusedVariables false
open Go.RowKit

theorem check_nil (to : Int) (w : World) :
    Calls Try.prog 49 #[.pointer none, .int .i64 to] w fun e w' => e = .returned (.int .i64 1) ∧ w = w' := by
  go_enter Try.func49, Try.ntmps49
  go_wp2
  go_ret
  exact ⟨rfl, rfl⟩

theorem rewind_nil (to : Int) (w : World) :
    Calls Try.prog 18 #[.pointer none, .int .i64 to] w fun e w' => e = .returned (.int .i64 1) ∧ w = w' := by
  go_enter Try.func18, Try.ntmps18
  go_wp2_with (go_at_call 49; refine (check_nil to _).mono ?_; rintro e w' ⟨rfl, rfl⟩)
  go_ret
  exact ⟨rfl, rfl⟩

theorem forget_nil (to : Int) (w : World) :
    Calls Try.prog 36 #[.pointer none, .int .i64 to] w fun e w' => e = .returned (.int .i64 1) ∧ w = w' := by
  go_enter Try.func36, Try.ntmps36
  go_wp2_with (go_at_call 49; refine (check_nil to _).mono ?_; rintro e w' ⟨rfl, rfl⟩)
  go_ret
  exact ⟨rfl, rfl⟩

theorem attempt_nil (p : Option Addr) (v : Value) (w : World) (h : p = none ∨ (∃ jb, p = some ⟨jb, 0, none⟩) ∧ v = .nilFunc) :
    Calls Try.prog 13 #[.pointer p, v] w fun e w' => e = .returned (.int .i64 1) ∧ Below w.heap.size w w' := by
  have q0 := feql0
  rcases h with rfl | ⟨⟨jb, rfl⟩, rfl⟩
  all_goals
    go_enter_defers Try.func13, Try.ntmps13
    go_wp2
    refine ⟨.int .i64 1, by simp [results, Try.results13, go_sem], rfl, ?_⟩
    exact (((Below.refl _ _).alloc (Nat.le_refl _) _).alloc (by simp) _)

set_option maxHeartbeats 1000000 in
theorem nil_walk (i : Int) (_ : (Lit.int .i64 i).wf = true) (w : World) :
    Calls Try.prog 9 #[.int .i64 i] w fun e w' => e = .returned (.bool true) ∧ Below w.heap.size w w' := by
  have hmf := makeFunc_run
  go_enter Try.func9, Try.ntmps9
  go_wp2_with (go_at_call 11; refine (awake_any w).mono ?_; rintro e w1 ⟨rfl, hb1⟩)
  have B1 := Lib.hid hb1
  clear hb1
  go_wp2_with (first | (go_at_call 19; (with_reducible refine (record_none _ _).mono ?_); rintro e w' ⟨rfl, rfl⟩) | (go_at_call 19; (with_reducible refine (record_nil _ _ (.inr ⟨_, rfl⟩)).mono ?_); rintro e w' ⟨rfl, rfl⟩) | (go_at_call 13; refine (attempt_nil none _ _ (.inl rfl)).mono ?_))
  rintro e w2 ⟨rfl, hb2⟩
  have h1 : w2.heap[w1.heap.size]? = some (.cells #[.bool false] 4 (0, 0)) := by
    rw [hb2.block _ (by simp; omega)]; exact alloc_heap (heap_alloc_new _ _)
  have h5 : w2.heap[w1.heap.size + 1]? = some (.cells #[.slice none 0 0, .bool false] 29 (0, 0)) := by
    rw [hb2.block _ (by simp)]; rw [← alloc_size w1 (.cells #[.bool false] 4)]; exact heap_alloc_new _ _
  have h2 := hb2.size
  simp only [alloc_size] at h2
  have b1 := B1.out.size
  have hB2 := (((B1.out.alloc b1 (.cells #[.bool false] 4)).alloc (by simp; omega) (.cells #[.slice none 0 0, .bool false] 29))).trans (hb2.mono (by simp; omega))
  have B2 := Lib.hid hB2
  have H1 := Lib.hid h1
  have H5 := Lib.hid h5
  clear hB2 hb2 h1 h5
  go_wp2_with (go_at_call 13; (with_reducible refine (attempt_nil _ _ _ (.inr ⟨⟨_, rfl⟩, rfl⟩)).mono ?_))
  rintro e w3 ⟨rfl, hb3⟩
  have h3 : w3.heap[w1.heap.size]? = some (.cells #[.bool false] 4 (0, 0)) := by
    rw [hb3.block _ (by omega)]; exact H1.out
  have h4 : w3.heap[w1.heap.size + 1]? = some (.cells #[.slice none 0 0, .bool false] 29 (0, 0)) := by
    rw [hb3.block _ (by omega)]; exact H5.out
  have c3 : w3.cell? ⟨w1.heap.size, 0, none⟩ = some (.bool false) := by rw [cell_of_heap h3]; rfl
  have c4 : w3.cell? ⟨w1.heap.size + 1, 0, none⟩ = some (.slice none 0 0) := by rw [cell_of_heap h4]; rfl
  have B3 := Lib.hid (B2.out.trans (hb3.mono (by omega)))
  clear h3 h4 hb3
  have L := Lib.hid (len_any _ _ _ _ w3 c4 (by simp [maxLen]))
  go_wp2_with (first | (go_at_call 18; (with_reducible refine (rewind_nil _ _).mono ?_); rintro e w' ⟨rfl, rfl⟩) | (go_at_call 36; (with_reducible refine (forget_nil _ _).mono ?_); rintro e w' ⟨rfl, rfl⟩) | (go_at_call 17; (with_reducible refine (len_nil _).mono ?_); rintro e w' ⟨rfl, rfl⟩)  | (go_at_call 17; (with_reducible refine L.out.mono ?_); rintro e w' ⟨rfl, rfl⟩))
  go_ret
  exact ⟨rfl, B3.out⟩

end Go.Proofs.Ytekddnnclbnagaa
