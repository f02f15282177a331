/- Attempt's deferred closure. -/
import Derived.Test.YtekddnnclbnagaaJc
import Derived.Recover
import Derived.StillTailTactics
namespace Go.Proofs.Ytekddnnclbnagaa
set_option linter.unusedSimpArgs false
set_option linter.unusedVariables false
open Go.RowKit

theorem att_deferred_done (bd bj bf be : Nat) (u : FrameMode) (w : World) (hd : VarAt bd (.bool true) 4 w) :
    CallsD Try.prog 46 #[.pointer (some ⟨bd, 0, none⟩), .pointer (some ⟨bj, 0, none⟩), .pointer (some ⟨bf, 0, none⟩), .pointer (some ⟨be, 0, none⟩)] u w fun e u' w' => u' = u ∧ e = .returned (.tuple #[]) ∧ w' = w := by
  have hc : w.cell? ⟨bd, 0, none⟩ = some (.bool true) := by rw [cell_of_heap hd]; rfl
  clear hd
  go_enter_d Try.func46, Try.ntmps46
  go_wp2
  refine bodyPost_ret (results_none rfl _ _ _) rfl ?_
  exact ⟨rfl, rfl⟩

theorem assert_fail (er : Int) (w : World) : (Instr.typeAssert (.iface 63 (.agg #[.int .i64 er])) 20 63 true).run Try.prog w = .ok (.tuple #[.agg #[.int .i64 er], .bool true]) w := by kernel_rfl

theorem assert_other (er : Int) (w : World) : (Instr.typeAssert (.iface 3 (.int .i64 er)) 20 63 true).run Try.prog w = .ok (.tuple #[.agg #[.int .i64 0], .bool false]) w := by kernel_rfl

theorem att_end {B jb : Nat} {I : List Value → World → Prop} {G : World → Nat → Prop} (hU : Undoes B jb I G) {w w2 : World} {us : List Value} {be : Nat} {ev : Value}
    (hJ : JAt B jb us false w2) (hI : I us w2) (hb : w2.heap[be]? = some (.cells #[ev] 33 (0, 0))) (hd : Dyn (U jb G) w w2) (hn : ¬ U jb G w be) (hbw : be < w.heap.size) (o : Obj) (x : Value) :
    JAt B jb us false ((w2.setCell ⟨be, 0, none⟩ x).alloc o) ∧ I us ((w2.setCell ⟨be, 0, none⟩ x).alloc o) ∧ VarAt be x 33 ((w2.setCell ⟨be, 0, none⟩ x).alloc o) ∧
      Dyn (fun w k => U jb G w k ∨ k = be) w ((w2.setCell ⟨be, 0, none⟩ x).alloc o) := by
  have hF := (jat_framed B jb us false).both (hU.fr us)
  have hn2 : ¬ U jb G w2 be := fun h => hn (hd.foot be hbw h)
  have hs : ∀ k, U jb G w2 k → ((w2.setCell ⟨be, 0, none⟩ x).alloc o).heap[k]? = w2.heap[k]? := by
    intro k hk
    have hlt := hF.inn w2 k ⟨hJ, hI⟩ hk
    rw [Below.heap_alloc _ _ _ (by simpa [World.setCell] using hlt), Below.heap_setCell _ _ _ _ (by rintro rfl; exact hn2 hk)]
  obtain ⟨⟨h1, h2⟩, h3⟩ := hF.fr w2 _ ⟨hJ, hI⟩ hs
  refine ⟨h1, h2, alloc_heap (by rw [setCell_heap hb]; rfl), ?_⟩
  refine ⟨hd.os, hd.tape, hd.output, ?_, fun k hk hn' => ?_, fun k hk hf => ?_⟩
  · have := hd.size; simp [World.setCell]; omega
  · rw [Below.heap_alloc _ _ _ (by have := hd.size; simp [World.setCell]; omega), Below.heap_setCell _ _ _ _ (by rintro rfl; exact hn' (.inr rfl))]
    exact hd.block k hk (fun h => hn' (.inl h))
  · exact hf.imp (fun h => hd.foot k hk (h3 k h)) id

set_option maxHeartbeats 1000000 in
theorem att_deferred_fail (B jb : Nat) (I : List Value → World → Prop) (G : World → Nat → Prop) (hU : Undoes B jb I G) (bd bj bf be : Nat) (w : World) (us : List Value) (fr : Nat) (er : Int) (ev : Value) (older : List PanicEntry)
    (hd : VarAt bd (.bool false) 4 w) (hj : VarAt bj (.pointer (some ⟨jb, 0, none⟩)) 26 w) (hf : VarAt bf (.int .i64 fr) 3 w) (he : VarAt be ev 33 w)
    (h : JAt B jb us false w) (hI : I us w) (hlen : us.length < 100000) (hn : ¬ U jb G w be) :
    CallsD Try.prog 46 #[.pointer (some ⟨bd, 0, none⟩), .pointer (some ⟨bj, 0, none⟩), .pointer (some ⟨bf, 0, none⟩), .pointer (some ⟨be, 0, none⟩)]
      (.panicking ({ v := .iface 63 (.agg #[.int .i64 er]), recovered := false } :: older)) w fun e u' w' =>
      e = .returned (.tuple #[]) ∧ u' = .panicking ({ v := .iface 63 (.agg #[.int .i64 er]), recovered := true } :: older) ∧
      JAt B jb (us.take (min fr us.length)) false w' ∧ I (us.take (min fr us.length)) w' ∧ VarAt be (.int .i64 er) 33 w' ∧ Dyn (fun w k => U jb G w k ∨ k = be) w w' := by
  have hc0 : w.cell? ⟨bd, 0, none⟩ = some (.bool false) := by rw [cell_of_heap hd]; rfl
  have hc1 : w.cell? ⟨bj, 0, none⟩ = some (.pointer (some ⟨jb, 0, none⟩)) := by rw [cell_of_heap hj]; rfl
  have hc2 : w.cell? ⟨bf, 0, none⟩ = some (.int .i64 fr) := by rw [cell_of_heap hf]; rfl
  refine callsD_of_wpS Try.func46 rfl fun c₀ cs hu => ?_
  simp only [Try.ntmps46, List.size_toArray, List.length_cons, List.length_nil, Nat.reduceAdd, Nat.reduceSub, Array.replicate_succ, Array.replicate_zero, List.push_toArray, List.append_toArray, List.nil_append, List.cons_append]
  apply wpS_seq
  apply wpS_seq
  apply wpS_region
  simp [wpOpsS, go_sem, hc0, Exit.thenS]
  refine wpS_cond (t := false) (by simp [Act.eval]) ?_
  simp only [Bool.false_eq_true, if_false]
  refine wpS_of_wp (wp_skip ?_)
  simp only [Exit.thenS]
  apply wpS_seq
  apply wpS_region
  simp [wpOpsS, go_sem, recoverD, hu, Exit.thenS]
  refine wpS_of_wp ?_
  clear hc0
  obtain ⟨⟨a0, c0', hcl⟩, _⟩ := h.cells
  have L : Calls Try.prog 17 #[.pointer (some ⟨jb, 0, none⟩)] { w with drawn := w.drawn + 1 } fun e w' => e = .returned (.int .i64 us.length) ∧ w' = { w with drawn := w.drawn + 1 } := (len_any jb a0 us.length c0' { w with drawn := w.drawn + 1 } hcl (by unfold maxLen; omega)).mono (by rintro e w' ⟨rfl, rfl⟩; exact ⟨rfl, rfl⟩)
  have HJ := Lib.hid h
  have HI := Lib.hid hI
  have HU := Lib.hid hU
  have HL := Lib.hid L
  clear h hI hU L hd hj hf
  apply wp_seq_k
  intro K hK
  refine wp_region_still_tail 5 (by kernel_rfl) (by kernel_rfl) ?_
  simp only [List.take_succ_cons, List.take_zero, List.drop_succ_cons, List.drop_zero]
  still_step
  still_step
  still_step
  still_call HL.out
  still_step
  refine wpStill_nil ?_
  have hmin : (if us.length < fr then (us.length : Int) else fr) = ((min fr us.length : Nat) : Int) := by split <;> omega
  simp only [hmin]
  clear hmin
  change wpList _ _ _ _ _ w.drew
  have J2 : JAt B jb us false w.drew := HJ.out
  obtain ⟨d2, I2⟩ : Dyn (U jb G) w w.drew ∧ I us w.drew :=
    ⟨Dyn.quiet (X := fun w => JAt B jb us false w ∧ I us w) ((jat_framed B jb us false).both (HU.out.fr us)) ⟨HJ.out, HI.out⟩ rfl rfl rfl (Nat.le_refl _) (fun _ _ => rfl), (HU.out.fr us).keep HI.out (fun _ _ => rfl)⟩
  have C := Lib.hid (rewind_any B jb I G HU.out w.drew us J2 I2 hlen (min fr us.length) (by omega))
  have D2 := Lib.hid d2
  clear J2 I2 d2 hc1 hc2
  go_wp2_with (go_at_call 18; refine C.out.mono ?_)
  rintro e w2 ⟨rfl, hJ3, hI3, hK3⟩
  have hbe : w2.heap[be]? = some (.cells #[ev] 33 (0, 0)) := by
    rw [(Dyn.trans D2.out hK3).block be (heap_lt he) hn]; exact he
  have hce : w2.cell? ⟨be, 0, none⟩ = some ev := by rw [cell_of_heap hbe]; rfl
  have hze := frozen_of_heap hbe 0
  have HBE := Lib.hid hbe
  have HJ3 := Lib.hid hJ3
  have HI3 := Lib.hid hI3
  have HK3 := Lib.hid hK3
  have HN := Lib.hid hn
  have HE := Lib.hid he
  clear hbe hJ3 hI3 hK3 C hn he
  have ha := assert_fail
  have hbs : be < w2.heap.size := heap_lt HBE.out
  go_wp2
  refine ⟨rfl, _, rfl, _, results_none rfl _ _ _, rfl, rfl, ?_⟩
  exact att_end HU.out HJ3.out HI3.out HBE.out (Dyn.trans D2.out HK3.out) HN.out (heap_lt HE.out) _ _
set_option maxHeartbeats 1000000 in
theorem att_deferred_pass (B jb : Nat) (I : List Value → World → Prop) (G : World → Nat → Prop) (hU : Undoes B jb I G) (bd bj bf be : Nat) (w : World) (us : List Value) (fr : Nat) (er : Int) (older : List PanicEntry)
    (hd : VarAt bd (.bool false) 4 w) (hj : VarAt bj (.pointer (some ⟨jb, 0, none⟩)) 26 w) (hf : VarAt bf (.int .i64 fr) 3 w)
    (h : JAt B jb us false w) (hI : I us w) (hlen : us.length < 100000) :
    CallsD Try.prog 46 #[.pointer (some ⟨bd, 0, none⟩), .pointer (some ⟨bj, 0, none⟩), .pointer (some ⟨bf, 0, none⟩), .pointer (some ⟨be, 0, none⟩)]
      (.panicking ({ v := .iface 3 (.int .i64 er), recovered := false } :: older)) w fun e u' w' =>
      e = .panicked [{ v := .iface 3 (.int .i64 er), recovered := false }] ∧ u' = .panicking ({ v := .iface 3 (.int .i64 er), recovered := true } :: older) ∧
      JAt B jb (us.take (min fr us.length)) false w' ∧ I (us.take (min fr us.length)) w' ∧ Dyn (U jb G) w w' := by
  have hc0 : w.cell? ⟨bd, 0, none⟩ = some (.bool false) := by rw [cell_of_heap hd]; rfl
  have hc1 : w.cell? ⟨bj, 0, none⟩ = some (.pointer (some ⟨jb, 0, none⟩)) := by rw [cell_of_heap hj]; rfl
  have hc2 : w.cell? ⟨bf, 0, none⟩ = some (.int .i64 fr) := by rw [cell_of_heap hf]; rfl
  refine callsD_of_wpS Try.func46 rfl fun c₀ cs hu => ?_
  simp only [Try.ntmps46, List.size_toArray, List.length_cons, List.length_nil, Nat.reduceAdd, Nat.reduceSub, Array.replicate_succ, Array.replicate_zero, List.push_toArray, List.append_toArray, List.nil_append, List.cons_append]
  apply wpS_seq
  apply wpS_seq
  apply wpS_region
  simp [wpOpsS, go_sem, hc0, Exit.thenS]
  refine wpS_cond (t := false) (by simp [Act.eval]) ?_
  simp only [Bool.false_eq_true, if_false]
  refine wpS_of_wp (wp_skip ?_)
  simp only [Exit.thenS]
  apply wpS_seq
  apply wpS_region
  simp [wpOpsS, go_sem, recoverD, hu, Exit.thenS]
  refine wpS_of_wp ?_
  clear hc0
  obtain ⟨⟨a0, c0', hcl⟩, _⟩ := h.cells
  have L : Calls Try.prog 17 #[.pointer (some ⟨jb, 0, none⟩)] { w with drawn := w.drawn + 1 } fun e w' => e = .returned (.int .i64 us.length) ∧ w' = { w with drawn := w.drawn + 1 } := (len_any jb a0 us.length c0' { w with drawn := w.drawn + 1 } hcl (by unfold maxLen; omega)).mono (by rintro e w' ⟨rfl, rfl⟩; exact ⟨rfl, rfl⟩)
  have HJ := Lib.hid h
  have HI := Lib.hid hI
  have HU := Lib.hid hU
  have HL := Lib.hid L
  clear h hI hU L hd hj hf
  apply wp_seq_k
  intro K hK
  refine wp_region_still_tail 5 (by kernel_rfl) (by kernel_rfl) ?_
  simp only [List.take_succ_cons, List.take_zero, List.drop_succ_cons, List.drop_zero]
  still_step
  still_step
  still_step
  still_call HL.out
  still_step
  refine wpStill_nil ?_
  have hmin : (if us.length < fr then (us.length : Int) else fr) = ((min fr us.length : Nat) : Int) := by split <;> omega
  simp only [hmin]
  clear hmin
  change wpList _ _ _ _ _ w.drew
  have J2 : JAt B jb us false w.drew := HJ.out
  obtain ⟨d2, I2⟩ : Dyn (U jb G) w w.drew ∧ I us w.drew :=
    ⟨Dyn.quiet (X := fun w => JAt B jb us false w ∧ I us w) ((jat_framed B jb us false).both (HU.out.fr us)) ⟨HJ.out, HI.out⟩ rfl rfl rfl (Nat.le_refl _) (fun _ _ => rfl), (HU.out.fr us).keep HI.out (fun _ _ => rfl)⟩
  have C := Lib.hid (rewind_any B jb I G HU.out w.drew us J2 I2 hlen (min fr us.length) (by omega))
  have D2 := Lib.hid d2
  clear J2 I2 d2 hc1 hc2
  go_wp2_with (go_at_call 18; refine C.out.mono ?_)
  rintro e w2 ⟨rfl, hJ3, hI3, hK3⟩
  have HJ3 := Lib.hid hJ3
  have HI3 := Lib.hid hI3
  have HK3 := Lib.hid hK3
  clear hJ3 hI3 hK3 C
  have ha := assert_other
  go_wp2
  refine ⟨rfl, _, rfl, rfl, rfl, ?_⟩
  have hF := (jat_framed B jb (us.take (min fr us.length)) false).both (HU.out.fr (us.take (min fr us.length)))
  obtain ⟨d4, h4⟩ := Dyn.alloc hF (w := w2) ⟨HJ3.out, HI3.out⟩ (.cells #[.int .i64 0] 63)
  exact ⟨h4.1, h4.2, (Dyn.trans D2.out HK3.out).trans d4⟩
end Go.Proofs.Ytekddnnclbnagaa
