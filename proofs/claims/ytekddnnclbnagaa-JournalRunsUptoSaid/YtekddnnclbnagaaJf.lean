/- Attempt. -/
import Derived.Test.YtekddnnclbnagaaJe
namespace Go.Proofs.Ytekddnnclbnagaa
set_option linter.unusedSimpArgs false
set_option linter.unusedVariables false
open Go.RowKit

/-- How an act may end, and what is then known. -/
def ActEnds (B jb : Nat) (G : World → Nat → Prop) (n : Nat) (OK : World → Prop) (FP : Int → World → Prop) (PP : Int → List PanicEntry → World → Prop) (e : Ending) (w : World) : Prop :=
  (∃ us X, Framed X G ∧ JAt B jb us false w ∧ X w ∧ e = .returned (.tuple #[]) ∧ ∀ w', JAt B jb us false w' → X w' → OK w') ∨
  (∃ us I, Undoes B jb I G ∧ us.length < 100000 ∧ JAt B jb us false w ∧ I us w ∧
    ((∃ er, e = .panicked [{ v := .iface 63 (.agg #[.int .i64 er]), recovered := false }] ∧ ∀ w', JAt B jb (us.take (min n us.length)) false w' → I (us.take (min n us.length)) w' → FP er w') ∨
     (∃ v older, e = .panicked ({ v := .iface 3 (.int .i64 v), recovered := false } :: older) ∧ ∀ w', JAt B jb (us.take (min n us.length)) false w' → I (us.take (min n us.length)) w' → PP v older w')))

/-- How Attempt then ends. -/
def AttEnds (OK : World → Prop) (FP : Int → World → Prop) (PP : Int → List PanicEntry → World → Prop) (e : Ending) (w : World) : Prop :=
  (e = .returned (.int .i64 0) ∧ OK w) ∨ (∃ er, e = .returned (.int .i64 er) ∧ FP er w) ∨
  (∃ v older, e = .panicked ({ v := .iface 3 (.int .i64 v), recovered := false } :: { v := .iface 3 (.int .i64 v), recovered := true } :: older) ∧ PP v older w)

/-- Blocks that the call laid itself, and that the footprint does not know, may turn. -/
theorem dyn_local {F : World → Nat → Prop} {X : World → Prop} (hF : Framed X F) {w w2 w' : World} (hd : Dyn F w w2) (hX : X w2) (os : w'.os = w2.os) (tape : w'.tape = w2.tape) (output : w'.output = w2.output) (size : w2.heap.size ≤ w'.heap.size)
    (hb : ∀ k, k < w2.heap.size → k < w.heap.size ∨ F w2 k → w'.heap[k]? = w2.heap[k]?) : Dyn F w w' ∧ X w' := by
  have h := hF.fr w2 w' hX (fun k hk => hb k (hF.inn _ _ hX hk) (.inr hk))
  refine ⟨⟨os.trans hd.os, tape.trans hd.tape, output.trans hd.output, Nat.le_trans hd.size size, fun k hk hn => ?_, fun k hk hf => hd.foot k hk (h.2 k hf)⟩, h.1⟩
  rw [hb k (Nat.lt_of_lt_of_le hk hd.size) (.inl hk)]
  exact hd.block k hk hn

theorem alloc_size (w : World) (o : Obj) : (w.alloc o).heap.size = w.heap.size + 1 := by simp

/-- Attempt's own four variables, behind the act. -/
theorem att_locals {jb : Nat} {G : World → Nat → Prop} {w w2 : World} {X : World → Prop} (hF : Framed X (U jb G)) (hX : X w) (o0 o1 o2 o3 : Obj)
    (hd : Dyn (U jb G) ((((w.alloc o0).alloc o1).alloc o2).alloc o3) w2) :
    w2.heap[w.heap.size]? = some o0 ∧ w2.heap[w.heap.size + 1]? = some o1 ∧ w2.heap[w.heap.size + 1 + 1]? = some o2 ∧ w2.heap[w.heap.size + 1 + 1 + 1]? = some o3 ∧
    (∀ k, w.heap.size ≤ k → k < w.heap.size + 4 → ¬ U jb G w2 k) := by
  have hs : (((( w.alloc o0).alloc o1).alloc o2).alloc o3).heap.size = w.heap.size + 4 := by simp
  have hold : ∀ k, k < w.heap.size → ((((w.alloc o0).alloc o1).alloc o2).alloc o3).heap[k]? = w.heap[k]? := by
    intro k hk
    rw [Below.heap_alloc _ _ _ (by simp; omega), Below.heap_alloc _ _ _ (by simp; omega), Below.heap_alloc _ _ _ (by simp; omega), Below.heap_alloc _ _ _ hk]
  have hn : ∀ k, w.heap.size ≤ k → ¬ U jb G ((((w.alloc o0).alloc o1).alloc o2).alloc o3) k := by
    intro k hk hu
    have := hF.inn w k hX ((hF.fr w _ hX (fun k hk => hold k (hF.inn w k hX hk))).2 k hu)
    omega
  have e0 : (w.alloc o0).heap[w.heap.size]? = some o0 := heap_alloc_new w o0
  have e1 : ((w.alloc o0).alloc o1).heap[w.heap.size + 1]? = some o1 := by rw [← alloc_size w o0]; exact heap_alloc_new _ _
  have e2 : (((w.alloc o0).alloc o1).alloc o2).heap[w.heap.size + 1 + 1]? = some o2 := by rw [← alloc_size w o0, ← alloc_size (w.alloc o0) o1]; exact heap_alloc_new _ _
  have e3 : ((((w.alloc o0).alloc o1).alloc o2).alloc o3).heap[w.heap.size + 1 + 1 + 1]? = some o3 := by rw [← alloc_size w o0, ← alloc_size (w.alloc o0) o1, ← alloc_size ((w.alloc o0).alloc o1) o2]; exact heap_alloc_new _ _
  refine ⟨?_, ?_, ?_, ?_, fun k h1 h2 h3 => hn k h1 (hd.foot k (by rw [hs]; omega) h3)⟩
  · rw [hd.block _ (by rw [hs]; omega) (hn _ (by omega))]; exact alloc_heap (alloc_heap (alloc_heap e0))
  · rw [hd.block _ (by rw [hs]; omega) (hn _ (by omega))]; exact alloc_heap (alloc_heap e1)
  · rw [hd.block _ (by rw [hs]; omega) (hn _ (by omega))]; exact alloc_heap e2
  · rw [hd.block _ (by rw [hs]; omega) (hn _ (by omega))]; exact e3

set_option maxHeartbeats 1000000 in
theorem attempt_any (B jb : Nat) (X : World → Prop) (G : World → Nat → Prop) (hFX : Framed X G) (w : World) (us : List Value) (h : JAt B jb us false w) (hI : X w) (hlen : us.length < 100000)
    (K : FuncId) (cap : Array Value) (hK : ∀ w, (callFunc K cap).run Try.prog w = .ok (.enter K cap) w) (OK : World → Prop) (FP : Int → World → Prop) (PP : Int → List PanicEntry → World → Prop)
    (hact : ∀ w1, JAt B jb us false w1 → X w1 → Dyn (U jb G) w w1 → Calls Try.prog K cap w1 fun e w2 => Dyn (U jb G) w1 w2 ∧ ActEnds B jb G us.length OK FP PP e w2) :
    Calls Try.prog 13 #[.pointer (some ⟨jb, 0, none⟩), .func (.func K) #[] cap] w fun e w' => Dyn (U jb G) w w' ∧ AttEnds OK FP PP e w' := by
  have hF := (jat_framed B jb us false).both hFX
  have hX : JAt B jb us false w ∧ X w := ⟨h, hI⟩
  obtain ⟨d1, x1⟩ := Dyn.alloc hF hX (.cells #[.pointer (some ⟨jb, 0, none⟩)] 26)
  obtain ⟨d2, x2⟩ := Dyn.alloc hF x1 (.cells #[.int .i64 0] 33)
  obtain ⟨⟨a0, c0, hcl⟩, _⟩ := x2.1.cells
  have L := Lib.hid (len_any jb a0 us.length c0 _ hcl (by unfold maxLen; omega))
  obtain ⟨d3, x3⟩ := Dyn.alloc hF x2 (.cells #[.int .i64 us.length] 3)
  obtain ⟨d4, x4⟩ := Dyn.alloc hF x3 (.cells #[.bool false] 4)
  have D := Lib.hid (((d1.trans d2).trans d3).trans d4)
  have X4 := Lib.hid x4
  have HF := Lib.hid hF
  have HX := Lib.hid hX
  have HA := Lib.hid hact
  clear d1 d2 d3 d4 x1 x2 x3 x4 hF hX h hI hcl hact hFX
  have hmf := makeFunc_run
  have fq := feql (.func K) #[] cap
  go_enter_defers Try.func13, Try.ntmps13
  go_wp2_with (go_at_call 17; refine L.out.mono ?_; rintro e w' ⟨rfl, rfl⟩)
  refine (HA.out _ X4.out.1 X4.out.2 D.out).mono ?_
  rintro e w2 ⟨hd, hends⟩
  obtain ⟨b0, b1, b2, b3, hnu⟩ := att_locals HF.out HX.out _ _ _ _ hd
  have DD := Lib.hid (Dyn.trans D.out hd)
  have H0 := Lib.hid b0
  have H1 := Lib.hid b1
  have H2 := Lib.hid b2
  have H3 := Lib.hid b3
  have HN := Lib.hid hnu
  have hsz := DD.out.size
  clear b0 b1 b2 b3 hd hnu L HA X4 D
  rcases hends with ⟨us2, X2, hFX2, hJ2, hI2, rfl, hok⟩ | ⟨us2, I2, hU2, hl2, hJ2, hI2, ⟨er, rfl, hok⟩ | ⟨er, older, rfl, hok⟩⟩
  · have hF2 := Lib.hid ((jat_framed B jb us2 false).both hFX2)
    have HJ2 := Lib.hid hJ2
    have HI2 := Lib.hid hI2
    clear hJ2 hI2 hFX2
    have c3 : w2.cell? ⟨w.heap.size + 1 + 1 + 1, 0, none⟩ = some (.bool false) := by rw [cell_of_heap H3.out]; rfl
    have z3 := frozen_of_heap H3.out 0
    have c1 : w2.cell? ⟨w.heap.size + 1, 0, none⟩ = some (.int .i64 0) := by rw [cell_of_heap H1.out]; rfl
    have z1 := frozen_of_heap H1.out 0
    have HOK := Lib.hid hok
    clear hok
    go_wp2
    refine leaves_cons (f := 46) (args := #[.pointer (some ⟨w.heap.size + 1 + 1 + 1, 0, none⟩), .pointer (some ⟨w.heap.size, 0, none⟩), .pointer (some ⟨w.heap.size + 1 + 1, 0, none⟩), .pointer (some ⟨w.heap.size + 1, 0, none⟩)]) (by simp) (by simp [go_sem]) ?_
    have g3 : ((w2.setCell ⟨w.heap.size + 1 + 1 + 1, 0, none⟩ (.bool true)).setCell ⟨w.heap.size + 1, 0, none⟩ (.int .i64 0)).heap[w.heap.size + 1 + 1 + 1]? = some (.cells #[.bool true] 4 (0, 0)) := by
      refine setCell_heap_ne ?_ (by dsimp only; omega) _
      rw [setCell_heap H3.out]; rfl
    have g1 : ((w2.setCell ⟨w.heap.size + 1 + 1 + 1, 0, none⟩ (.bool true)).setCell ⟨w.heap.size + 1, 0, none⟩ (.int .i64 0)).heap[w.heap.size + 1]? = some (.cells #[.int .i64 0] 33 (0, 0)) := by
      rw [setCell_heap (setCell_heap_ne H1.out (by dsimp only; omega) _)]; rfl
    refine (att_deferred_done _ _ _ _ _ _ g3).mono ?_
    rintro e u' w'' ⟨rfl, rfl, rfl⟩
    obtain ⟨dd, x⟩ := dyn_local (w' := (w2.setCell ⟨w.heap.size + 1 + 1 + 1, 0, none⟩ (.bool true)).setCell ⟨w.heap.size + 1, 0, none⟩ (.int .i64 0)) hF2.out DD.out ⟨HJ2.out, HI2.out⟩ rfl rfl rfl (by simp [World.setCell]) (by
      intro k hk hor
      rw [Below.heap_setCell _ _ _ _ ?_, Below.heap_setCell _ _ _ _ ?_]
      · rcases hor with h | h
        · show k ≠ w.heap.size + 1 + 1 + 1; omega
        · rintro rfl; exact HN.out _ (by dsimp only; omega) (by dsimp only; omega) h
      · rcases hor with h | h
        · show k ≠ w.heap.size + 1; omega
        · rintro rfl; exact HN.out _ (by dsimp only; omega) (by dsimp only; omega) h)
    have hr := cell_of_heap g1 0
    have fin : Dyn (U jb G) w ((w2.setCell ⟨w.heap.size + 1 + 1 + 1, 0, none⟩ (.bool true)).setCell ⟨w.heap.size + 1, 0, none⟩ (.int .i64 0)) ∧ AttEnds OK FP PP (.returned (.int .i64 0)) ((w2.setCell ⟨w.heap.size + 1 + 1 + 1, 0, none⟩ (.bool true)).setCell ⟨w.heap.size + 1, 0, none⟩ (.int .i64 0)) :=
      ⟨dd, .inl ⟨rfl, HOK.out _ x.1 x.2⟩⟩
    clear dd x
    refine ⟨_, ?_, fin⟩
    simp [results, Try.results13, go_sem, hr]
  · have HU2 := Lib.hid hU2
    have HJ2 := Lib.hid hJ2
    have HI2 := Lib.hid hI2
    have HOK := Lib.hid hok
    clear hU2 hJ2 hI2 hok
    go_wp2
    refine leaves_cons (f := 46) (args := #[.pointer (some ⟨w.heap.size + 1 + 1 + 1, 0, none⟩), .pointer (some ⟨w.heap.size, 0, none⟩), .pointer (some ⟨w.heap.size + 1 + 1, 0, none⟩), .pointer (some ⟨w.heap.size + 1, 0, none⟩)]) (by simp) (by simp [go_sem]) ?_
    refine (att_deferred_fail B jb I2 G HU2.out _ _ _ _ w2 us2 us.length er (.int .i64 0) [] H3.out H0.out H2.out H1.out HJ2.out HI2.out hl2 (HN.out _ (by omega) (by omega))).mono ?_
    rintro e u' w'' ⟨rfl, rfl, j5, i5, v5, d5⟩
    have hr := cell_of_heap v5 0
    have dd : Dyn (U jb G) w w'' := by
      refine ⟨d5.os.trans DD.out.os, d5.tape.trans DD.out.tape, d5.output.trans DD.out.output, Nat.le_trans DD.out.size d5.size, fun k hk hn => ?_, fun k hk hf => ?_⟩
      · rw [d5.block k (Nat.lt_of_lt_of_le hk DD.out.size) ?_]
        · exact DD.out.block k hk hn
        · rintro (h | h)
          · exact hn (DD.out.foot k hk h)
          · omega
      · rcases d5.foot k (Nat.lt_of_lt_of_le hk DD.out.size) (.inl hf) with h | h
        · exact DD.out.foot k hk h
        · omega
    have fin : Dyn (U jb G) w w'' ∧ AttEnds OK FP PP (.returned (.int .i64 er)) w'' := ⟨dd, .inr (.inl ⟨er, rfl, HOK.out _ j5 i5⟩)⟩
    simpa [Leaves, settle, results, Try.results13, go_sem, hr] using fin
  · have HU2 := Lib.hid hU2
    have HJ2 := Lib.hid hJ2
    have HI2 := Lib.hid hI2
    have HOK := Lib.hid hok
    clear hU2 hJ2 hI2 hok
    go_wp2
    refine leaves_cons (f := 46) (args := #[.pointer (some ⟨w.heap.size + 1 + 1 + 1, 0, none⟩), .pointer (some ⟨w.heap.size, 0, none⟩), .pointer (some ⟨w.heap.size + 1 + 1, 0, none⟩), .pointer (some ⟨w.heap.size + 1, 0, none⟩)]) (by simp) (by simp [go_sem]) ?_
    refine (att_deferred_pass B jb I2 G HU2.out _ _ _ _ w2 us2 us.length er older H3.out H0.out H2.out HJ2.out HI2.out hl2).mono ?_
    rintro e u' w'' ⟨rfl, rfl, j5, i5, d5⟩
    have fin : Dyn (U jb G) w w'' ∧ AttEnds OK FP PP (.panicked ({ v := .iface 3 (.int .i64 er), recovered := false } :: { v := .iface 3 (.int .i64 er), recovered := true } :: older)) w'' :=
      ⟨Dyn.trans DD.out d5, .inr (.inr ⟨er, older, rfl, HOK.out _ j5 i5⟩)⟩
    simpa [Leaves, raised] using fin

theorem fail_any (er : Int) (w : World) :
    Calls Try.prog 31 #[.int .i64 er] w fun e w' => e = .panicked [{ v := .iface 63 (.agg #[.int .i64 (if er = 0 then 1 else er)]), recovered := false }] ∧ w = w' := by
  by_cases h : er = 0
  · subst h
    go_enter Try.func31, Try.ntmps31
    go_wp2
    exact ⟨rfl, rfl, rfl⟩
  · rw [if_neg h]
    have h' : (er == 0) = false := by simpa using h
    go_enter Try.func31, Try.ntmps31
    go_wp2
    exact ⟨rfl, rfl, rfl⟩

end Go.Proofs.Ytekddnnclbnagaa
