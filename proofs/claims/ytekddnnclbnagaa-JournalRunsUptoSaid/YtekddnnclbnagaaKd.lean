/- JournalAtomic: the register, its undo functions, 'add'. -/
import Derived.Test.YtekddnnclbnagaaKb
import Derived.Test.YtekddnnclbnagaaKc
import Derived.Test.YtekddnnclbnagaaJk
namespace Go.Proofs.Ytekddnnclbnagaa
set_option linter.unusedSimpArgs false
set_option linter.unusedVariables false
open Go.RowKit

/-- A recorded change: the blocks of its three variables, the place, the number. -/
structure PR where
  (x i n : Nat) (idx : Nat) (val : Int)

def clo (p : PR) : Value := .func (.func 56) #[] #[.pointer (some ⟨p.x, 0, none⟩), .pointer (some ⟨p.i, 0, none⟩), .pointer (some ⟨p.n, 0, none⟩)]
def stepR (g : Nat → Int) (p : PR) : Nat → Int := fun j => if j = p.idx then wrap64 (g j + p.val) else g j
def regOf (ps : List PR) : Nat → Int := ps.foldl stepR (fun j => (j : Int) + 1)

theorem regOf_snoc (ps : List PR) (p : PR) : regOf (ps ++ [p]) = stepR (regOf ps) p := by simp [regOf, List.foldl_append]

theorem wrap64_bd (x : Int) : -9223372036854775808 ≤ wrap64 x ∧ wrap64 x ≤ 9223372036854775807 := by
  unfold wrap64; omega

theorem foldR_bd (j : Nat) : ∀ (ps : List PR) (g : Nat → Int), -9223372036854775808 ≤ g j ∧ g j ≤ 9223372036854775807 → -9223372036854775808 ≤ ps.foldl stepR g j ∧ ps.foldl stepR g j ≤ 9223372036854775807 := by
  intro ps
  induction ps with
  | nil => intro g h; exact h
  | cons p ps ih =>
    intro g h
    refine ih _ ?_
    unfold stepR
    split
    · exact wrap64_bd _
    · exact h

theorem regOf_bd (ps : List PR) (j : Nat) (hj : j < 4) : -9223372036854775808 ≤ regOf ps j ∧ regOf ps j ≤ 9223372036854775807 :=
  foldR_bd j ps _ (by omega)

theorem wrap64_back (a n : Int) (h1 : -9223372036854775808 ≤ a) (h2 : a ≤ 9223372036854775807) : wrap64 (wrap64 (a + n) - n) = a := by
  unfold wrap64; omega

/-- The register: the struct in xb, its row in lb, the changes' variables. -/
structure RV (xb lb jb : Nat) (ps all : List PR) (w : World) : Prop where
  var : w.heap[xb]? = some (.cells #[.pointer (some ⟨jb, 0, none⟩), .slice (some ⟨lb, 0, none⟩) 4 4] 32 (0, 0))
  row : w.heap[lb]? = some (.cells (row 4 (regOf ps)) 3 (0, 0))
  box : ∀ p ∈ all, VarAt p.x (.pointer (some ⟨xb, 0, none⟩)) 25 w ∧ VarAt p.i (.int .i64 p.idx) 3 w ∧ VarAt p.n (.int .i64 p.val) 3 w ∧ p.idx < 4

def RG (xb lb : Nat) (all : List PR) (_ : World) (k : Nat) : Prop := k = xb ∨ k = lb ∨ ∃ p ∈ all, k = p.x ∨ k = p.i ∨ k = p.n

theorem rv_framed (xb lb jb : Nat) (ps all : List PR) : Framed (RV xb lb jb ps all) (RG xb lb all) := by
  refine ⟨fun w k h hk => ?_, fun w w' h hk => ⟨⟨(hk xb (.inl rfl)).trans h.var, (hk lb (.inr (.inl rfl))).trans h.row, fun p hp => ?_⟩, fun _ h => h⟩⟩
  · rcases hk with rfl | rfl | ⟨p, hp, rfl | rfl | rfl⟩
    · exact heap_lt h.var
    · exact heap_lt h.row
    · exact heap_lt (h.box p hp).1
    · exact heap_lt (h.box p hp).2.1
    · exact heap_lt (h.box p hp).2.2.1
  · have b := h.box p hp
    exact ⟨(hk p.x (.inr (.inr ⟨p, hp, .inl rfl⟩))).trans b.1, (hk p.i (.inr (.inr ⟨p, hp, .inr (.inl rfl)⟩))).trans b.2.1, (hk p.n (.inr (.inr ⟨p, hp, .inr (.inr rfl)⟩))).trans b.2.2.1, b.2.2.2⟩

theorem rv_apart (xb lb jb : Nat) (ps all : List PR) : Apart (RV xb lb jb ps all) (RG xb lb all) := by
  rintro w k h (rfl | rfl | ⟨p, hp, rfl | rfl | rfl⟩)
  · exact ⟨_, _, _, h.var, by decide, by decide⟩
  · exact ⟨_, _, _, h.row, by decide, by decide⟩
  · exact ⟨_, _, _, (h.box p hp).1, by decide, by decide⟩
  · exact ⟨_, _, _, (h.box p hp).2.1, by decide, by decide⟩
  · exact ⟨_, _, _, (h.box p hp).2.2.1, by decide, by decide⟩

theorem row_size (k : Nat) (g : Nat → Int) : (row k g).size = k := by simp [row]

/-- A store into the register's row, beside the journal. -/
theorem rv_store {xb lb jb : Nat} {ps ps' all : List PR} {w : World} (h : RV xb lb jb ps all w) (i : Nat) (y : Int) (hy : row 4 (regOf ps') = row 4 (fun j => if j = i then y else regOf ps j)) : RV xb lb jb ps' all (w.setCell ⟨lb, i, none⟩ (.int .i64 y)) := by
  have hv : ∀ b v e, VarAt b v e w → b ≠ lb := by
    rintro b v e hb rfl
    have := hb.symm.trans h.row
    simp only [Option.some.injEq, Obj.cells.injEq] at this
    have hs := congrArg Array.size this.1
    rw [row_size] at hs
    simp at hs
  have hx : xb ≠ lb := by
    rintro rfl
    have := h.var.symm.trans h.row
    simp at this
  refine ⟨setCell_heap_ne h.var hx _, by rw [setCell_heap h.row, row_set, hy], fun p hp => ?_⟩
  have b := h.box p hp
  exact ⟨setCell_heap_ne b.1 (hv _ _ _ b.1) _, setCell_heap_ne b.2.1 (hv _ _ _ b.2.1) _, setCell_heap_ne b.2.2.1 (hv _ _ _ b.2.2.1) _, b.2.2.2⟩

theorem rv_step {B jb xb lb : Nat} {us : List Value} {bz : Bool} {ps all : List PR} {w : World} (hJ : JAt B jb us bz w) (h : RV xb lb jb ps all w) (i : Nat) (y : Int) :
    JAt B jb us bz (w.setCell ⟨lb, i, none⟩ (.int .i64 y)) ∧ Dyn (U jb (RG xb lb all)) w (w.setCell ⟨lb, i, none⟩ (.int .i64 y)) := by
  have hn : ¬ JF jb w lb := jf_type hJ h.row (by decide) (by decide)
  have hs : ∀ q, JF jb w q → (w.setCell ⟨lb, i, none⟩ (.int .i64 y)).heap[q]? = w.heap[q]? := fun q hq => Below.heap_setCell _ _ _ _ (by rintro rfl; exact hn hq)
  have hf := (jat_framed B jb us bz).fr w _ hJ hs
  exact ⟨hf.1, Dyn.store (.inr (.inr (.inl rfl))) (fun q hq => hq.imp (hf.2 q) id)⟩

set_option maxHeartbeats 1000000 in
theorem undo56 (xbx ib nb xb lb jb i : Nat) (n v : Int) (w : World) (h1 : w.cell? ⟨xbx, 0, none⟩ = some (.pointer (some ⟨xb, 0, none⟩))) (h2 : w.cell? ⟨ib, 0, none⟩ = some (.int .i64 i)) (h3 : w.cell? ⟨nb, 0, none⟩ = some (.int .i64 n))
    (h4 : w.cell? ⟨xb, 1, none⟩ = some (.slice (some ⟨lb, 0, none⟩) 4 4)) (hi : i < 4) (h5 : w.cell? ⟨lb, i, none⟩ = some (.int .i64 v)) (h6 : w.frozen? ⟨lb, i, none⟩ = false) :
    Calls Try.prog 56 #[.pointer (some ⟨xbx, 0, none⟩), .pointer (some ⟨ib, 0, none⟩), .pointer (some ⟨nb, 0, none⟩)] w fun e w' => e = .returned (.tuple #[]) ∧ (w.setCell ⟨lb, i, none⟩ (.int .i64 (wrap64 (v - n)))).drew = w' := by
  have hi0 : (0 : Int) ≤ i := by omega
  have hi4 : (i : Int) < 4 := by omega
  go_enter Try.func56, Try.ntmps56
  go_region
  go_wp2
  go_end0
  exact ⟨rfl, rfl⟩

theorem callFunc56 (cap : Array Value) (w : World) : (callFunc 56 cap).run Try.prog w = .ok (.enter 56 cap) w := by kernel_rfl

/-- What is left to be undone is a head of all changes. -/
def RI (xb lb jb : Nat) (all : List PR) (us : List Value) (w : World) : Prop :=
  us.length ≤ all.length ∧ us = (all.take us.length).map clo ∧ RV xb lb jb (all.take us.length) all w

theorem ri_undoes (B xb lb jb : Nat) (all : List PR) : Undoes B jb (RI xb lb jb all) (RG xb lb all) := by
  refine ⟨fun us => ?_, fun us => ?_, fun us u w1 hJ hI => ?_⟩
  · exact ⟨fun w k h hk => (rv_framed _ _ _ _ _).inn w k h.2.2 hk, fun w w' h hk => let r := (rv_framed _ _ _ _ _).fr w w' h.2.2 hk; ⟨⟨h.1, h.2.1, r.1⟩, r.2⟩⟩
  · exact fun w k h hk => rv_apart _ _ _ _ _ w k h.2.2 hk
  · obtain ⟨h1, h2, h3⟩ := hI
    simp only [List.length_append, List.length_cons, List.length_nil, Nat.zero_add] at h1 h2 h3
    have hlt : us.length < all.length := by omega
    have hp : all[us.length]? = some all[us.length] := List.getElem?_eq_getElem hlt
    have htake : all.take (us.length + 1) = all.take us.length ++ [all[us.length]] := List.take_succ_eq_append_getElem hlt
    have hmem : all[us.length] ∈ all := List.getElem_mem hlt
    rw [htake] at h2 h3
    rw [List.map_append] at h2
    obtain ⟨hus, hu⟩ := List.append_inj' h2 (by simp)
    simp only [List.map_cons, List.map_nil, List.cons.injEq, and_true] at hu
    have b := h3.box _ hmem
    refine ⟨56, _, hu, callFunc56 _, ?_⟩
    refine (undo56 _ _ _ xb lb jb all[us.length].idx all[us.length].val _ w1 (by rw [cell_of_heap b.1]; rfl) (by rw [cell_of_heap b.2.1]; rfl) (by rw [cell_of_heap b.2.2.1]; rfl) (by rw [cell_of_heap h3.var]; rfl) b.2.2.2
      (by rw [cell_of_heap h3.row, row_get b.2.2.2]) (frozen_of_heap h3.row _)).mono ?_
    rintro e w' ⟨rfl, rfl⟩
    obtain ⟨p1, p2⟩ := rv_step hJ h3 all[us.length].idx (wrap64 (regOf (all.take us.length ++ [all[us.length]]) all[us.length].idx - all[us.length].val))
    have hb := regOf_bd (all.take us.length) all[us.length].idx b.2.2.2
    have p3 := rv_store (ps' := all.take us.length) h3 all[us.length].idx (wrap64 (regOf (all.take us.length ++ [all[us.length]]) all[us.length].idx - all[us.length].val)) (by
      apply row_congr
      intro j hj
      rw [regOf_snoc]
      by_cases e : j = all[us.length].idx
      · subst e
        rw [if_pos rfl]
        simp only [stepR, if_true]
        exact (wrap64_back _ _ hb.1 hb.2).symm
      · rw [if_neg e]; simp only [stepR, if_neg e])
    exact ⟨rfl, (jat_framed _ _ _ _).keep p1 (fun _ _ => rfl), ⟨by omega, hus, (rv_framed _ _ _ _ _).keep p3 (fun _ _ => rfl)⟩,
      ⟨p2.os, p2.tape, p2.output, p2.size, p2.block, p2.foot⟩⟩

theorem nblock (w : World) (o : Obj) (n : Nat) (h : n = w.heap.size) : (w.alloc o).heap[n]? = some o := by subst h; exact heap_alloc_new w o

/-- 'add' has stored, ahead of its Record. -/
theorem add_mid {B xb lb jb : Nat} {us : List Value} {ps : List PR} {w W : World} (hJ : JAt B jb us false w) (hV : RV xb lb jb ps ps w) (i : Nat) (n : Int) (hi : i < 4)
    (hW : W = (((((w.setCell ⟨lb, i, none⟩ (.int .i64 (wrap64 (regOf ps i + n)))).alloc (.cells #[.pointer (some ⟨xb, 0, none⟩)] 25)).alloc (.cells #[.int .i64 i] 3)).alloc (.cells #[.int .i64 n] 3)).drew)) :
    JAt B jb us false W ∧ RV xb lb jb (ps ++ [⟨w.heap.size, w.heap.size + 1, w.heap.size + 1 + 1, i, n⟩]) (ps ++ [⟨w.heap.size, w.heap.size + 1, w.heap.size + 1 + 1, i, n⟩]) W ∧
    DynH (U jb (RG xb lb ps)) (U jb (RG xb lb (ps ++ [⟨w.heap.size, w.heap.size + 1, w.heap.size + 1 + 1, i, n⟩]))) w W := by
  subst hW
  obtain ⟨p1, p2⟩ := rv_step hJ hV i (wrap64 (regOf ps i + n))
  have p3 := rv_store (ps' := ps ++ [⟨w.heap.size, w.heap.size + 1, w.heap.size + 1 + 1, i, n⟩]) hV i (wrap64 (regOf ps i + n)) (by
    apply row_congr
    intro j hj
    rw [regOf_snoc]
    by_cases e : j = i
    · subst e; rw [if_pos rfl]; simp [stepR]
    · rw [if_neg e]; simp [stepR, e])
  have hs : (w.setCell ⟨lb, i, none⟩ (.int .i64 (wrap64 (regOf ps i + n)))).heap.size = w.heap.size := setCell_size _ _ _
  have hold : ∀ k, k < w.heap.size → (((((w.setCell ⟨lb, i, none⟩ (.int .i64 (wrap64 (regOf ps i + n)))).alloc (.cells #[.pointer (some ⟨xb, 0, none⟩)] 25)).alloc (.cells #[.int .i64 i] 3)).alloc (.cells #[.int .i64 n] 3)).drew).heap[k]? = (w.setCell ⟨lb, i, none⟩ (.int .i64 (wrap64 (regOf ps i + n)))).heap[k]? := by
    intro k hk
    show (World.alloc _ _).heap[k]? = _
    rw [Below.heap_alloc _ _ _ (by simp [hs]; omega), Below.heap_alloc _ _ _ (by simp [hs]; omega), Below.heap_alloc _ _ _ (by rw [hs]; exact hk)]
  have e0 : (((((w.setCell ⟨lb, i, none⟩ (.int .i64 (wrap64 (regOf ps i + n)))).alloc (.cells #[.pointer (some ⟨xb, 0, none⟩)] 25)).alloc (.cells #[.int .i64 i] 3)).alloc (.cells #[.int .i64 n] 3)).drew).heap[w.heap.size]? = some (.cells #[.pointer (some ⟨xb, 0, none⟩)] 25) :=
    alloc_heap (alloc_heap (nblock _ _ _ hs.symm))
  have e1 : (((((w.setCell ⟨lb, i, none⟩ (.int .i64 (wrap64 (regOf ps i + n)))).alloc (.cells #[.pointer (some ⟨xb, 0, none⟩)] 25)).alloc (.cells #[.int .i64 i] 3)).alloc (.cells #[.int .i64 n] 3)).drew).heap[w.heap.size + 1]? = some (.cells #[.int .i64 i] 3) :=
    alloc_heap (nblock _ _ _ (by simp [hs]))
  have e2 : (((((w.setCell ⟨lb, i, none⟩ (.int .i64 (wrap64 (regOf ps i + n)))).alloc (.cells #[.pointer (some ⟨xb, 0, none⟩)] 25)).alloc (.cells #[.int .i64 i] 3)).alloc (.cells #[.int .i64 n] 3)).drew).heap[w.heap.size + 1 + 1]? = some (.cells #[.int .i64 n] 3) :=
    nblock _ _ _ (by simp [hs])
  have hl : ∀ {k o}, (w.setCell ⟨lb, i, none⟩ (.int .i64 (wrap64 (regOf ps i + n)))).heap[k]? = some o → k < w.heap.size := fun h => by rw [← hs]; exact heap_lt h
  refine ⟨(jat_framed _ _ _ _).keep p1 (fun k hk => hold k (by rw [← hs]; exact hk)), ⟨(hold _ (hl p3.var)).trans p3.var, (hold _ (hl p3.row)).trans p3.row, fun p hp => ?_⟩, ?_⟩
  · rcases List.mem_append.1 hp with hp | hp
    · have b := p3.box p hp
      exact ⟨(hold _ (hl b.1)).trans b.1, (hold _ (hl b.2.1)).trans b.2.1, (hold _ (hl b.2.2.1)).trans b.2.2.1, b.2.2.2⟩
    · simp only [List.mem_singleton] at hp
      subst hp
      exact ⟨e0, e1, e2, hi⟩
  · refine ⟨rfl, rfl, rfl, ?_, fun k hk hn => ?_, fun k hk hf => ?_⟩
    · show _ ≤ (World.alloc _ _).heap.size
      simp [hs]; omega
    · rw [hold k hk]; exact p2.block k hk hn
    · rcases hf with hf | hf
      · exact p2.foot k hk (.inl (((jat_framed B jb us false).fr _ _ p1 (fun q hq => hold q (by rw [← hs]; exact (jat_framed _ _ _ _).inn _ q p1 hq))).2 k hf))
      · rcases hf with hf | hf | ⟨p, hp, hf⟩
        · exact .inr (.inl hf)
        · exact .inr (.inr (.inl hf))
        · rcases List.mem_append.1 hp with hp | hp
          · exact .inr (.inr (.inr ⟨p, hp, hf⟩))
          · simp only [List.mem_singleton] at hp
            subst hp
            simp only at hf
            omega

set_option maxHeartbeats 2000000 in
theorem add47 (B xb lb jb i : Nat) (n : Int) (us : List Value) (ps : List PR) (w : World) (hJ : JAt B jb us false w) (hV : RV xb lb jb ps ps w) (hi : i < 4) (hlen : us.length < 1000) :
    Calls Try.prog 47 #[.pointer (some ⟨xb, 0, none⟩), .int .i64 i, .int .i64 n] w fun e w' => e = .returned (.tuple #[]) ∧
      JAt B jb (us ++ [clo ⟨w.heap.size, w.heap.size + 1, w.heap.size + 1 + 1, i, n⟩]) false w' ∧
      RV xb lb jb (ps ++ [⟨w.heap.size, w.heap.size + 1, w.heap.size + 1 + 1, i, n⟩]) (ps ++ [⟨w.heap.size, w.heap.size + 1, w.heap.size + 1 + 1, i, n⟩]) w' ∧
      DynH (U jb (RG xb lb ps)) (U jb (RG xb lb (ps ++ [⟨w.heap.size, w.heap.size + 1, w.heap.size + 1 + 1, i, n⟩]))) w w' := by
  obtain ⟨m1, m2, m3⟩ := add_mid hJ hV i n hi rfl
  have c1 : w.cell? ⟨xb, 1, none⟩ = some (.slice (some ⟨lb, 0, none⟩) 4 4) := by rw [cell_of_heap hV.var]; rfl
  have c2 : w.cell? ⟨lb, i, none⟩ = some (.int .i64 (regOf ps i)) := by rw [cell_of_heap hV.row, row_get hi]
  have z2 := frozen_of_heap hV.row i
  have hl1 := heap_lt hV.var
  have hl2 := heap_lt hV.row
  have hl3 : xb < w.heap.size + 1 := by omega
  have hl4 : xb < w.heap.size + 1 + 1 := by omega
  have hl5 : lb < w.heap.size + 1 := by omega
  have hl6 : lb < w.heap.size + 1 + 1 := by omega
  have hi0 : (0 : Int) ≤ i := by omega
  have hi4 : (i : Int) < 4 := by omega
  have c3 : (((((w.setCell ⟨lb, i, none⟩ (.int .i64 (wrap64 (regOf ps i + n)))).alloc (.cells #[.pointer (some ⟨xb, 0, none⟩)] 25)).alloc (.cells #[.int .i64 i] 3)).alloc (.cells #[.int .i64 n] 3)).drew).cell? ⟨xb, 0, none⟩ = some (.pointer (some ⟨jb, 0, none⟩)) := by
    rw [cell_of_heap m2.var]; rfl
  have R := Lib.hid (record_any B jb (.func 56) #[] #[.pointer (some ⟨w.heap.size, 0, none⟩), .pointer (some ⟨w.heap.size + 1, 0, none⟩), .pointer (some ⟨w.heap.size + 1 + 1, 0, none⟩)] _ us m1 (by omega))
  have M1 := Lib.hid m1
  have M2 := Lib.hid m2
  have M3 := Lib.hid m3
  have hmf := makeFunc_run
  clear hJ hV m1 m2 m3
  go_enter Try.func47, Try.ntmps47
  go_wp2
  go_region
  go_wp2_with (go_at_call 19; refine R.out.mono ?_)
  rintro e w2 ⟨rfl, j2, d2⟩
  obtain ⟨d3, v3⟩ := d2.left (rv_framed _ _ _ _ _) M2.out ((rv_apart _ _ _ _ _).ne M1.out M2.out)
  have E := Lib.hid (show _ ∧ _ ∧ _ from ⟨j2, v3, M3.out.trans (DynH.of d3)⟩)
  clear j2 d2 d3 v3 c1 c2 c3 z2
  go_wp2
  go_end0
  exact ⟨rfl, E.out.1, E.out.2.1, E.out.2.2⟩

end Go.Proofs.Ytekddnnclbnagaa
