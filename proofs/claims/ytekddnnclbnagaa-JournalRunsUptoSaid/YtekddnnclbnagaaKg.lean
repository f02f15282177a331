/- JournalAtomic: the outer act, and the walk. -/
import Derived.Test.YtekddnnclbnagaaKf
namespace Go.Proofs.Ytekddnnclbnagaa
set_option linter.unusedSimpArgs false
set_option linter.unusedVariables false
open Go.RowKit

/-- Three variables of the call's own: x, ok, the operation. -/
def LVarB (lx lok lo xb : Nat) (ka : Option Addr) (kl kc : Nat) (w : World) : Prop :=
  w.heap[lx]? = some (.cells #[.pointer (some ⟨xb, 0, none⟩)] 25 (0, 0)) ∧ w.heap[lok]? = some (.cells #[.bool true] 4 (0, 0)) ∧ w.heap[lo]? = some (.cells #[.slice ka kl kc] 22 (0, 0))

theorem lvarb_framed (lx lok lo xb : Nat) (ka : Option Addr) (kl kc : Nat) : Framed (LVarB lx lok lo xb ka kl kc) (LK lx lok lo) := by
  refine ⟨?_, fun w w' h hk => ⟨⟨(hk lx (.inl rfl)).trans h.1, (hk lok (.inr (.inl rfl))).trans h.2.1, (hk lo (.inr (.inr rfl))).trans h.2.2⟩, fun _ h => h⟩⟩
  rintro w q h (rfl | rfl | rfl)
  · exact heap_lt h.1
  · exact heap_lt h.2.1
  · exact heap_lt h.2.2
theorem lvarb_apart (lx lok lo xb : Nat) (ka : Option Addr) (kl kc : Nat) : Apart (LVarB lx lok lo xb ka kl kc) (LK lx lok lo) := by
  rintro w q h (rfl | rfl | rfl)
  · exact ⟨_, _, _, h.1, by decide, by decide⟩
  · exact ⟨_, _, _, h.2.1, by decide, by decide⟩
  · exact ⟨_, _, _, h.2.2, by decide, by decide⟩

set_option maxHeartbeats 2000000 in
/-- The act of a nested transaction. -/
theorem act14 (B xb lb jb : Nat) (W0 : World) (kids : Ops) (hplay : PlaySpec B xb lb jb W0 kids) (lx lok lo : Nat) (ka : Option Addr) (kc : Nat) (hka : SliceOps W0 kids ka kids.length) (ps : List PR) (hlen : ps.length + kids.cnt ≤ 100)
    (hst : ∀ q, q = lx ∨ q = lok ∨ q = lo → ∀ w, ¬ RG xb lb ps w q) (w : World) (hB : Below B W0 w) (hJ : JAt B jb (ps.map clo) false w) (hV : RV xb lb jb ps ps w) (hbs : ∀ k, U jb (RG xb lb ps) w k → B ≤ k) (hL : LVarB lx lok lo xb ka kids.length kc w) :
    Calls Try.prog 14 #[.pointer (some ⟨lx, 0, none⟩), .pointer (some ⟨lo, 0, none⟩), .pointer (some ⟨lok, 0, none⟩)] w fun e w' => ∃ G2, DynH (U jb (GA xb lb ps lx lok lo)) (U jb G2) w w' ∧
      ActEnds B jb G2 ps.length (fun w => ∃ q : List PR, q.length ≤ kids.cnt ∧ (∀ k, G2 w k ↔ GA xb lb (ps ++ q) lx lok lo w k) ∧ JAt B jb ((ps ++ q).map clo) false w ∧ RV xb lb jb (ps ++ q) (ps ++ q) w ∧ LVarB lx lok lo xb ka kids.length kc w ∧ (∀ k, LK lx lok lo w k → ¬ RG xb lb (ps ++ q) w k))
        (fun _ w => ∃ all : List PR, (∀ k, GA xb lb ps lx lok lo w k → G2 w k) ∧ JAt B jb (ps.map clo) false w ∧ RV xb lb jb ps (ps ++ all) w ∧ LVarB lx lok lo xb ka kids.length kc w) (fun _ _ _ => False) e w' := by
  have P := Lib.hid (hplay w ps ka kc hB hJ hV hbs hlen hka)
  have c1 : w.cell? ⟨lx, 0, none⟩ = some (.pointer (some ⟨xb, 0, none⟩)) := by rw [cell_of_heap hL.1]; rfl
  have c2 : w.cell? ⟨lo, 0, none⟩ = some (.slice ka kids.length kc) := by rw [cell_of_heap hL.2.2]; rfl
  have HJ := Lib.hid hJ
  have HL := Lib.hid hL
  have HST := Lib.hid hst
  clear hJ hV hL hB hka hplay hst hbs
  go_enter Try.func14, Try.ntmps14
  go_wp2_with (go_at_call 15; refine P.out.mono ?_)
  rintro e w2 ⟨q, hq, d2, j2, v2, he⟩
  have hst2 : ∀ k, LK lx lok lo w k → ¬ RG xb lb ps w k := fun k hk => HST.out k hk w
  obtain ⟨d3, l3, n3⟩ := d2.beside HJ.out (lvarb_framed lx lok lo xb ka kids.length kc) (lvarb_apart lx lok lo xb ka kids.length kc) HL.out hst2
  rcases he with rfl | ⟨er, rfl⟩
  · have c3 : w2.cell? ⟨lok, 0, none⟩ = some (.bool true) := by rw [cell_of_heap l3.2.1]; rfl
    have z3 := frozen_of_heap l3.2.1 0
    have hsame : ∀ q : Nat, (w2.setCell ⟨lok, 0, none⟩ (.bool true)).heap[q]? = w2.heap[q]? := by
      intro q
      by_cases e : q = lok
      · subst e; rw [setCell_heap l3.2.1, l3.2.1]; rfl
      · exact Below.heap_setCell _ _ _ _ e
    have hF2 : Framed (fun w => JAt B jb ((ps ++ q).map clo) false w ∧ RV xb lb jb (ps ++ q) (ps ++ q) w ∧ LVarB lx lok lo xb ka kids.length kc w) (fun w k => JF jb w k ∨ RG xb lb (ps ++ q) w k ∨ LK lx lok lo w k) := (jat_framed B jb ((ps ++ q).map clo) false).both ((rv_framed xb lb jb (ps ++ q) (ps ++ q)).both (lvarb_framed lx lok lo xb ka kids.length kc))
    have hX2 := (hF2.fr w2 (w2.setCell ⟨lok, 0, none⟩ (.bool true)) ⟨j2, v2, l3⟩ (fun q _ => hsame q))
    have d4 : DynH (U jb (GA xb lb ps lx lok lo)) (U jb (GA xb lb (ps ++ q) lx lok lo)) w (w2.setCell ⟨lok, 0, none⟩ (.bool true)) :=
      ⟨d3.os, d3.tape, d3.output, by rw [setCell_size]; exact d3.size, fun q hq hn => (hsame q).trans (d3.block q hq hn), fun q hq hf => d3.foot q hq (hX2.2 q hf)⟩
    have hnr : ∀ k, LK lx lok lo w2 k → ¬ RG xb lb (ps ++ q) w2 k := fun k hk hr => n3 k hk (.inr hr)
    have E := Lib.hid (show _ ∧ _ ∧ _ ∧ _ ∧ _ ∧ _ from ⟨hq, d4, hX2.1.1, hX2.1.2.1, hX2.1.2.2, hnr⟩)
    clear hnr d2 j2 v2 d3 l3 n3 hsame hF2 hX2 d4 hst2 hq
    go_wp2
    go_end0
    obtain ⟨e1, e2, e3, e4, e5, e6⟩ := E.out
    exact ⟨_, e2, .inl ⟨_, _, (rv_framed xb lb jb (ps ++ q) (ps ++ q)).both (lvarb_framed lx lok lo xb ka kids.length kc), e3, ⟨e4, e5⟩, rfl, fun w' j x => ⟨q, e1, fun _ => Iff.rfl, j, x.1, x.2, e6⟩⟩⟩
  · refine ⟨rfl, _, d3, .inr ⟨_, _, (ri_undoes B xb lb jb (ps ++ q)).more (lvarb_framed lx lok lo xb ka kids.length kc) (lvarb_apart lx lok lo xb ka kids.length kc) ?_, ?_, j2, ⟨⟨?_, ?_, ?_⟩, l3⟩, .inl ⟨er, rfl, fun w' j x => ?_⟩⟩⟩
    · intro us wx kx _ _ hk hr
      exact n3 kx hk (.inr hr)
    · simp; omega
    · simp
    · rw [List.length_map, List.take_length]
    · rw [List.length_map, List.take_length]; exact v2
    · have hm : min ps.length ((ps ++ q).map clo).length = ps.length := by simp
      have ht : ((ps ++ q).map clo).take ps.length = ps.map clo := by rw [← List.map_take, List.take_left' rfl]
      rw [hm, ht] at j x
      refine ⟨q, fun k hk => ?_, j, ?_, x.2⟩
      · rcases hk with (hk | hk | ⟨p, hp, hk⟩) | hk
        · exact .inl (.inl hk)
        · exact .inl (.inr (.inl hk))
        · exact .inl (.inr (.inr ⟨p, List.mem_append_left _ hp, hk⟩))
        · exact .inr hk
      · have := x.1.2.2
        rwa [List.length_map, List.take_left' rfl] at this

theorem callFunc14 (cap : Array Value) (w : World) : (callFunc 14 cap).run Try.prog w = .ok (.enter 14 cap) w := by kernel_rfl

theorem row_start : row 4 (regOf []) = #[.int .i64 1, .int .i64 2, .int .i64 3, .int .i64 4] := by
  simp [row, regOf, List.range, List.range.loop]

theorem start_atomic (w wa W : World) (sl : Value) (hb : Below (w.heap.size + 1) (w.alloc (.cells #[sl] 22)) wa)
    (hW : W = (((((wa.alloc (.cells #[.slice none 0 0, .bool false] 29)).alloc (.cells #[.int .i64 1, .int .i64 2, .int .i64 3, .int .i64 4] 3)).alloc (.cells #[.pointer (some ⟨wa.heap.size, 0, none⟩), .slice (some ⟨wa.heap.size + 1, 0, none⟩) 4 4] 32)).alloc (.cells #[.pointer (some ⟨wa.heap.size + 1 + 1, 0, none⟩)] 25)).alloc (.cells #[.bool true] 4))) :
    JAt w.heap.size wa.heap.size [] false W ∧ RV (wa.heap.size + 1 + 1) (wa.heap.size + 1) wa.heap.size [] [] W ∧
    W.heap[wa.heap.size + 1 + 1 + 1]? = some (.cells #[.pointer (some ⟨wa.heap.size + 1 + 1, 0, none⟩)] 25) ∧ W.heap[wa.heap.size + 1 + 1 + 1 + 1]? = some (.cells #[.bool true] 4) ∧ W.heap[w.heap.size]? = some (.cells #[sl] 22) ∧ Below w.heap.size w W := by
  subst hW
  have hs := hb.size
  simp only [alloc_size] at hs
  have a0 : wa.heap[w.heap.size]? = some (.cells #[sl] 22) := by rw [hb.block _ (by omega)]; exact heap_alloc_new _ _
  refine ⟨⟨by omega, .slice none 0 0, alloc_heap (alloc_heap (alloc_heap (alloc_heap (heap_alloc_new _ _)))), World.ownsRow_nil _ _ _ _⟩, ⟨alloc_heap (alloc_heap (nblock _ _ _ (by simp))), ?_, by simp⟩, alloc_heap (nblock _ _ _ (by simp)), nblock _ _ _ (by simp),
    alloc_heap (alloc_heap (alloc_heap (alloc_heap (alloc_heap a0)))), ?_⟩
  · rw [row_start]; exact alloc_heap (alloc_heap (alloc_heap (nblock _ _ _ (by simp))))
  · have b0 : Below w.heap.size w (w.alloc (.cells #[sl] 22)) := (Below.refl _ _).alloc (Nat.le_refl _) _
    exact (((((b0.trans (hb.mono (by omega))).alloc (by omega) _).alloc (by simp; omega) _).alloc (by simp; omega) _).alloc (by simp; omega) _).alloc (by simp; omega) _

set_option maxHeartbeats 4000000 in
theorem atomic_core (l : Ops) (hl : l.cnt ≤ 1048576) (sa : Option Addr) (cap : Nat) (w : World) (hs : SliceOps w l sa l.length) :
    Calls Try.prog 3 #[.slice sa l.length cap] w fun e w' => e = .returned (.bool true) ∧ Below w.heap.size w w' := by
  have HS := Lib.hid hs
  have hmf := makeFunc_run
  clear hs
  go_enter Try.func3, Try.ntmps3
  go_wp2_with (go_at_call 11; refine (awake_any _).mono ?_)
  rintro e wa ⟨rfl, hbb⟩
  simp only [alloc_size] at hbb
  have hsz := hbb.size
  simp only [alloc_size] at hsz
  have b0 : Below w.heap.size w wa := ((Below.refl _ _).alloc (Nat.le_refl _) _).trans (hbb.mono (by omega))
  have HSA := Lib.hid (HS.out.below b0 rfl)
  have c0 : wa.cell? ⟨w.heap.size, 0, none⟩ = some (.slice sa l.length cap) := by
    rw [hbb.cell (by show w.heap.size < _; omega)]; rw [cell_of_heap (heap_alloc_new _ _)]; rfl
  have GR := Lib.hid (great_any l hl wa sa cap HSA.out)
  have HB0 := Lib.hid b0
  have HBB := Lib.hid hbb
  clear b0 hbb
  by_cases hg : l.great = true
  · rw [hg] at GR
    go_wp2_with (go_at_call 12; refine GR.out.mono ?_; rintro e w' ⟨rfl, rfl⟩)
    go_ret
    exact ⟨rfl, HB0.out⟩
  · have hg' : l.great = false := by simpa using hg
    rw [hg'] at GR
    have hlim : l.cnt ≤ 60 := by simp [Ops.great] at hg'; omega
    clear hg hg'
    obtain ⟨j1, v1, x1, o1, s1, b1⟩ := start_atomic w wa _ (.slice sa l.length cap) HBB.out rfl
    have hbs : ∀ k, U wa.heap.size (RG (wa.heap.size + 1 + 1) (wa.heap.size + 1) []) _ k → w.heap.size ≤ k := fun k hk => by
      rcases hk with hk | rfl | rfl | ⟨p, hp, _⟩
      · exact jf_base j1 k hk
      · omega
      · omega
      · cases hp
    have hst : ∀ q, q = wa.heap.size + 1 + 1 + 1 ∨ q = wa.heap.size + 1 + 1 + 1 + 1 ∨ q = w.heap.size → ∀ wz, ¬ RG (wa.heap.size + 1 + 1) (wa.heap.size + 1) [] wz q := by
      intro q hq wz hr
      rcases hr with rfl | rfl | ⟨p, hp, _⟩
      · omega
      · omega
      · cases hp
    have hl1 : LVarB (wa.heap.size + 1 + 1 + 1) (wa.heap.size + 1 + 1 + 1 + 1) w.heap.size (wa.heap.size + 1 + 1) sa l.length cap _ := ⟨x1, o1, s1⟩
    have hXF := (rv_framed (wa.heap.size + 1 + 1) (wa.heap.size + 1) wa.heap.size [] []).both (lvarb_framed (wa.heap.size + 1 + 1 + 1) (wa.heap.size + 1 + 1 + 1 + 1) w.heap.size (wa.heap.size + 1 + 1) sa l.length cap)
    have hplay := play15 w.heap.size (wa.heap.size + 1 + 1) (wa.heap.size + 1) wa.heap.size w rfl l.cnt l (Nat.le_refl _)
    have A := Lib.hid (attempt_grow w.heap.size wa.heap.size _ _ hXF _ [] j1 ⟨v1, hl1⟩ (by simp) 14 _ (callFunc14 #[.pointer (some ⟨wa.heap.size + 1 + 1 + 1, 0, none⟩), .pointer (some ⟨w.heap.size, 0, none⟩), .pointer (some ⟨wa.heap.size + 1 + 1 + 1 + 1, 0, none⟩)]) _ _ _
      (fun wz jz xz dz => act14 w.heap.size (wa.heap.size + 1 + 1) (wa.heap.size + 1) wa.heap.size w l hplay _ _ _ sa cap HS.out [] (by simp; omega) hst wz (by
          refine b1.trans (dz.below (fun u hu => by simp; omega) ?_)
          rintro u (hu | hu | hu)
          · exact hbs u (.inl hu)
          · exact hbs u (.inr hu)
          · rcases hu with rfl | rfl | rfl <;> omega) jz xz.1 (by
          intro u hu
          rcases Nat.lt_or_ge u w.heap.size with h | h
          · have h3 := dz.foot u (by simp; omega) (hu.imp id .inl)
            rcases h3 with h3 | h3 | h3
            · exact hbs u (.inl h3)
            · exact hbs u (.inr h3)
            · rcases h3 with rfl | rfl | rfl <;> omega
          · exact h) xz.2))
    have HHB := Lib.hid (show Below w.heap.size w _ ∧ (∀ u, U wa.heap.size (GA (wa.heap.size + 1 + 1) (wa.heap.size + 1) [] (wa.heap.size + 1 + 1 + 1) (wa.heap.size + 1 + 1 + 1 + 1) w.heap.size) _ u → w.heap.size ≤ u) from ⟨b1, by
      rintro u (hu | hu | hu)
      · exact hbs u (.inl hu)
      · exact hbs u (.inr hu)
      · rcases hu with rfl | rfl | rfl <;> omega⟩)
    clear j1 v1 x1 o1 s1 b1 hbs hst hl1 hXF hplay
    go_wp2_with (first | (go_at_call 12; refine GR.out.mono ?_; rintro e w' ⟨rfl, rfl⟩) | (go_at_call 13; refine A.out.mono ?_))
    clear c0
    rintro e w2 ⟨G2, d2, hatt⟩
    obtain ⟨hb1, hub⟩ := HHB.out
    have hb2 := hb1.trans (d2.below (by simp; omega) hub)
    rcases hatt with ⟨rfl, q2, hq2, hG2, j2, v2, l2, n2⟩ | ⟨er, rfl, all, hG2, j2, v2, l2⟩ | ⟨_, _, _, F⟩
    · simp only [List.nil_append] at j2 v2 n2 hG2
      have c4 : w2.cell? ⟨wa.heap.size + 1 + 1 + 1 + 1, 0, none⟩ = some (.bool true) := by rw [cell_of_heap l2.2.1]; rfl
      have c1 : w2.cell? ⟨wa.heap.size + 1 + 1 + 1, 0, none⟩ = some (.pointer (some ⟨wa.heap.size + 1 + 1, 0, none⟩)) := by rw [cell_of_heap l2.1]; rfl
      have c2 : w2.cell? ⟨wa.heap.size + 1 + 1, 0, none⟩ = some (.pointer (some ⟨wa.heap.size, 0, none⟩)) := by rw [cell_of_heap v2.var]; rfl
      have RW := Lib.hid (rewind_any w.heap.size wa.heap.size _ _ (ri_undoes w.heap.size (wa.heap.size + 1 + 1) (wa.heap.size + 1) wa.heap.size q2) w2 _ j2 ⟨by simp, by simp, by simpa using v2⟩ (by simp; omega) 0 (Nat.zero_le _))
      have HB3 := Lib.hid hb2
      have HUB := Lib.hid (fun u (hu : U wa.heap.size (RG (wa.heap.size + 1 + 1) (wa.heap.size + 1) q2) w2 u) => (show w.heap.size ≤ u from by
                   rcases Nat.lt_or_ge u w.heap.size with h | h
                   · exact hub u (d2.foot u (by have := hb1.size; have := heap_lt l2.1; omega) (hu.imp id (fun h => (hG2 u).2 (.inl h))))
                   · exact h))
      have HXV := Lib.hid (show w2.heap[wa.heap.size + 1 + 1 + 1]? = some (.cells #[.pointer (some ⟨wa.heap.size + 1 + 1, 0, none⟩)] 25) from l2.1)
      have HNX := Lib.hid (show ¬ U wa.heap.size (RG (wa.heap.size + 1 + 1) (wa.heap.size + 1) q2) w2 (wa.heap.size + 1 + 1 + 1) from (fun hu => hu.elim (jf_type j2 l2.1 (by decide) (by decide)) (n2 _ (.inl rfl))))
      clear hb1 hub hb2 hG2 d2 j2 v2 l2 n2
      go_wp2_with (go_at_call 18; refine RW.out.mono ?_)
      rintro e w4 ⟨rfl, j4, i4, d4⟩
      have v4 := i4.2.2
      simp only [List.take_zero, List.length_nil] at v4 j4
      have x4 : w4.heap[wa.heap.size + 1 + 1 + 1]? = some (.cells #[.pointer (some ⟨wa.heap.size + 1 + 1, 0, none⟩)] 25) := (d4.block _ (heap_lt HXV.out) HNX.out).trans HXV.out
      have b4 := HB3.out.trans (d4.below (fun k hk => by have := HB3.out.size; omega) HUB.out)
      have c1 : w4.cell? ⟨wa.heap.size + 1 + 1 + 1, 0, none⟩ = some (.pointer (some ⟨wa.heap.size + 1 + 1, 0, none⟩)) := by rw [cell_of_heap x4]; rfl
      have c2 : w4.cell? ⟨wa.heap.size + 1 + 1, 0, none⟩ = some (.pointer (some ⟨wa.heap.size, 0, none⟩)) := by rw [cell_of_heap v4.var]; rfl
      have c3 : w4.cell? ⟨wa.heap.size + 1 + 1, 1, none⟩ = some (.slice (some ⟨wa.heap.size + 1, 0, none⟩) 4 4) := by rw [cell_of_heap v4.var]; rfl
      obtain ⟨⟨la, lc, hc0⟩, _⟩ := j4.cells
      have L := Lib.hid (len_any wa.heap.size la _ lc w4 hc0 (by simp [maxLen]))
      have hlb := heap_lt v4.row
      have Q := Lib.hid (fun c1 c2 => ints_same 4 (by omega) (regOf []) (some ⟨wa.heap.size + 1, 0, none⟩) (some ⟨w4.heap.size, 0, none⟩) c1 c2 (w4.alloc (.cells #[.int .i64 1, .int .i64 2, .int .i64 3, .int .i64 4] 3))
        (fun _ => ⟨_, 0, rfl, fun j hj => by rw [Nat.zero_add, cell_of_heap (alloc_heap v4.row), row_get hj]⟩) (fun _ => ⟨_, 0, rfl, fun j hj => by rw [Nat.zero_add, cell_of_heap (heap_alloc_new _ _), ← row_start, row_get hj]⟩))
      have HB4 := Lib.hid b4
      have hl1 := heap_lt x4
      have hl2 := heap_lt v4.var
      have hb4s := b4.size
      clear j4 i4 d4 v4 x4 b4 hc0
      go_wp2_with (first | (go_at_call 17; refine L.out.mono ?_; rintro e w' ⟨rfl, rfl⟩) | (go_at_call 16; refine (Q.out _ _).mono ?_))
      rintro e w5 ⟨rfl, m, rfl⟩
      go_wp2
      go_ret
      exact ⟨rfl, below_drewN (HB4.out.alloc (by omega) _) m⟩
    · have v3 := rv_less v2
      have nx : ¬ U wa.heap.size (RG (wa.heap.size + 1 + 1) (wa.heap.size + 1) []) w2 (wa.heap.size + 1 + 1 + 1) := by
        rintro (hu | hu | hu | ⟨p, hp, _⟩)
        · exact jf_type j2 l2.1 (by decide) (by decide) hu
        · omega
        · omega
        · cases hp
      have c4 : w2.cell? ⟨wa.heap.size + 1 + 1 + 1 + 1, 0, none⟩ = some (.bool true) := by rw [cell_of_heap l2.2.1]; rfl
      have c1 : w2.cell? ⟨wa.heap.size + 1 + 1 + 1, 0, none⟩ = some (.pointer (some ⟨wa.heap.size + 1 + 1, 0, none⟩)) := by rw [cell_of_heap l2.1]; rfl
      have c2 : w2.cell? ⟨wa.heap.size + 1 + 1, 0, none⟩ = some (.pointer (some ⟨wa.heap.size, 0, none⟩)) := by rw [cell_of_heap v3.var]; rfl
      have c3 : w2.cell? ⟨wa.heap.size + 1 + 1, 1, none⟩ = some (.slice (some ⟨wa.heap.size + 1, 0, none⟩) 4 4) := by rw [cell_of_heap v3.var]; rfl
      by_cases he : er = 0
      · subst he
        have RW := Lib.hid (rewind_any w.heap.size wa.heap.size _ _ (ri_undoes w.heap.size (wa.heap.size + 1 + 1) (wa.heap.size + 1) wa.heap.size []) w2 _ j2 ⟨by simp, by simp, by simpa using v3⟩ (by simp) 0 (Nat.zero_le _))
        have HB3 := Lib.hid hb2
        have HUB := Lib.hid (fun u (hu : U wa.heap.size (RG (wa.heap.size + 1 + 1) (wa.heap.size + 1) []) w2 u) => (show w.heap.size ≤ u from by
                     rcases Nat.lt_or_ge u w.heap.size with h | h
                     · exact hub u (d2.foot u (by have := hb1.size; have := heap_lt l2.1; omega) (hu.imp id (fun h => hG2 u (.inl h))))
                     · exact h))
        have HXV := Lib.hid (show w2.heap[wa.heap.size + 1 + 1 + 1]? = some (.cells #[.pointer (some ⟨wa.heap.size + 1 + 1, 0, none⟩)] 25) from l2.1)
        have HNX := Lib.hid (show ¬ U wa.heap.size (RG (wa.heap.size + 1 + 1) (wa.heap.size + 1) []) w2 (wa.heap.size + 1 + 1 + 1) from nx)
        clear hb1 hub hb2 hG2 d2 j2 v2 l2 v3 nx c3
        go_wp2_with (go_at_call 18; refine RW.out.mono ?_)
        rintro e w4 ⟨rfl, j4, i4, d4⟩
        have v4 := i4.2.2
        simp only [List.take_zero, List.length_nil] at v4 j4
        have x4 : w4.heap[wa.heap.size + 1 + 1 + 1]? = some (.cells #[.pointer (some ⟨wa.heap.size + 1 + 1, 0, none⟩)] 25) := (d4.block _ (heap_lt HXV.out) HNX.out).trans HXV.out
        have b4 := HB3.out.trans (d4.below (fun k hk => by have := HB3.out.size; omega) HUB.out)
        have c1 : w4.cell? ⟨wa.heap.size + 1 + 1 + 1, 0, none⟩ = some (.pointer (some ⟨wa.heap.size + 1 + 1, 0, none⟩)) := by rw [cell_of_heap x4]; rfl
        have c2 : w4.cell? ⟨wa.heap.size + 1 + 1, 0, none⟩ = some (.pointer (some ⟨wa.heap.size, 0, none⟩)) := by rw [cell_of_heap v4.var]; rfl
        have c3 : w4.cell? ⟨wa.heap.size + 1 + 1, 1, none⟩ = some (.slice (some ⟨wa.heap.size + 1, 0, none⟩) 4 4) := by rw [cell_of_heap v4.var]; rfl
        obtain ⟨⟨la, lc, hc0⟩, _⟩ := j4.cells
        have L := Lib.hid (len_any wa.heap.size la _ lc w4 hc0 (by simp [maxLen]))
        have hlb := heap_lt v4.row
        have Q := Lib.hid (fun c1 c2 => ints_same 4 (by omega) (regOf []) (some ⟨wa.heap.size + 1, 0, none⟩) (some ⟨w4.heap.size, 0, none⟩) c1 c2 (w4.alloc (.cells #[.int .i64 1, .int .i64 2, .int .i64 3, .int .i64 4] 3))
          (fun _ => ⟨_, 0, rfl, fun j hj => by rw [Nat.zero_add, cell_of_heap (alloc_heap v4.row), row_get hj]⟩) (fun _ => ⟨_, 0, rfl, fun j hj => by rw [Nat.zero_add, cell_of_heap (heap_alloc_new _ _), ← row_start, row_get hj]⟩))
        have HB4 := Lib.hid b4
        have hl1 := heap_lt x4
        have hl2 := heap_lt v4.var
        have hb4s := b4.size
        clear j4 i4 d4 v4 x4 b4 hc0
        go_wp2_with (first | (go_at_call 17; refine L.out.mono ?_; rintro e w' ⟨rfl, rfl⟩) | (go_at_call 16; refine (Q.out _ _).mono ?_))
        rintro e w5 ⟨rfl, m, rfl⟩
        go_wp2
        go_ret
        exact ⟨rfl, below_drewN (HB4.out.alloc (by omega) _) m⟩
      · have he' : (er != 0) = true := by simpa using he
        have he'' : (er == 0) = false := by simpa using he
        have Q0 := Lib.hid (fun c1 c2 => ints_same 4 (by omega) (regOf []) (some ⟨wa.heap.size + 1, 0, none⟩) (some ⟨w2.heap.size, 0, none⟩) c1 c2 (w2.alloc (.cells #[.int .i64 1, .int .i64 2, .int .i64 3, .int .i64 4] 3))
          (fun _ => ⟨_, 0, rfl, fun j hj => by rw [Nat.zero_add, cell_of_heap (alloc_heap v3.row), row_get hj]⟩) (fun _ => ⟨_, 0, rfl, fun j hj => by rw [Nat.zero_add, cell_of_heap (heap_alloc_new _ _), ← row_start, row_get hj]⟩))
        have hl0 := heap_lt l2.1
        have hl1 := heap_lt v3.var
        have hl2 := heap_lt v3.row
        have hl3 := heap_lt l2.2.1
        have HZ := Lib.hid (show _ ∧ _ ∧ _ ∧ _ ∧ _ ∧ _ ∧ _ ∧ _ ∧ _ from ⟨hb1, hub, hb2, hG2, d2, j2, l2, v3, nx⟩)
        clear hb1 hub hb2 hG2 d2 j2 v2 l2 v3 nx he
        go_wp2_with (go_at_call 16; refine (Q0.out _ _).mono ?_)
        rintro e w3 ⟨rfl, m, rfl⟩
        obtain ⟨hb1, hub, hb2, hG2, d2, j2, l2, v3, nx⟩ := HZ.out
        have hF := (jat_framed w.heap.size wa.heap.size [] false).both (rv_framed (wa.heap.size + 1 + 1) (wa.heap.size + 1) wa.heap.size [] [])
        have hX := hF.fr w2 ((w2.alloc (.cells #[.int .i64 1, .int .i64 2, .int .i64 3, .int .i64 4] 3)).drewN m) ⟨j2, v3⟩ (fun k hk => Below.heap_alloc _ _ _ (hF.inn w2 k ⟨j2, v3⟩ hk))
        obtain ⟨⟨ka, kc, hk0⟩, _⟩ := hX.1.1.cells
        have L0 := Lib.hid (len_any wa.heap.size ka _ kc ((w2.alloc (.cells #[.int .i64 1, .int .i64 2, .int .i64 3, .int .i64 4] 3)).drewN m) hk0 (by simp [maxLen]))
        have x3 : ((w2.alloc (.cells #[.int .i64 1, .int .i64 2, .int .i64 3, .int .i64 4] 3)).drewN m).heap[wa.heap.size + 1 + 1 + 1]? = some (.cells #[.pointer (some ⟨wa.heap.size + 1 + 1, 0, none⟩)] 25) := alloc_heap l2.1
        have HZ2 := Lib.hid (show _ ∧ _ ∧ _ ∧ _ ∧ _ ∧ _ ∧ _ ∧ _ ∧ _ ∧ _ ∧ _ from ⟨hb1, hub, hb2, hG2, d2, j2, l2, v3, nx, hX, x3⟩)
        clear hb1 hub hb2 hG2 d2 j2 l2 v3 nx hX x3 hF hk0
        go_wp2_with (go_at_call 17; refine L0.out.mono ?_; rintro e w' ⟨rfl, rfl⟩)
        obtain ⟨hb1, hub, hb2, hG2, d2, j2, l2, v3, nx, hX, x3⟩ := HZ2.out
        have hb5 : Below w.heap.size w ((w2.alloc (.cells #[.int .i64 1, .int .i64 2, .int .i64 3, .int .i64 4] 3)).drewN m) := below_drewN (hb2.alloc (by have := hb2.size; omega) _) m
        have RW := Lib.hid (rewind_any w.heap.size wa.heap.size _ _ (ri_undoes w.heap.size (wa.heap.size + 1 + 1) (wa.heap.size + 1) wa.heap.size []) ((w2.alloc (.cells #[.int .i64 1, .int .i64 2, .int .i64 3, .int .i64 4] 3)).drewN m) _ hX.1.1 ⟨by simp, by simp, by simpa using hX.1.2⟩ (by simp) 0 (Nat.zero_le _))
        have HB3 := Lib.hid hb5
        have HUB := Lib.hid (fun u (hu : U wa.heap.size (RG (wa.heap.size + 1 + 1) (wa.heap.size + 1) []) ((w2.alloc (.cells #[.int .i64 1, .int .i64 2, .int .i64 3, .int .i64 4] 3)).drewN m) u) => (show w.heap.size ≤ u from by
                     rcases Nat.lt_or_ge u w.heap.size with h | h
                     · exact hub u (d2.foot u (by have := hb1.size; have := heap_lt l2.1; omega) ((hX.2 u hu).imp id (fun h => hG2 u (.inl h))))
                     · exact h))
        have HXV := Lib.hid (show ((w2.alloc (.cells #[.int .i64 1, .int .i64 2, .int .i64 3, .int .i64 4] 3)).drewN m).heap[wa.heap.size + 1 + 1 + 1]? = some (.cells #[.pointer (some ⟨wa.heap.size + 1 + 1, 0, none⟩)] 25) from x3)
        have HNX := Lib.hid (show ¬ U wa.heap.size (RG (wa.heap.size + 1 + 1) (wa.heap.size + 1) []) ((w2.alloc (.cells #[.int .i64 1, .int .i64 2, .int .i64 3, .int .i64 4] 3)).drewN m) (wa.heap.size + 1 + 1 + 1) from (fun hu => nx (hX.2 _ hu)))
        clear hb1 hub hb2 hG2 d2 j2 l2 v3 nx c1 c2 c3 c4 hX x3 hb5
        go_wp2_with (go_at_call 18; refine RW.out.mono ?_)
        rintro e w4 ⟨rfl, j4, i4, d4⟩
        have v4 := i4.2.2
        simp only [List.take_zero, List.length_nil] at v4 j4
        have x4 : w4.heap[wa.heap.size + 1 + 1 + 1]? = some (.cells #[.pointer (some ⟨wa.heap.size + 1 + 1, 0, none⟩)] 25) := (d4.block _ (heap_lt HXV.out) HNX.out).trans HXV.out
        have b4 := HB3.out.trans (d4.below (fun k hk => by have := HB3.out.size; omega) HUB.out)
        have c1 : w4.cell? ⟨wa.heap.size + 1 + 1 + 1, 0, none⟩ = some (.pointer (some ⟨wa.heap.size + 1 + 1, 0, none⟩)) := by rw [cell_of_heap x4]; rfl
        have c2 : w4.cell? ⟨wa.heap.size + 1 + 1, 0, none⟩ = some (.pointer (some ⟨wa.heap.size, 0, none⟩)) := by rw [cell_of_heap v4.var]; rfl
        have c3 : w4.cell? ⟨wa.heap.size + 1 + 1, 1, none⟩ = some (.slice (some ⟨wa.heap.size + 1, 0, none⟩) 4 4) := by rw [cell_of_heap v4.var]; rfl
        obtain ⟨⟨la, lc, hc0⟩, _⟩ := j4.cells
        have L := Lib.hid (len_any wa.heap.size la _ lc w4 hc0 (by simp [maxLen]))
        have hlb := heap_lt v4.row
        have Q := Lib.hid (fun c1 c2 => ints_same 4 (by omega) (regOf []) (some ⟨wa.heap.size + 1, 0, none⟩) (some ⟨w4.heap.size, 0, none⟩) c1 c2 (w4.alloc (.cells #[.int .i64 1, .int .i64 2, .int .i64 3, .int .i64 4] 3))
          (fun _ => ⟨_, 0, rfl, fun j hj => by rw [Nat.zero_add, cell_of_heap (alloc_heap v4.row), row_get hj]⟩) (fun _ => ⟨_, 0, rfl, fun j hj => by rw [Nat.zero_add, cell_of_heap (heap_alloc_new _ _), ← row_start, row_get hj]⟩))
        have HB4 := Lib.hid b4
        have hl1 := heap_lt x4
        have hl2 := heap_lt v4.var
        have hb4s := b4.size
        clear j4 i4 d4 v4 x4 b4 hc0
        go_wp2_with (first | (go_at_call 17; refine L.out.mono ?_; rintro e w' ⟨rfl, rfl⟩) | (go_at_call 16; refine (Q.out _ _).mono ?_))
        rintro e w5 ⟨rfl, m, rfl⟩
        go_wp2
        go_ret
        exact ⟨rfl, below_drewN (HB4.out.alloc (by omega) _) m⟩
    · exact F.elim

theorem atomic_walk {H : Type} (enc : TypeId × Value → H) (v0 : Value) (d0 : DataW H) (p0 : List MemPlace) (base : Nat) {w : World}
    (hok : Value.okWide Try.prog w .any base 22 v0) (h : DataW.Trod enc Try.prog w 0 (fun _ => true) true 22 v0 d0 p0) (_ : ∀ x ∈ p0, x.block < w.heap.size) (_ : World) (hk : Rows.uptoSmall H ([d0] ++ []) = true) :
    Calls Try.prog 3 #[v0] w fun e w' => e = .returned (.bool true) ∧ Below w.heap.size w w' := by
  obtain ⟨fuel, hf⟩ := h
  obtain ⟨a, len, cap, l, hcs, hs, _, hb⟩ := trees_open fuel _ _ hf
  obtain ⟨a', len', cap', rfl⟩ := WideShapes.okWide_slice Try.underlying22 hok
  simp [Value.cells] at hcs
  obtain ⟨rfl, rfl, rfl⟩ := hcs
  have hk' := of_decide_eq_true hk
  simp only [List.append_nil, Rows.uptoBulkAll] at hk'
  obtain rfl := hs.1
  exact atomic_core l (by simp only at hb; omega) _ _ w hs

end Go.Proofs.Ytekddnnclbnagaa
