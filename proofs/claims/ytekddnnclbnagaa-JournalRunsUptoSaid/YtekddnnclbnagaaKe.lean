/- JournalAtomic: 'play' and its act. -/
import Derived.Test.YtekddnnclbnagaaKd
namespace Go.Proofs.Ytekddnnclbnagaa
set_option linter.unusedSimpArgs false
set_option linter.unusedVariables false
open Go.RowKit

theorem Undoes.more {B jb : Nat} {I : List Value → World → Prop} {G : World → Nat → Prop} (hU : Undoes B jb I G) {Y : World → Prop} {H : World → Nat → Prop} (hF : Framed Y H) (hA : Apart Y H)
    (hd : ∀ us w k, I us w → Y w → H w k → ¬ G w k) : Undoes B jb (fun us w => I us w ∧ Y w) (fun w k => G w k ∨ H w k) := by
  refine ⟨fun us => (hU.fr us).both hF, fun us w k h hk => hk.elim (hU.ap us w k h.1) (hA w k h.2), fun us u w1 hJ hI => ?_⟩
  obtain ⟨K, cap, h1, h2, h3⟩ := hU.call us u w1 hJ hI.1
  refine ⟨K, cap, h1, h2, h3.mono ?_⟩
  rintro e w2 ⟨rfl, j2, i2, d2⟩
  obtain ⟨d3, y3⟩ := d2.left hF hI.2 (fun k hk hu => hu.elim (hA.ne hJ hI.2 k hk) (hd _ _ _ hI.1 hI.2 hk))
  refine ⟨rfl, j2, ⟨i2, y3⟩, ⟨d3.os, d3.tape, d3.output, d3.size, fun k hk hn => d3.block k hk (fun h => hn ?_), fun k hk hf => ?_⟩⟩
  · rcases h with (h | h) | h
    · exact .inl h
    · exact .inr (.inl h)
    · exact .inr (.inr h)
  · have : (U jb G w2 k) ∨ H w2 k := by
      rcases hf with h | h | h
      · exact .inl (.inl h)
      · exact .inl (.inr h)
      · exact .inr h
    rcases d3.foot k hk this with (h | h) | h
    · exact .inl h
    · exact .inr (.inl h)
    · exact .inr (.inr h)

theorem DynH.shrink {F F2 F3 : World → Nat → Prop} {w w' : World} (h : DynH F F2 w w') (hs : ∀ k, F3 w' k → F2 w' k) : DynH F F3 w w' :=
  ⟨h.os, h.tape, h.output, h.size, h.block, fun k hk hf => h.foot k hk (hs k hf)⟩

/-- Three variables of the call's own: x, ok, the operation. -/
def LVars (lx lok lo xb : Nat) (k n : Int) (ka : Option Addr) (kl kc : Nat) (w : World) : Prop :=
  w.heap[lx]? = some (.cells #[.pointer (some ⟨xb, 0, none⟩)] 25 (0, 0)) ∧ w.heap[lok]? = some (.cells #[.bool true] 4 (0, 0)) ∧ w.heap[lo]? = some (.cells #[.int .i64 k, .int .i64 n, .slice ka kl kc] 55 (0, 0))
def LK (lx lok lo : Nat) (_ : World) (q : Nat) : Prop := q = lx ∨ q = lok ∨ q = lo

theorem lvars_framed (lx lok lo xb : Nat) (k n : Int) (ka : Option Addr) (kl kc : Nat) : Framed (LVars lx lok lo xb k n ka kl kc) (LK lx lok lo) := by
  refine ⟨?_, fun w w' h hk => ⟨⟨(hk lx (.inl rfl)).trans h.1, (hk lok (.inr (.inl rfl))).trans h.2.1, (hk lo (.inr (.inr rfl))).trans h.2.2⟩, fun _ h => h⟩⟩
  rintro w q h (rfl | rfl | rfl)
  · exact heap_lt h.1
  · exact heap_lt h.2.1
  · exact heap_lt h.2.2
theorem lvars_apart (lx lok lo xb : Nat) (k n : Int) (ka : Option Addr) (kl kc : Nat) : Apart (LVars lx lok lo xb k n ka kl kc) (LK lx lok lo) := by
  rintro w q h (rfl | rfl | rfl)
  · exact ⟨_, _, _, h.1, by decide, by decide⟩
  · exact ⟨_, _, _, h.2.1, by decide, by decide⟩
  · exact ⟨_, _, _, h.2.2, by decide, by decide⟩

/-- The footprint while an act of 'play' runs. -/
def GA (xb lb : Nat) (all : List PR) (lx lok lo : Nat) (w : World) (k : Nat) : Prop := RG xb lb all w k ∨ LK lx lok lo w k

/-- How 'play' ends. -/
def PlayEnds (B xb lb jb : Nat) (N : Nat) (ps : List PR) (w : World) (e : Ending) (w' : World) : Prop :=
  ∃ q : List PR, q.length ≤ N ∧ DynH (U jb (RG xb lb ps)) (U jb (RG xb lb (ps ++ q))) w w' ∧ JAt B jb ((ps ++ q).map clo) false w' ∧ RV xb lb jb (ps ++ q) (ps ++ q) w' ∧
    (e = .returned (.bool true) ∨ ∃ er, e = .panicked [{ v := .iface 63 (.agg #[.int .i64 er]), recovered := false }])

def PlaySpec (B xb lb jb : Nat) (W0 : World) (l : Ops) : Prop :=
  ∀ (w : World) (ps : List PR) (a : Option Addr) (cap : Nat), Below B W0 w → JAt B jb (ps.map clo) false w → RV xb lb jb ps ps w → (∀ k, U jb (RG xb lb ps) w k → B ≤ k) → ps.length + l.cnt ≤ 100 → SliceOps W0 l a l.length →
    Calls Try.prog 15 #[.pointer (some ⟨xb, 0, none⟩), .slice a l.length cap] w fun e w' => PlayEnds B xb lb jb l.cnt ps w e w'

/-- Two steps of footprints beside blocks that stand still. -/
theorem DynH.beside {B jb xb lb : Nat} {us : List Value} {ps q : List PR} {w w' : World} {Y : World → Prop} {H : World → Nat → Prop} (hJ : JAt B jb us false w) (hF : Framed Y H) (hA : Apart Y H) (hY : Y w) (hst : ∀ k, H w k → ¬ RG xb lb ps w k)
    (h : DynH (U jb (RG xb lb ps)) (U jb (RG xb lb (ps ++ q))) w w') :
    DynH (U jb (fun w k => RG xb lb ps w k ∨ H w k)) (U jb (fun w k => RG xb lb (ps ++ q) w k ∨ H w k)) w w' ∧ Y w' ∧ (∀ k, H w k → ¬ U jb (RG xb lb (ps ++ q)) w' k) := by
  have hnu : ∀ k, H w k → ¬ U jb (RG xb lb ps) w k := fun k hk hu => hu.elim (hA.ne hJ hY k hk) (hst k hk)
  have hs : ∀ k, H w k → w'.heap[k]? = w.heap[k]? := fun k hk => h.block k (hF.inn w k hY hk) (hnu k hk)
  have h2 := hF.fr w w' hY hs
  refine ⟨⟨h.os, h.tape, h.output, h.size, fun k hk hn => h.block k hk (fun hu => hn (hu.imp id .inl)), fun k hk hf => ?_⟩, h2.1, fun k hk hu => hnu k hk (h.foot k (hF.inn w k hY hk) hu)⟩
  rcases hf with hf | hf | hf
  · exact (h.foot k hk (.inl hf)).imp id .inl
  · exact (h.foot k hk (.inr hf)).imp id .inl
  · exact .inr (.inr (h2.2 k hf))

set_option maxHeartbeats 2000000 in
/-- The act of a nested transaction. -/
theorem act48 (B xb lb jb : Nat) (W0 : World) (kids : Ops) (hplay : PlaySpec B xb lb jb W0 kids) (lx lok lo : Nat) (k n : Int) (ka : Option Addr) (kc : Nat) (hka : SliceOps W0 kids ka kids.length) (ps : List PR) (hlen : ps.length + kids.cnt ≤ 100)
    (hst : ∀ q, q = lx ∨ q = lok ∨ q = lo → ∀ w, ¬ RG xb lb ps w q) (w : World) (hB : Below B W0 w) (hJ : JAt B jb (ps.map clo) false w) (hV : RV xb lb jb ps ps w) (hbs : ∀ k, U jb (RG xb lb ps) w k → B ≤ k) (hL : LVars lx lok lo xb k n ka kids.length kc w) :
    Calls Try.prog 48 #[.pointer (some ⟨lx, 0, none⟩), .pointer (some ⟨lo, 0, none⟩), .pointer (some ⟨lok, 0, none⟩)] w fun e w' => ∃ G2, DynH (U jb (GA xb lb ps lx lok lo)) (U jb G2) w w' ∧
      ActEnds B jb G2 ps.length (fun w => ∃ q : List PR, q.length ≤ kids.cnt ∧ (∀ k, G2 w k ↔ GA xb lb (ps ++ q) lx lok lo w k) ∧ JAt B jb ((ps ++ q).map clo) false w ∧ RV xb lb jb (ps ++ q) (ps ++ q) w ∧ LVars lx lok lo xb k n ka kids.length kc w ∧ (∀ k, LK lx lok lo w k → ¬ RG xb lb (ps ++ q) w k))
        (fun _ w => ∃ all : List PR, (∀ k, GA xb lb ps lx lok lo w k → G2 w k) ∧ JAt B jb (ps.map clo) false w ∧ RV xb lb jb ps (ps ++ all) w ∧ LVars lx lok lo xb k n ka kids.length kc w) (fun _ _ _ => False) e w' := by
  have P := Lib.hid (hplay w ps ka kc hB hJ hV hbs hlen hka)
  have c1 : w.cell? ⟨lx, 0, none⟩ = some (.pointer (some ⟨xb, 0, none⟩)) := by rw [cell_of_heap hL.1]; rfl
  have c2 : w.cell? ⟨lo, 2, none⟩ = some (.slice ka kids.length kc) := by rw [cell_of_heap hL.2.2]; rfl
  have HJ := Lib.hid hJ
  have HL := Lib.hid hL
  have HST := Lib.hid hst
  clear hJ hV hL hB hka hplay hst hbs
  go_enter Try.func48, Try.ntmps48
  go_wp2_with (go_at_call 15; refine P.out.mono ?_)
  rintro e w2 ⟨q, hq, d2, j2, v2, he⟩
  have hst2 : ∀ k, LK lx lok lo w k → ¬ RG xb lb ps w k := fun k hk => HST.out k hk w
  obtain ⟨d3, l3, n3⟩ := d2.beside HJ.out (lvars_framed lx lok lo xb k n ka kids.length kc) (lvars_apart lx lok lo xb k n ka kids.length kc) HL.out hst2
  rcases he with rfl | ⟨er, rfl⟩
  · have c3 : w2.cell? ⟨lok, 0, none⟩ = some (.bool true) := by rw [cell_of_heap l3.2.1]; rfl
    have z3 := frozen_of_heap l3.2.1 0
    have hsame : ∀ q : Nat, (w2.setCell ⟨lok, 0, none⟩ (.bool true)).heap[q]? = w2.heap[q]? := by
      intro q
      by_cases e : q = lok
      · subst e; rw [setCell_heap l3.2.1, l3.2.1]; rfl
      · exact Below.heap_setCell _ _ _ _ e
    have hF2 : Framed (fun w => JAt B jb ((ps ++ q).map clo) false w ∧ RV xb lb jb (ps ++ q) (ps ++ q) w ∧ LVars lx lok lo xb k n ka kids.length kc w) (fun w k => JF jb w k ∨ RG xb lb (ps ++ q) w k ∨ LK lx lok lo w k) := (jat_framed B jb ((ps ++ q).map clo) false).both ((rv_framed xb lb jb (ps ++ q) (ps ++ q)).both (lvars_framed lx lok lo xb k n ka kids.length kc))
    have hX2 := (hF2.fr w2 (w2.setCell ⟨lok, 0, none⟩ (.bool true)) ⟨j2, v2, l3⟩ (fun q _ => hsame q))
    have d4 : DynH (U jb (GA xb lb ps lx lok lo)) (U jb (GA xb lb (ps ++ q) lx lok lo)) w (w2.setCell ⟨lok, 0, none⟩ (.bool true)) :=
      ⟨d3.os, d3.tape, d3.output, by rw [setCell_size]; exact d3.size, fun q hq hn => (hsame q).trans (d3.block q hq hn), fun q hq hf => d3.foot q hq (hX2.2 q hf)⟩
    have hnr : ∀ k, LK lx lok lo w2 k → ¬ RG xb lb (ps ++ q) w2 k := fun k hk hr => n3 k hk (.inr hr)
    have E := Lib.hid (show _ ∧ _ ∧ _ ∧ _ ∧ _ ∧ _ from ⟨hq, d4, hX2.1.1, hX2.1.2.1, hX2.1.2.2, hnr⟩)
    clear hnr d2 j2 v2 d3 l3 n3 hsame hF2 hX2 d4 hst2 hq
    go_wp2
    go_end0
    obtain ⟨e1, e2, e3, e4, e5, e6⟩ := E.out
    exact ⟨_, e2, .inl ⟨_, _, (rv_framed xb lb jb (ps ++ q) (ps ++ q)).both (lvars_framed lx lok lo xb k n ka kids.length kc), e3, ⟨e4, e5⟩, rfl, fun w' j x => ⟨q, e1, fun _ => Iff.rfl, j, x.1, x.2, e6⟩⟩⟩
  · refine ⟨rfl, _, d3, .inr ⟨_, _, (ri_undoes B xb lb jb (ps ++ q)).more (lvars_framed lx lok lo xb k n ka kids.length kc) (lvars_apart lx lok lo xb k n ka kids.length kc) ?_, ?_, j2, ⟨⟨?_, ?_, ?_⟩, l3⟩, .inl ⟨er, rfl, fun w' j x => ?_⟩⟩⟩
    · intro us wx kx _ _ hk hr
      exact n3 kx hk (.inr hr)
    · simp; omega
    · simp
    · rw [List.length_map, List.take_length]
    · rw [List.length_map, List.take_length]; exact v2
    · have hm : min ps.length ((ps ++ q).map clo).length = ps.length := by simp
      have ht : ((ps ++ q).map clo).take ps.length = ps.map clo := by rw [← List.map_take, List.take_left' rfl]
      rw [hm, ht] at j x
      refine ⟨q, fun k hk => ?_, j, ?_, x.2⟩
      · rcases hk with (hk | hk | ⟨p, hp, hk⟩) | hk
        · exact .inl (.inl hk)
        · exact .inl (.inr (.inl hk))
        · exact .inl (.inr (.inr ⟨p, List.mem_append_left _ hp, hk⟩))
        · exact .inr hk
      · have := x.1.2.2
        rwa [List.length_map, List.take_left' rfl] at this

end Go.Proofs.Ytekddnnclbnagaa
