/- JournalPanics: the recursion. -/
import Derived.Test.YtekddnnclbnagaaJn
import Derived.Test.YtekddnnclbnagaaJo
namespace Go.Proofs.Ytekddnnclbnagaa
open Go.RowKit

/-- The blocks of JournalPanics: the records, the value, the journal's pointer, the counter, the function 'down'. -/
structure PBlk where
  (r v j n d : Nat)

def PBlk.keys (K : PBlk) : List Nat := [K.r, K.v, K.j, K.n, K.d]
def F24 (K : PBlk) : Value := .func (.func 24) #[] #[.pointer (some ⟨K.r, 0, none⟩), .pointer (some ⟨K.v, 0, none⟩), .pointer (some ⟨K.j, 0, none⟩), .pointer (some ⟨K.n, 0, none⟩), .pointer (some ⟨K.d, 0, none⟩)]
def F21 : Value := .func (.func 21) #[] #[]
def F26 (K : PBlk) : Value := .func (.func 26) #[] #[.pointer (some ⟨K.n, 0, none⟩)]

/-- What stands fixed: the slice that came in, the value, the journal. -/
structure PFix where
  (sa : Option Addr) (len cap : Nat) (val : Int) (jb : Nat)

def PBlk.vars (K : PBlk) (X : PFix) (n : Int) (ex : List (Nat × Value × TypeId)) : List (Nat × Value × TypeId) :=
  (K.r, .slice X.sa X.len X.cap, 38) :: (K.v, .int .i64 X.val, 3) :: (K.j, .pointer (some ⟨X.jb, 0, none⟩), 26) :: (K.n, .int .i64 n, 3) :: (K.d, F24 K, 41) :: ex

def PI (K : PBlk) (X : PFix) (ex : List (Nat × Value × TypeId)) (us : List Value) (w : World) : Prop :=
  ∃ c, c ≤ 200 ∧ (us = F21 :: List.replicate c (F26 K) ∨ (us = [] ∧ c = 0)) ∧ Vars (K.vars X c ex) w

def PKeys (K : PBlk) (ex : List (Nat × Value × TypeId)) : List Nat := K.keys ++ ex.map (·.1)

theorem pvars_framed (K : PBlk) (X : PFix) (n : Int) (ex : List (Nat × Value × TypeId)) : Framed (Vars (K.vars X n ex)) (VG (PKeys K ex)) := vars_framed _ _ rfl
theorem pvars_apart (K : PBlk) (X : PFix) (n : Int) (ex : List (Nat × Value × TypeId)) (hex : ∀ x ∈ ex, x.2.2 ≠ 1 ∧ x.2.2 ≠ 29) : Apart (Vars (K.vars X n ex)) (VG (PKeys K ex)) := by
  refine vars_apart _ _ rfl ?_
  simp only [PBlk.vars, List.mem_cons, forall_eq_or_imp]
  exact ⟨by decide, by decide, by decide, by decide, by decide, hex⟩

theorem pvars_setN {K : PBlk} {X : PFix} {n : Int} {ex : List (Nat × Value × TypeId)} {w : World} (hK : (PKeys K ex).Nodup) (h : Vars (K.vars X n ex) w) (y : Int) : Vars (K.vars X y ex) (w.setCell ⟨K.n, 0, none⟩ (.int .i64 y)) := by
  refine vars_store h (h (K.n, .int .i64 n, 3) (by simp [PBlk.vars])) ?_
  simp only [PKeys, PBlk.keys, List.cons_append, List.nil_append, List.nodup_cons, List.mem_cons, not_or] at hK
  intro x hx
  simp only [PBlk.vars, List.mem_cons] at hx ⊢
  obtain ⟨⟨_, _, k1, _⟩, ⟨_, k2, _⟩, ⟨k3, _⟩, ⟨k4, k5⟩, _⟩ := hK
  rcases hx with rfl | rfl | rfl | rfl | rfl | hx
  · exact .inl ⟨by simp, k1⟩
  · exact .inl ⟨by simp, k2⟩
  · exact .inl ⟨by simp, k3⟩
  · exact .inr rfl
  · exact .inl ⟨by simp, fun e => k4 e.symm⟩
  · exact .inl ⟨by simp [hx], fun e => k5 (e ▸ List.mem_map_of_mem hx)⟩

theorem undo26 (nb : Nat) (x : Int) (w : World) (hx : -1000000 < x ∧ x < 1000000) (h : VarAt nb (.int .i64 x) 3 w) :
    Calls Try.prog 26 #[.pointer (some ⟨nb, 0, none⟩)] w fun e w' => e = .returned (.tuple #[]) ∧ w.setCell ⟨nb, 0, none⟩ (.int .i64 (x - 1)) = w' := by
  have hc : w.cell? ⟨nb, 0, none⟩ = some (.int .i64 x) := by rw [cell_of_heap h]; rfl
  have hz := frozen_of_heap h 0
  clear h
  obtain ⟨hx1, hx2⟩ := hx
  go_enter Try.func26, Try.ntmps26
  go_wp2
  go_end0
  exact ⟨rfl, rfl⟩

theorem undo21 (w : World) : Calls Try.prog 21 #[] w fun e w' => e = .returned (.tuple #[]) ∧ w = w' := by
  go_enter Try.func21, Try.ntmps21
  go_wp2
  go_end0
  exact ⟨rfl, rfl⟩

theorem callFunc21 (cap : Array Value) (w : World) : (callFunc 21 cap).run Try.prog w = .ok (.enter 21 cap) w := by kernel_rfl
theorem callFunc22 (cap : Array Value) (w : World) : (callFunc 22 cap).run Try.prog w = .ok (.enter 22 cap) w := by kernel_rfl
theorem callFunc24 (cap : Array Value) (w : World) : (callFunc 24 cap).run Try.prog w = .ok (.enter 24 cap) w := by kernel_rfl
theorem callFunc25 (cap : Array Value) (w : World) : (callFunc 25 cap).run Try.prog w = .ok (.enter 25 cap) w := by kernel_rfl
theorem callFunc26 (cap : Array Value) (w : World) : (callFunc 26 cap).run Try.prog w = .ok (.enter 26 cap) w := by kernel_rfl

theorem pi_undoes (B : Nat) (K : PBlk) (X : PFix) (ex : List (Nat × Value × TypeId)) (hex : ∀ x ∈ ex, x.2.2 ≠ 1 ∧ x.2.2 ≠ 29) (hK : (PKeys K ex).Nodup) : Undoes B X.jb (PI K X ex) (VG (PKeys K ex)) := by
  refine ⟨fun us => ?_, fun us => ?_, fun us u w1 hJ hI => ?_⟩
  · refine ⟨?_, ?_⟩
    · rintro w k ⟨c, h1, h3, h4⟩ hk; exact (pvars_framed _ _ _ _).inn w k h4 hk
    · rintro w w' ⟨c, h1, h3, h4⟩ hk
      have r := (pvars_framed _ _ _ _).fr w w' h4 hk
      exact ⟨⟨c, h1, h3, r.1⟩, r.2⟩
  · rintro w k ⟨c, h1, h3, h4⟩ hk
    exact pvars_apart _ _ _ _ hex w k h4 hk
  · obtain ⟨c, h1, h3, h4⟩ := hI
    rcases h3 with h3 | ⟨h3, _⟩
    · rcases Nat.eq_zero_or_pos c with h0 | h0
      · subst h0
        have h5 : us ++ [u] = [] ++ [F21] := by simpa using h3
        obtain ⟨rfl, h6⟩ := List.append_inj' h5 rfl
        simp only [List.cons.injEq, and_true] at h6
        refine ⟨21, #[], h6, callFunc21 _, (undo21 w1).mono ?_⟩
        rintro e w' ⟨rfl, rfl⟩
        exact ⟨rfl, hJ, ⟨0, by omega, .inr ⟨rfl, rfl⟩, h4⟩, Dyn.refl _ _⟩
      · obtain ⟨c, rfl⟩ : ∃ m, c = m + 1 := ⟨c - 1, by omega⟩
        rw [List.replicate_succ', ← List.cons_append] at h3
        obtain ⟨rfl, h6⟩ := List.append_inj' h3 rfl
        simp only [List.cons.injEq, and_true] at h6
        have hn : VarAt K.n (.int .i64 ((c + 1 : Nat) : Int)) 3 w1 := h4 (K.n, .int .i64 ((c + 1 : Nat) : Int), 3) (by simp [PBlk.vars])
        refine ⟨26, _, h6, callFunc26 _, ?_⟩
        refine (undo26 _ _ w1 (by omega) hn).mono ?_
        rintro e w' ⟨rfl, rfl⟩
        obtain ⟨s1, s2⟩ := vars_step (v' := .int .i64 (((c + 1 : Nat) : Int) - 1)) (ks := PKeys K ex) hJ hn (by decide) (by decide) (by simp [PKeys, PBlk.keys])
        refine ⟨rfl, s1, ⟨c, by omega, .inl rfl, ?_⟩, s2⟩
        have := pvars_setN hK h4 (((c + 1 : Nat) : Int) - 1)
        have e : ((c + 1 : Nat) : Int) - 1 = (c : Int) := by omega
        rw [e] at this ⊢
        exact this
    · simp at h3

/-- How 'down' ends: with the panic, the journal and the counter as they were. -/
def DownEnds (B : Nat) (K : PBlk) (X : PFix) (us : List Value) (c : Nat) (e : Ending) (w : World) : Prop :=
  (∃ older, e = .panicked ({ v := .iface 3 (.int .i64 X.val), recovered := false } :: older) ∧ ∀ x ∈ older, x.goexit = false) ∧ JAt B X.jb us false w ∧ Vars (K.vars X c []) w

/-- 'down' from place i on. -/
def DownSpec (B : Nat) (K : PBlk) (X : PFix) (W0 : World) (i : Nat) : Prop :=
  ∀ w c, Below B W0 w → c ≤ 20 * i → JAt B X.jb (F21 :: List.replicate c (F26 K)) false w → Vars (K.vars X c []) w →
    Calls Try.prog 24 #[.int .i64 i, .pointer (some ⟨K.r, 0, none⟩), .pointer (some ⟨K.v, 0, none⟩), .pointer (some ⟨K.j, 0, none⟩), .pointer (some ⟨K.n, 0, none⟩), .pointer (some ⟨K.d, 0, none⟩)] w fun e w' =>
      Dyn (U X.jb (VG K.keys)) w w' ∧ DownEnds B K X (F21 :: List.replicate c (F26 K)) c e w'

/-- A step beside one variable more, which stands still. -/
theorem dyn_more {jb : Nat} {B : Nat} {us : List Value} {K : PBlk} {X : PFix} {ib : Nat} {iv : Value} {w w' : World} (hv : VarAt ib iv 3 w) (hjb : jb = X.jb) (hJ : JAt B X.jb us false w) (hd : Dyn (U jb (VG K.keys)) w w') (hn : ib ∉ K.keys) :
    Dyn (U jb (VG (PKeys K [(ib, iv, 3)]))) w w' ∧ VarAt ib iv 3 w' := by
  subst hjb
  have hnu : ¬ U X.jb (VG K.keys) w ib := by
    rintro (h | h)
    · exact jf_type hJ hv (by decide) (by decide) h
    · exact hn h
  refine ⟨⟨hd.os, hd.tape, hd.output, hd.size, fun k hk hx => hd.block k hk (fun h => hx (h.imp id (fun h => by simp [VG, PKeys]; exact .inl h))), fun k hk hf => ?_⟩, (hd.block ib (heap_lt hv) hnu).trans hv⟩
  rcases hf with hf | hf
  · exact (hd.foot k hk (.inl hf)).imp id (fun h => by simp [VG, PKeys]; exact .inl h)
  · simp only [VG, PKeys, List.map_cons, List.map_nil, List.mem_append, List.mem_singleton] at hf
    rcases hf with hf | hf
    · exact (hd.foot k hk (.inr hf)).imp id (fun h => by simp [VG, PKeys]; exact .inl h)
    · exact .inr (by simp [VG, PKeys, hf])

end Go.Proofs.Ytekddnnclbnagaa
