/- Lists of variables; JournalFails: the undo functions. -/
import Derived.Test.YtekddnnclbnagaaJj
namespace Go.Proofs.Ytekddnnclbnagaa
open Go.RowKit

/-- A list of variables: block, value, type. -/
def Vars (l : List (Nat × Value × TypeId)) (w : World) : Prop := ∀ x ∈ l, VarAt x.1 x.2.1 x.2.2 w
def VG (ks : List Nat) (_ : World) (k : Nat) : Prop := k ∈ ks

theorem vars_framed (l : List (Nat × Value × TypeId)) (ks : List Nat) (h : l.map (·.1) = ks) : Framed (Vars l) (VG ks) := by
  subst h
  refine ⟨fun w k hv hk => ?_, fun w w' hv hk => ⟨fun x hx => (hk x.1 (List.mem_map_of_mem hx)).trans (hv x hx), fun _ h => h⟩⟩
  obtain ⟨x, hx, rfl⟩ := List.mem_map.1 hk
  exact heap_lt (hv x hx)

theorem vars_apart (l : List (Nat × Value × TypeId)) (ks : List Nat) (h : l.map (·.1) = ks) (ht : ∀ x ∈ l, x.2.2 ≠ 1 ∧ x.2.2 ≠ 29) : Apart (Vars l) (VG ks) := by
  subst h
  intro w k hv hk
  obtain ⟨x, hx, rfl⟩ := List.mem_map.1 hk
  exact ⟨_, _, _, hv x hx, ht x hx⟩

theorem vars_store {l l' : List (Nat × Value × TypeId)} {w : World} {b : Nat} {v v' : Value} {e : TypeId} (h : Vars l w) (hb : VarAt b v e w) (hl : ∀ x ∈ l', (x ∈ l ∧ x.1 ≠ b) ∨ x = (b, v', e)) : Vars l' (w.setCell ⟨b, 0, none⟩ v') := by
  intro x hx
  rcases hl x hx with ⟨h1, h2⟩ | rfl
  · exact setCell_heap_ne (h x h1) h2 _
  · show _ = _; rw [setCell_heap hb]; rfl

/-- A store into one of the variables, beside the journal. -/
theorem vars_step {B jb : Nat} {us : List Value} {bz : Bool} {ks : List Nat} {w : World} {b : Nat} {v v' : Value} {e : TypeId} (hJ : JAt B jb us bz w) (hb : VarAt b v e w) (h1 : e ≠ 1) (h2 : e ≠ 29) (hk : b ∈ ks) :
    JAt B jb us bz (w.setCell ⟨b, 0, none⟩ v') ∧ Dyn (U jb (VG ks)) w (w.setCell ⟨b, 0, none⟩ v') := by
  have hn : ¬ JF jb w b := jf_type hJ hb h1 h2
  have hs : ∀ q, JF jb w q → (w.setCell ⟨b, 0, none⟩ v').heap[q]? = w.heap[q]? := fun q hq => Below.heap_setCell _ _ _ _ (by rintro rfl; exact hn hq)
  have hf := (jat_framed B jb us bz).fr w _ hJ hs
  exact ⟨hf.1, Dyn.store (.inr hk) (fun q hq => hq.imp (hf.2 q) id)⟩

structure FBlk where
  (e b i j n a r : Nat)

def FBlk.keys (K : FBlk) : List Nat := [K.e, K.b, K.i, K.j, K.n, K.a, K.r]
def FBlk.vars (K : FBlk) (jb : Nat) (ev : Int) (bv iv : Nat) (nv : Int) (av : Bool) (rv : Int) : List (Nat × Value × TypeId) :=
  [(K.e, .int .i64 ev, 3), (K.b, .int .u8 bv, 5), (K.i, .int .u8 iv, 5), (K.j, .pointer (some ⟨jb, 0, none⟩), 26), (K.n, .int .i64 nv, 3), (K.a, .bool av, 4), (K.r, .int .i64 rv, 33)]

theorem fvars_framed (K : FBlk) (jb : Nat) (ev : Int) (bv iv : Nat) (nv : Int) (av : Bool) (rv : Int) : Framed (Vars (K.vars jb ev bv iv nv av rv)) (VG K.keys) := vars_framed _ _ rfl
theorem fvars_apart (K : FBlk) (jb : Nat) (ev : Int) (bv iv : Nat) (nv : Int) (av : Bool) (rv : Int) : Apart (Vars (K.vars jb ev bv iv nv av rv)) (VG K.keys) :=
  vars_apart _ _ rfl (by simp [FBlk.vars])

def F28 (K : FBlk) : Value := .func (.func 28) #[] #[.pointer (some ⟨K.n, 0, none⟩)]
def F30 (K : FBlk) : Value := .func (.func 30) #[] #[.pointer (some ⟨K.n, 0, none⟩)]

def FI (K : FBlk) (jb : Nat) (ev : Int) (bv iv : Nat) (av : Bool) (rv : Int) (us : List Value) (w : World) : Prop :=
  ∃ p q, p ≤ 20 ∧ q ≤ 20 ∧ us = List.replicate p (F28 K) ++ List.replicate q (F30 K) ∧ Vars (K.vars jb ev bv iv ((p : Int) + 100 * q) av rv) w

theorem undoN (f : Nat) (c : Int) (nb : Nat) (x : Int) (w : World) (hx : -1000000 < x ∧ x < 1000000) (h : VarAt nb (.int .i64 x) 3 w) (hf : (f = 28 ∧ c = 1) ∨ (f = 30 ∧ c = 100)) :
    Calls Try.prog f #[.pointer (some ⟨nb, 0, none⟩)] w fun e w' => e = .returned (.tuple #[]) ∧ w.setCell ⟨nb, 0, none⟩ (.int .i64 (x - c)) = w' := by
  have hc : w.cell? ⟨nb, 0, none⟩ = some (.int .i64 x) := by rw [cell_of_heap h]; rfl
  have hz := frozen_of_heap h 0
  clear h
  obtain ⟨hx1, hx2⟩ := hx
  rcases hf with ⟨rfl, rfl⟩ | ⟨rfl, rfl⟩
  · go_enter Try.func28, Try.ntmps28
    go_wp2
    go_end0
    exact ⟨rfl, rfl⟩
  · go_enter Try.func30, Try.ntmps30
    go_wp2
    go_end0
    exact ⟨rfl, rfl⟩

theorem callFunc28 (cap : Array Value) (w : World) : (callFunc 28 cap).run Try.prog w = .ok (.enter 28 cap) w := by kernel_rfl
theorem callFunc30 (cap : Array Value) (w : World) : (callFunc 30 cap).run Try.prog w = .ok (.enter 30 cap) w := by kernel_rfl
theorem callFunc27 (cap : Array Value) (w : World) : (callFunc 27 cap).run Try.prog w = .ok (.enter 27 cap) w := by kernel_rfl
theorem callFunc29 (cap : Array Value) (w : World) : (callFunc 29 cap).run Try.prog w = .ok (.enter 29 cap) w := by kernel_rfl

theorem fvars_setN {K : FBlk} {jb : Nat} {ev : Int} {bv iv : Nat} {nv : Int} {av : Bool} {rv : Int} {w : World} (hK : K.keys.Nodup) (h : Vars (K.vars jb ev bv iv nv av rv) w) (y : Int) :
    Vars (K.vars jb ev bv iv y av rv) (w.setCell ⟨K.n, 0, none⟩ (.int .i64 y)) := by
  refine vars_store h (h (K.n, .int .i64 nv, 3) (by simp [FBlk.vars])) ?_
  simp only [FBlk.keys, List.nodup_cons, List.mem_cons, not_or] at hK
  intro x hx
  simp only [FBlk.vars, List.mem_cons, List.not_mem_nil, or_false] at hx ⊢
  obtain ⟨⟨_, _, _, k1, _⟩, ⟨_, _, k2, _⟩, ⟨_, k3, _⟩, ⟨k4, _⟩, ⟨k5, k6, _⟩, _⟩ := hK
  rcases hx with rfl | rfl | rfl | rfl | rfl | rfl | rfl
  · exact .inl ⟨by simp, k1⟩
  · exact .inl ⟨by simp, k2⟩
  · exact .inl ⟨by simp, k3⟩
  · exact .inl ⟨by simp, k4⟩
  · exact .inr rfl
  · exact .inl ⟨by simp, fun e => k5 e.symm⟩
  · exact .inl ⟨by simp, fun e => k6 e.symm⟩

theorem fi_undoes (B jb : Nat) (K : FBlk) (hK : K.keys.Nodup) (ev : Int) (bv iv : Nat) (av : Bool) (rv : Int) : Undoes B jb (FI K jb ev bv iv av rv) (VG K.keys) := by
  refine ⟨fun us => ?_, fun us => ?_, fun us u w1 hJ hI => ?_⟩
  · refine ⟨?_, ?_⟩
    · rintro w k ⟨p, q, h1, h2, h3, h4⟩ hk; exact (fvars_framed _ _ _ _ _ _ _ _).inn w k h4 hk
    · rintro w w' ⟨p, q, h1, h2, h3, h4⟩ hk
      have r := (fvars_framed _ _ _ _ _ _ _ _).fr w w' h4 hk
      exact ⟨⟨p, q, h1, h2, h3, r.1⟩, r.2⟩
  · rintro w k ⟨p, q, h1, h2, h3, h4⟩ hk
    exact fvars_apart _ _ _ _ _ _ _ _ w k h4 hk
  · obtain ⟨p, q, h1, h2, h3, h4⟩ := hI
    have hn : VarAt K.n (.int .i64 ((p : Int) + 100 * q)) 3 w1 := h4 (K.n, .int .i64 ((p : Int) + 100 * q), 3) (by simp [FBlk.vars])
    have hstep := fun y => vars_step (v' := .int .i64 y) (ks := K.keys) hJ hn (by decide) (by decide) (by simp [FBlk.keys])
    rcases Nat.eq_zero_or_pos q with h0 | h0
    · subst h0
      rcases Nat.eq_zero_or_pos p with h5 | h5
      · subst h5; simp at h3
      · obtain ⟨p, rfl⟩ : ∃ m, p = m + 1 := ⟨p - 1, by omega⟩
        simp only [List.replicate_zero, List.append_nil, List.replicate_succ'] at h3
        obtain ⟨rfl, h6⟩ := List.append_inj' h3 rfl
        simp only [List.cons.injEq, and_true] at h6
        refine ⟨28, _, h6, callFunc28 _, ?_⟩
        refine (undoN 28 1 _ _ w1 (by omega) hn (.inl ⟨rfl, rfl⟩)).mono ?_
        rintro e w' ⟨rfl, rfl⟩
        obtain ⟨s1, s2⟩ := hstep (((p + 1 : Nat) : Int) + 100 * ((0 : Nat) : Int) - 1)
        refine ⟨rfl, s1, ⟨p, 0, by omega, by omega, by simp, ?_⟩, s2⟩
        have := fvars_setN hK h4 (((p + 1 : Nat) : Int) + 100 * ((0 : Nat) : Int) - 1)
        have e : ((p + 1 : Nat) : Int) + 100 * ((0 : Nat) : Int) - 1 = (p : Int) + 100 * ((0 : Nat) : Int) := by omega
        rw [e] at this ⊢
        exact this
    · obtain ⟨q, rfl⟩ : ∃ m, q = m + 1 := ⟨q - 1, by omega⟩
      rw [List.replicate_succ', ← List.append_assoc] at h3
      obtain ⟨rfl, h6⟩ := List.append_inj' h3 rfl
      simp only [List.cons.injEq, and_true] at h6
      refine ⟨30, _, h6, callFunc30 _, ?_⟩
      refine (undoN 30 100 _ _ w1 (by omega) hn (.inr ⟨rfl, rfl⟩)).mono ?_
      rintro e w' ⟨rfl, rfl⟩
      obtain ⟨s1, s2⟩ := hstep ((p : Int) + 100 * ((q + 1 : Nat) : Int) - 100)
      refine ⟨rfl, s1, ⟨p, q, by omega, by omega, rfl, ?_⟩, s2⟩
      have := fvars_setN hK h4 ((p : Int) + 100 * ((q + 1 : Nat) : Int) - 100)
      have e : (p : Int) + 100 * ((q + 1 : Nat) : Int) - 100 = (p : Int) + 100 * (q : Int) := by omega
      rw [e] at this ⊢
      exact this

/-- The recording loops of JournalFails. -/
def FRec (B jb : Nat) (K : FBlk) (ev : Int) (bv iv : Nat) (av : Bool) (rv : Int) (W : World) (inner : Bool) (p n g : Nat) (v : Value) (wr : World) : Prop :=
  ∃ q, q + g = n ∧ v = .int .i64 ((q : Nat) : Int) ∧
    (if inner then JAt B jb (List.replicate p (F28 K) ++ List.replicate q (F30 K)) false wr ∧ Vars (K.vars jb ev bv iv ((p : Int) + 100 * q) av rv) wr
      else JAt B jb (List.replicate q (F28 K)) false wr ∧ Vars (K.vars jb ev bv iv q av rv) wr) ∧ Dyn (U jb (VG K.keys)) W wr

theorem vcell {l : List (Nat × Value × TypeId)} {w : World} (h : Vars l w) (b : Nat) (v : Value) (e : TypeId) (hm : (b, v, e) ∈ l) : w.cell? ⟨b, 0, none⟩ = some v := by
  rw [cell_of_heap (h _ hm)]; rfl
theorem vfroz {l : List (Nat × Value × TypeId)} {w : World} (h : Vars l w) (b : Nat) (v : Value) (e : TypeId) (hm : (b, v, e) ∈ l) : w.frozen? ⟨b, 0, none⟩ = false :=
  frozen_of_heap (h _ hm) 0

theorem fne {K : FBlk} (hK : K.keys.Nodup) : K.n ≠ K.j := by
  simp only [FBlk.keys, List.nodup_cons, List.mem_cons, not_or] at hK
  exact fun e => hK.2.2.2.1.1 e.symm

theorem fi_pure {K : FBlk} {jb : Nat} {ev : Int} {bv iv : Nat} {av : Bool} {rv : Int} {p : Nat} {w : World} (h : FI K jb ev bv iv av rv (List.replicate p (F28 K)) w) : Vars (K.vars jb ev bv iv p av rv) w := by
  obtain ⟨p', q', h1, h2, h3, h4⟩ := h
  have hl := congrArg List.length h3
  simp at hl
  rcases Nat.eq_zero_or_pos q' with h0 | h0
  · subst h0
    obtain rfl : p = p' := by omega
    simpa using h4
  · obtain ⟨q, rfl⟩ : ∃ m, q' = m + 1 := ⟨q' - 1, by omega⟩
    have : F30 K ∈ List.replicate p (F28 K) := by rw [h3]; simp
    have := List.eq_of_mem_replicate this
    simp [F28, F30] at this

set_option maxHeartbeats 2000000 in
theorem act29 (er : Int) (ev : Int) (hfail : ∀ w, Calls Try.prog 31 #[.int .i64 ev] w fun e w' => e = .panicked [{ v := .iface 63 (.agg #[.int .i64 er]), recovered := false }] ∧ w = w') (B jb : Nat) (K : FBlk) (hK : K.keys.Nodup) (bv iv : Nat) (hiv : iv ≤ 255) (rv : Int) (p : Nat) (hp : p ≤ 20) (w : World) (hJ : JAt B jb (List.replicate p (F28 K)) false w) (hV : Vars (K.vars jb ev bv iv p false rv) w) :
    Calls Try.prog 29 #[.pointer (some ⟨K.i, 0, none⟩), .pointer (some ⟨K.n, 0, none⟩), .pointer (some ⟨K.j, 0, none⟩), .pointer (some ⟨K.e, 0, none⟩)] w fun e w' => Dyn (U jb (VG K.keys)) w w' ∧
      ActEnds B jb (VG K.keys) p (fun _ => False) (fun x w => x = er ∧ JAt B jb (List.replicate p (F28 K)) false w ∧ Vars (K.vars jb ev bv iv p false rv) w) (fun _ _ _ => False) e w' := by
  obtain ⟨n, hn⟩ : ∃ n, n = iv % 21 := ⟨_, rfl⟩
  have hn2 : n ≤ 20 := by omega
  have hnn : ((iv : Int) % 21) = (n : Int) := by omega
  clear hn
  have ci := vcell hV K.i (.int .u8 iv) 5 (by simp [FBlk.vars])
  have S0 := Lib.hid (show FRec B jb K ev bv iv false rv w true p n n (.int .i64 0) w from ⟨0, by omega, rfl, by simpa using ⟨hJ, hV⟩, Dyn.refl _ _⟩)
  have hmf := makeFunc_run
  have HF := Lib.hid hfail
  clear hJ hV hfail
  go_enter Try.func29, Try.ntmps29
  go_wp2
  simp only [hnn]
  go_loopg [7] n (fun g v wr => FRec B jb K ev bv iv false rv w true p n g v wr)
  case atStart => exact S0.out
  case round =>
    obtain ⟨q, hq, rfl, hR, hD⟩ := hrel
    simp only [if_true] at hR
    obtain ⟨hJ, hV⟩ := hR
    have cn := vcell hV K.n (.int .i64 ((p : Int) + 100 * q)) 3 (by simp [FBlk.vars])
    have zn := vfroz hV K.n (.int .i64 ((p : Int) + 100 * q)) 3 (by simp [FBlk.vars])
    have HD := Lib.hid hD
    by_cases h0 : gk = 0
    · subst h0
      obtain rfl : q = n := by omega
      have ce := vcell hV K.e (.int .i64 ev) 3 (by simp [FBlk.vars])
      have HJ := Lib.hid hJ
      have HV := Lib.hid hV
      clear hJ hV hD hq
      go_wp2_with (go_at_call 31; refine (HF.out _).mono ?_; rintro e w' ⟨rfl, rfl⟩)
      refine ⟨rfl, HD.out, .inr ⟨_, FI K jb ev bv iv false rv, fi_undoes B jb K hK ev bv iv false rv, by simp; omega, HJ.out, ⟨p, q, hp, hn2, rfl, HV.out⟩, .inl ⟨_, rfl, fun w' j i => ⟨rfl, ?_⟩⟩⟩⟩
      have hm : min p (List.replicate p (F28 K) ++ List.replicate q (F30 K)).length = p := by simp
      rw [hm, List.take_left' (by simp)] at j i
      refine ⟨j, ?_⟩
      exact fi_pure i
    · obtain ⟨m, rfl⟩ : ∃ m, gk = m + 1 := ⟨gk - 1, by omega⟩
      have hvn : VarAt K.n (.int .i64 ((p : Int) + 100 * q)) 3 wr := hV (K.n, .int .i64 ((p : Int) + 100 * q), 3) (by simp [FBlk.vars])
      obtain ⟨s1, s2⟩ := vars_step (v' := .int .i64 ((p : Int) + 100 * q + 100)) (ks := K.keys) hJ hvn (by decide) (by decide) (by simp [FBlk.keys])
      have s3 := fvars_setN hK hV ((p : Int) + 100 * q + 100)
      have cj := vcell s3 K.j (.pointer (some ⟨jb, 0, none⟩)) 26 (by simp [FBlk.vars])
      have R := Lib.hid (record_any B jb (.func 30) #[] #[.pointer (some ⟨K.n, 0, none⟩)] _ _ s1 (by simp; omega))
      have hlt : q < n := by omega
      have S1 := Lib.hid s1
      have S2 := Lib.hid s2
      have S3 := Lib.hid s3
      have HQ := Lib.hid hq
      clear s1 s2 s3 hJ hV hD hq hvn
      go_wp2_with (go_at_call 19; refine R.out.mono ?_)
      rintro e w2 ⟨rfl, j2, d2⟩
      obtain ⟨d3, l3⟩ := d2.left (fvars_framed _ _ _ _ _ _ _ _) S3.out ((fvars_apart _ _ _ _ _ _ _ _).ne S1.out S3.out)
      have H5 := Lib.hid (show FRec B jb K ev bv iv false rv w true p n m (.int .i64 ((q : Int) + 1)) w2 from
        ⟨q + 1, by have := HQ.out; omega, by congr 1, by
          simp only [if_true]
          refine ⟨by rw [List.replicate_succ', ← List.append_assoc]; exact j2, ?_⟩
          have e : (p : Int) + 100 * q + 100 = (p : Int) + 100 * ((q + 1 : Nat) : Int) := by omega
          rw [e] at l3; exact l3, (HD.out.trans S2.out).trans d3⟩)
      clear j2 d2 d3 l3
      go_wp2
      go_roundg m
      case measure => omega
      case rel => exact H5.out

end Go.Proofs.Ytekddnnclbnagaa
