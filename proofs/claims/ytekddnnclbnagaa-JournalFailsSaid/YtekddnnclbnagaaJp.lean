/- JournalFails: the outer act, and the walk. -/
import Derived.Test.YtekddnnclbnagaaJo
namespace Go.Proofs.Ytekddnnclbnagaa
open Go.RowKit

theorem fvars_setR {K : FBlk} {jb : Nat} {ev : Int} {bv iv : Nat} {nv : Int} {av : Bool} {rv : Int} {w : World} (hK : K.keys.Nodup) (h : Vars (K.vars jb ev bv iv nv av rv) w) (y : Int) :
    Vars (K.vars jb ev bv iv nv av y) (w.setCell ⟨K.r, 0, none⟩ (.int .i64 y)) := by
  refine vars_store h (h (K.r, .int .i64 rv, 33) (by simp [FBlk.vars])) ?_
  simp only [FBlk.keys, List.nodup_cons, List.mem_cons, not_or] at hK
  intro x hx
  simp only [FBlk.vars, List.mem_cons, List.not_mem_nil, or_false] at hx ⊢
  obtain ⟨⟨_, _, _, _, _, k1, _⟩, ⟨_, _, _, _, k2, _⟩, ⟨_, _, _, k3, _⟩, ⟨_, _, k4, _⟩, ⟨_, k5, _⟩, ⟨k6, _⟩, _⟩ := hK
  rcases hx with rfl | rfl | rfl | rfl | rfl | rfl | rfl
  · exact .inl ⟨by simp, k1⟩
  · exact .inl ⟨by simp, k2⟩
  · exact .inl ⟨by simp, k3⟩
  · exact .inl ⟨by simp, k4⟩
  · exact .inl ⟨by simp, k5⟩
  · exact .inl ⟨by simp, k6⟩
  · exact .inr rfl

theorem fvars_setA {K : FBlk} {jb : Nat} {ev : Int} {bv iv : Nat} {nv : Int} {av : Bool} {rv : Int} {w : World} (hK : K.keys.Nodup) (h : Vars (K.vars jb ev bv iv nv av rv) w) (y : Bool) :
    Vars (K.vars jb ev bv iv nv y rv) (w.setCell ⟨K.a, 0, none⟩ (.bool y)) := by
  refine vars_store h (h (K.a, .bool av, 4) (by simp [FBlk.vars])) ?_
  simp only [FBlk.keys, List.nodup_cons, List.mem_cons, not_or] at hK
  intro x hx
  simp only [FBlk.vars, List.mem_cons, List.not_mem_nil, or_false] at hx ⊢
  obtain ⟨⟨_, _, _, _, k1, _⟩, ⟨_, _, _, k2, _⟩, ⟨_, _, k3, _⟩, ⟨_, k4, _⟩, ⟨k5, _⟩, ⟨k6, _⟩, _⟩ := hK
  rcases hx with rfl | rfl | rfl | rfl | rfl | rfl | rfl
  · exact .inl ⟨by simp, k1⟩
  · exact .inl ⟨by simp, k2⟩
  · exact .inl ⟨by simp, k3⟩
  · exact .inl ⟨by simp, k4⟩
  · exact .inl ⟨by simp, k5⟩
  · exact .inr rfl
  · exact .inl ⟨by simp, fun e => k6 e.symm⟩

set_option maxHeartbeats 2000000 in
theorem act27 (er : Int) (ev : Int) (hfail : ∀ w, Calls Try.prog 31 #[.int .i64 ev] w fun e w' => e = .panicked [{ v := .iface 63 (.agg #[.int .i64 er]), recovered := false }] ∧ w = w') (B jb : Nat) (K : FBlk) (hK : K.keys.Nodup) (bv iv : Nat) (hbv : bv ≤ 255) (hiv : iv ≤ 255) (p : Nat) (hpb : p = bv % 21) (w : World)
    (hJ : JAt B jb [] false w) (hV : Vars (K.vars jb ev bv iv 0 false 0) w) :
    Calls Try.prog 27 #[.pointer (some ⟨K.b, 0, none⟩), .pointer (some ⟨K.n, 0, none⟩), .pointer (some ⟨K.j, 0, none⟩), .pointer (some ⟨K.i, 0, none⟩), .pointer (some ⟨K.e, 0, none⟩), .pointer (some ⟨K.r, 0, none⟩), .pointer (some ⟨K.a, 0, none⟩)] w fun e w' => Dyn (U jb (VG K.keys)) w w' ∧
      ActEnds B jb (VG K.keys) 0 (fun w => JAt B jb (List.replicate p (F28 K)) false w ∧ Vars (K.vars jb ev bv iv p true er) w) (fun _ _ => False) (fun _ _ _ => False) e w' := by
  have hp : p ≤ 20 := by omega
  have hnn : ((bv : Int) % 21) = (p : Int) := by omega
  clear hpb
  have ci := vcell hV K.b (.int .u8 bv) 5 (by simp [FBlk.vars])
  have S0 := Lib.hid (show FRec B jb K ev bv iv false 0 w false 0 p p (.int .i64 0) w from ⟨0, by omega, rfl, by simpa using ⟨hJ, hV⟩, Dyn.refl _ _⟩)
  have hmf := makeFunc_run
  have HF := Lib.hid hfail
  clear hJ hV hfail
  go_enter Try.func27, Try.ntmps27
  go_wp2
  simp only [hnn]
  go_loopg [10] p (fun g v wr => FRec B jb K ev bv iv false 0 w false 0 p g v wr)
  case atStart => exact S0.out
  case round =>
    obtain ⟨q, hq, rfl, hR, hD⟩ := hrel
    simp only [Bool.false_eq_true, if_false] at hR
    obtain ⟨hJ, hV⟩ := hR
    have cn := vcell hV K.n (.int .i64 q) 3 (by simp [FBlk.vars])
    have zn := vfroz hV K.n (.int .i64 q) 3 (by simp [FBlk.vars])
    have HD := Lib.hid hD
    by_cases h0 : gk = 0
    · subst h0
      obtain rfl : q = p := by omega
      have cj := vcell hV K.j (.pointer (some ⟨jb, 0, none⟩)) 26 (by simp [FBlk.vars])
      have A := Lib.hid (attempt_any B jb _ _ (fvars_framed K jb ev bv iv q false 0) wr _ hJ hV (by simp; omega) 29 _ (callFunc29 #[.pointer (some ⟨K.i, 0, none⟩), .pointer (some ⟨K.n, 0, none⟩), .pointer (some ⟨K.j, 0, none⟩), .pointer (some ⟨K.e, 0, none⟩)]) _ _ _
        (fun w1 j1 t1 _ => by rw [List.length_replicate]; exact act29 er ev HF.out B jb K hK bv iv hiv 0 q hp w1 j1 t1))
      clear hJ hV hD hq
      go_wp2_with (go_at_call 13; refine A.out.mono ?_)
      rintro e w2 ⟨d2, hatt⟩
      obtain ⟨rfl, j2, v2⟩ : e = .returned (.int .i64 er) ∧ JAt B jb (List.replicate q (F28 K)) false w2 ∧ Vars (K.vars jb ev bv iv q false 0) w2 := by
        rcases hatt with ⟨_, F⟩ | ⟨x, rfl, rfl, j1, t1⟩ | ⟨_, _, _, F⟩
        · exact F.elim
        · exact ⟨rfl, j1, t1⟩
        · exact F.elim
      have cr := vcell v2 K.r (.int .i64 0) 33 (by simp [FBlk.vars])
      have zr := vfroz v2 K.r (.int .i64 0) 33 (by simp [FBlk.vars])
      have hvr : VarAt K.r (.int .i64 0) 33 w2 := v2 (K.r, .int .i64 0, 33) (by simp [FBlk.vars])
      obtain ⟨s1, s2⟩ := vars_step (v' := .int .i64 er) (ks := K.keys) j2 hvr (by decide) (by decide) (by simp [FBlk.keys])
      have s3 := fvars_setR hK v2 er
      have ca := vcell s3 K.a (.bool false) 4 (by simp [FBlk.vars])
      have za := vfroz s3 K.a (.bool false) 4 (by simp [FBlk.vars])
      have hva : VarAt K.a (.bool false) 4 (w2.setCell ⟨K.r, 0, none⟩ (.int .i64 er)) := s3 (K.a, .bool false, 4) (by simp [FBlk.vars])
      obtain ⟨s4, s5⟩ := vars_step (v' := .bool true) (ks := K.keys) s1 hva (by decide) (by decide) (by simp [FBlk.keys])
      have s6 := fvars_setA hK s3 true
      have E := Lib.hid (show Dyn (U jb (VG K.keys)) w _ ∧ _ ∧ _ from ⟨((HD.out.trans d2).trans s2).trans s5, s4, s6⟩)
      clear hatt d2 j2 v2 hvr s1 s2 s3 hva s4 s5 s6 A cn zn cj
      go_wp2
      go_end0
      exact ⟨E.out.1, .inl ⟨_, _, fvars_framed K jb ev bv iv q true er, E.out.2.1, E.out.2.2, rfl, fun w' j i => ⟨j, i⟩⟩⟩
    · obtain ⟨m, rfl⟩ : ∃ m, gk = m + 1 := ⟨gk - 1, by omega⟩
      have hvn : VarAt K.n (.int .i64 q) 3 wr := hV (K.n, .int .i64 q, 3) (by simp [FBlk.vars])
      obtain ⟨s1, s2⟩ := vars_step (v' := .int .i64 ((q : Int) + 1)) (ks := K.keys) hJ hvn (by decide) (by decide) (by simp [FBlk.keys])
      have s3 := fvars_setN hK hV ((q : Int) + 1)
      have cj := vcell s3 K.j (.pointer (some ⟨jb, 0, none⟩)) 26 (by simp [FBlk.vars])
      have R := Lib.hid (record_any B jb (.func 28) #[] #[.pointer (some ⟨K.n, 0, none⟩)] _ _ s1 (by simp; omega))
      have hlt : q < p := by omega
      have S1 := Lib.hid s1
      have S2 := Lib.hid s2
      have S3 := Lib.hid s3
      have HQ := Lib.hid hq
      clear s1 s2 s3 hJ hV hD hq hvn
      go_wp2_with (go_at_call 19; refine R.out.mono ?_)
      rintro e w2 ⟨rfl, j2, d2⟩
      obtain ⟨d3, l3⟩ := d2.left (fvars_framed _ _ _ _ _ _ _ _) S3.out ((fvars_apart _ _ _ _ _ _ _ _).ne S1.out S3.out)
      have H5 := Lib.hid (show FRec B jb K ev bv iv false 0 w false 0 p m (.int .i64 ((q : Int) + 1)) w2 from
        ⟨q + 1, by have := HQ.out; omega, by congr 1, by
          simp only [Bool.false_eq_true, if_false]
          refine ⟨by rw [List.replicate_succ']; exact j2, ?_⟩
          have e : (q : Int) + 1 = ((q + 1 : Nat) : Int) := by omega
          rw [e] at l3; exact l3, (HD.out.trans S2.out).trans d3⟩)
      clear j2 d2 d3 l3
      go_wp2
      go_roundg m
      case measure => omega
      case rel => exact H5.out

end Go.Proofs.Ytekddnnclbnagaa
