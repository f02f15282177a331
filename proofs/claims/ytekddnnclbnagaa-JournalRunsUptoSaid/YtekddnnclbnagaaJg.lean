/- 'awake', which opens every law of this layer, answers true. -/
import Derived.Test.YtekddnnclbnagaaJf
namespace Go.Proofs.Ytekddnnclbnagaa
set_option linter.unusedSimpArgs false
set_option linter.unusedVariables false
open Go.RowKit

/-- A variable of another type than the journal's stands still while the journal steps. -/
theorem jvar {B jb : Nat} {us : List Value} {bz : Bool} {w w' : World} {b : Nat} {v : Value} {e : TypeId} (hJ : JAt B jb us bz w) (hd : Dyn (JF jb) w w') (h1 : e ≠ 1) (h2 : e ≠ 29) (hv : VarAt b v e w) : VarAt b v e w' := by
  unfold VarAt at *
  rw [hd.block b (heap_lt hv) (jf_type hJ hv h1 h2)]; exact hv

/-- A store into a variable: the journal, another variable. -/
theorem jat_setVar {B jb : Nat} {us : List Value} {bz : Bool} {w : World} {b : Nat} {v x : Value} {e : TypeId} (hJ : JAt B jb us bz w) (h1 : e ≠ 1) (h2 : e ≠ 29) (hv : VarAt b v e w) :
    JAt B jb us bz (w.setCell ⟨b, 0, none⟩ x) ∧ VarAt b x e (w.setCell ⟨b, 0, none⟩ x) ∧ (∀ b' v' e', b' ≠ b → VarAt b' v' e' w → VarAt b' v' e' (w.setCell ⟨b, 0, none⟩ x)) := by
  refine ⟨((jat_framed B jb us bz).fr w _ hJ fun k hk => Below.heap_setCell _ _ _ _ ?_).1, ?_, fun b' v' e' hne h => setCell_heap_ne h hne _⟩
  · rintro rfl; exact jf_type hJ hv h1 h2 hk
  · show _ = _; rw [setCell_heap hv]; rfl

/-- A step within the footprint of one more variable. -/
theorem dyn_setVar {F : World → Nat → Prop} {X : World → Prop} {w : World} {b : Nat} {x : Value} (hF : Framed X F) (hX : X w) (hn : ¬ F w b) : Dyn (fun w k => F w k ∨ k = b) w (w.setCell ⟨b, 0, none⟩ x) := by
  refine ⟨rfl, rfl, rfl, by simp [World.setCell], fun k _ hk => Below.heap_setCell _ _ _ _ (by rintro rfl; exact hk (.inr rfl)), fun k _ hf => ?_⟩
  refine hf.imp (fun h => (hF.fr w _ hX (fun k hk => Below.heap_setCell _ _ _ _ ?_)).2 k h) id
  rintro rfl; exact hn hk

/-- Two variables: the counter in block nb, the journal's pointer in block vb. -/
def TwoG (nb vb : Nat) (_ : World) (k : Nat) : Prop := k = nb ∨ k = vb

def TwoV (nb vb jb : Nat) (x : Int) (w : World) : Prop := VarAt nb (.int .i64 x) 3 w ∧ VarAt vb (.pointer (some ⟨jb, 0, none⟩)) 26 w

theorem two_framed (nb vb jb : Nat) (x : Int) : Framed (TwoV nb vb jb x) (TwoG nb vb) :=
  (var_framed nb (.int .i64 x) 3).both (var_framed vb (.pointer (some ⟨jb, 0, none⟩)) 26)

theorem two_apart (nb vb jb : Nat) (x : Int) : Apart (TwoV nb vb jb x) (TwoG nb vb) := by
  rintro w k ⟨h1, h2⟩ (rfl | rfl)
  · exact ⟨_, _, _, h1, by decide, by decide⟩
  · exact ⟨_, _, _, h2, by decide, by decide⟩

theorem two_ne {nb vb jb : Nat} {x : Int} {w : World} (h : TwoV nb vb jb x w) : nb ≠ vb := by
  rintro rfl
  have := h.1.symm.trans h.2
  simp at this

/-- The counter is written: all else stands. -/
theorem two_store {B jb nb vb : Nat} {us : List Value} {bz : Bool} {x : Int} (y : Int) {w : World} (hJ : JAt B jb us bz w) (h : TwoV nb vb jb x w) :
    JAt B jb us bz (w.setCell ⟨nb, 0, none⟩ (.int .i64 y)) ∧ TwoV nb vb jb y (w.setCell ⟨nb, 0, none⟩ (.int .i64 y)) ∧ Dyn (U jb (TwoG nb vb)) w (w.setCell ⟨nb, 0, none⟩ (.int .i64 y)) := by
  obtain ⟨h1, h2, h3⟩ := jat_setVar (x := .int .i64 y) hJ (by decide) (by decide) h.1
  refine ⟨h1, ⟨h2, h3 _ _ _ (two_ne h).symm h.2⟩, ⟨rfl, rfl, rfl, by simp [World.setCell], fun k _ hk => Below.heap_setCell _ _ _ _ (by rintro rfl; exact hk (.inr (.inl rfl))), fun k hk hf => ?_⟩⟩
  refine hf.imp (fun h' => ?_) id
  refine ((jat_framed B jb us bz).fr w _ hJ (fun k hk => Below.heap_setCell _ _ _ _ ?_)).2 k h'
  rintro rfl; exact jf_type hJ h.1 (by decide) (by decide) hk

/-- The journal steps: the variables stand. -/
theorem two_journal {B jb nb vb : Nat} {us : List Value} {bz : Bool} {x : Int} {w w' : World} (hJ : JAt B jb us bz w) (h : TwoV nb vb jb x w) (hd : Dyn (JF jb) w w') : TwoV nb vb jb x w' ∧ Dyn (U jb (TwoG nb vb)) w w' :=
  let r := hd.left (two_framed nb vb jb x) h ((two_apart nb vb jb x).ne hJ h)
  ⟨r.2, r.1⟩

theorem callFunc42 (cap : Array Value) (w : World) : (callFunc 42 cap).run Try.prog w = .ok (.enter 42 cap) w := by kernel_rfl
theorem callFunc41 (cap : Array Value) (w : World) : (callFunc 41 cap).run Try.prog w = .ok (.enter 41 cap) w := by kernel_rfl
theorem callFunc43 (cap : Array Value) (w : World) : (callFunc 43 cap).run Try.prog w = .ok (.enter 43 cap) w := by kernel_rfl

/-- The undo functions of awake's first act. -/
def I1 (nb vb jb : Nat) (us : List Value) (w : World) : Prop := TwoV nb vb jb (5 + us.length) w ∧ us.length ≤ 1 ∧ ∀ u ∈ us, u = .func (.func 42) #[] #[.pointer (some ⟨nb, 0, none⟩)]

theorem undo42 (nb : Nat) (x : Int) (hx : -1000000 < x ∧ x < 1000000) (w : World) (h : VarAt nb (.int .i64 x) 3 w) :
    Calls Try.prog 42 #[.pointer (some ⟨nb, 0, none⟩)] w fun e w' => e = .returned (.tuple #[]) ∧ w.setCell ⟨nb, 0, none⟩ (.int .i64 (x - 1)) = w' := by
  have hc : w.cell? ⟨nb, 0, none⟩ = some (.int .i64 x) := by rw [cell_of_heap h]; rfl
  have hz := frozen_of_heap h 0
  clear h
  obtain ⟨hx1, hx2⟩ := hx
  go_enter Try.func42, Try.ntmps42
  go_wp2
  go_end0
  exact ⟨rfl, rfl⟩

theorem undoes1 (B nb vb jb : Nat) : Undoes B jb (I1 nb vb jb) (TwoG nb vb) := by
  refine ⟨fun us => ?_, fun us => ?_, fun us u w1 hJ hI => ?_⟩
  · exact ⟨fun w k h hk => (two_framed nb vb jb _).inn w k h.1 hk, fun w w' h hk => ⟨⟨((two_framed nb vb jb _).fr w w' h.1 hk).1, h.2⟩, ((two_framed nb vb jb _).fr w w' h.1 hk).2⟩⟩
  · exact fun w k h hk => two_apart nb vb jb _ w k h.1 hk
  · obtain ⟨hT, hl, hu⟩ := hI
    refine ⟨42, #[.pointer (some ⟨nb, 0, none⟩)], hu u (by simp), callFunc42 _, ?_⟩
    simp only [List.length_append, List.length_cons, List.length_nil, Nat.zero_add] at hT hl
    refine (undo42 nb _ (by omega) w1 hT.1).mono ?_
    rintro e w' ⟨rfl, rfl⟩
    obtain ⟨p1, p2, p3⟩ := two_store (5 + (us.length : Int)) hJ hT
    have e : (5 + ((us.length + 1 : Nat) : Int)) - 1 = 5 + us.length := by omega
    rw [e]
    exact ⟨rfl, p1, ⟨p2, by omega, fun u hu' => hu u (by simp [hu'])⟩, p3⟩

set_option maxHeartbeats 1000000 in
theorem act41 (B nb vb jb : Nat) (w : World) (hJ : JAt B jb [] false w) (h : TwoV nb vb jb 5 w) :
    Calls Try.prog 41 #[.pointer (some ⟨nb, 0, none⟩), .pointer (some ⟨vb, 0, none⟩)] w fun e w' => Dyn (U jb (TwoG nb vb)) w w' ∧
      ActEnds B jb (TwoG nb vb) 0 (fun _ => False) (fun er w => er = 15 ∧ JAt B jb [] false w ∧ TwoV nb vb jb 5 w) (fun _ _ _ => False) e w' := by
  obtain ⟨p1, p2, p3⟩ := two_store 6 hJ h
  have hc : w.cell? ⟨nb, 0, none⟩ = some (.int .i64 5) := by rw [cell_of_heap h.1]; rfl
  have hz := frozen_of_heap h.1 0
  have hv : (w.setCell ⟨nb, 0, none⟩ (.int .i64 6)).cell? ⟨vb, 0, none⟩ = some (.pointer (some ⟨jb, 0, none⟩)) := by rw [cell_of_heap p2.2]; rfl
  have R := Lib.hid (record_any B jb (.func 42) #[] #[.pointer (some ⟨nb, 0, none⟩)] _ [] p1 (by simp))
  have P1 := Lib.hid p1
  have P2 := Lib.hid p2
  have P3 := Lib.hid p3
  clear p1 p2 p3 hJ h
  have hmf := makeFunc_run
  go_enter Try.func41, Try.ntmps41
  go_wp2_with (first | (go_at_call 19; refine R.out.mono ?_) | (go_at_call 31; refine (fail_any 15 _).mono ?_))
  rintro e w2 ⟨rfl, hJ2, hD2⟩
  obtain ⟨t2, d2⟩ := two_journal P1.out P2.out hD2
  have HJ2 := Lib.hid hJ2
  have HT2 := Lib.hid t2
  have HD2 := Lib.hid d2
  clear hJ2 t2 d2 hD2 hc hz hv
  go_wp2_with (go_at_call 31; refine (fail_any 15 _).mono ?_; rintro e w' ⟨rfl, rfl⟩)
  refine ⟨rfl, Dyn.trans P3.out HD2.out, .inr ⟨[.func (.func 42) #[] #[.pointer (some ⟨nb, 0, none⟩)]], I1 nb vb jb, undoes1 B nb vb jb, by simp, HJ2.out, ⟨HT2.out, by simp, by simp⟩, .inl ⟨15, rfl, ?_⟩⟩⟩
  intro w' j i
  exact ⟨rfl, j, i.1⟩

set_option maxHeartbeats 1000000 in
theorem act43 (B nb vb jb : Nat) (w : World) (hJ : JAt B jb [] false w) (h : TwoV nb vb jb 5 w) :
    Calls Try.prog 43 #[.pointer (some ⟨vb, 0, none⟩), .pointer (some ⟨nb, 0, none⟩)] w fun e w' => Dyn (U jb (TwoG nb vb)) w w' ∧
      ActEnds B jb (TwoG nb vb) 0 (fun w => JAt B jb [.func (.func 44) #[] #[.pointer (some ⟨nb, 0, none⟩)]] false w ∧ TwoV nb vb jb 5 w) (fun _ _ => False) (fun _ _ _ => False) e w' := by
  have hv : w.cell? ⟨vb, 0, none⟩ = some (.pointer (some ⟨jb, 0, none⟩)) := by rw [cell_of_heap h.2]; rfl
  have R := Lib.hid (record_any B jb (.func 44) #[] #[.pointer (some ⟨nb, 0, none⟩)] _ [] hJ (by simp))
  have HJ := Lib.hid hJ
  have HT := Lib.hid h
  clear hJ h
  have hmf := makeFunc_run
  go_enter Try.func43, Try.ntmps43
  go_wp2_with (go_at_call 19; refine R.out.mono ?_)
  rintro e w2 ⟨rfl, hJ2, hD2⟩
  obtain ⟨t2, d2⟩ := two_journal HJ.out HT.out hD2
  have HJ2 := Lib.hid hJ2
  have HT2 := Lib.hid t2
  have HD2 := Lib.hid d2
  clear hJ2 t2 d2 hD2 hv
  go_wp2
  go_end0
  exact ⟨HD2.out, .inl ⟨_, _, two_framed nb vb jb 5, HJ2.out, HT2.out, rfl, fun w' j t => ⟨j, t⟩⟩⟩

/-- A fresh journal with two variables. -/
theorem start_two (w : World) (x : Int) (W : World) (hW : W = (((w.alloc (.cells #[.slice none 0 0, .bool false] 29)).alloc (.cells #[.pointer (some ⟨w.heap.size, 0, none⟩)] 26)).alloc (.cells #[.int .i64 x] 3))) :
    JAt w.heap.size w.heap.size [] false W ∧ TwoV (w.heap.size + 1 + 1) (w.heap.size + 1) w.heap.size x W ∧ Below w.heap.size w W := by
  subst hW
  have e0 : (w.alloc (.cells #[.slice none 0 0, .bool false] 29)).heap[w.heap.size]? = some (.cells #[.slice none 0 0, .bool false] 29) := heap_alloc_new w _
  have e1 : ((w.alloc (.cells #[.slice none 0 0, .bool false] 29)).alloc (.cells #[.pointer (some ⟨w.heap.size, 0, none⟩)] 26)).heap[w.heap.size + 1]? = some (.cells #[.pointer (some ⟨w.heap.size, 0, none⟩)] 26) := by
    rw [← alloc_size w (.cells #[.slice none 0 0, .bool false] 29)]; exact heap_alloc_new _ _
  have e2 : (((w.alloc (.cells #[.slice none 0 0, .bool false] 29)).alloc (.cells #[.pointer (some ⟨w.heap.size, 0, none⟩)] 26)).alloc (.cells #[.int .i64 x] 3)).heap[w.heap.size + 1 + 1]? = some (.cells #[.int .i64 x] 3) := by
    rw [← alloc_size w (.cells #[.slice none 0 0, .bool false] 29), ← alloc_size (w.alloc (.cells #[.slice none 0 0, .bool false] 29)) (.cells #[.pointer (some ⟨w.heap.size, 0, none⟩)] 26)]; exact heap_alloc_new _ _
  exact ⟨⟨Nat.le_refl _, .slice none 0 0, alloc_heap (alloc_heap e0), World.ownsRow_nil _ _ _ _⟩, ⟨e2, alloc_heap e1⟩, (((Below.refl _ _).alloc (Nat.le_refl _) _).alloc (by simp) _).alloc (by simp; omega) _⟩

theorem u_base {B jb nb vb : Nat} {us : List Value} {bz : Bool} {w : World} (hJ : JAt B jb us bz w) (h1 : B ≤ nb) (h2 : B ≤ vb) (k : Nat) (hk : U jb (TwoG nb vb) w k) : B ≤ k := by
  rcases hk with hk | rfl | rfl
  · exact jf_base hJ k hk
  · exact h1
  · exact h2

set_option maxHeartbeats 1000000 in
theorem awake_any (w : World) :
    Calls Try.prog 11 #[] w fun e w' => e = .returned (.bool true) ∧ Below w.heap.size w w' := by
  have hmf := makeFunc_run
  go_enter Try.func11, Try.ntmps11
  go_wp2_with fail
  obtain ⟨j0, t0, b0⟩ := start_two w 5 _ rfl
  have A1 := Lib.hid (attempt_any w.heap.size w.heap.size _ _ (two_framed (w.heap.size + 1 + 1) (w.heap.size + 1) w.heap.size 5) _ [] j0 t0 (by simp) 41 _ (callFunc41 _) _ _ _ (fun w1 j1 t1 _ => act41 w.heap.size _ _ w.heap.size w1 j1 t1))
  have HB := Lib.hid b0
  have HJ0 := Lib.hid j0
  clear j0 t0 b0
  go_wp2_with (go_at_call 13; refine A1.out.mono ?_)
  rintro e w1 ⟨d1, hatt⟩
  obtain ⟨rfl, j1, t1⟩ : e = .returned (.int .i64 15) ∧ JAt w.heap.size w.heap.size [] false w1 ∧ TwoV (w.heap.size + 1 + 1) (w.heap.size + 1) w.heap.size 5 w1 := by
    rcases hatt with ⟨_, F⟩ | ⟨er, rfl, rfl, j1, t1⟩ | ⟨_, _, _, F⟩
    · exact F.elim
    · exact ⟨rfl, j1, t1⟩
    · exact F.elim
  have A2 := Lib.hid (attempt_any w.heap.size w.heap.size _ _ (two_framed (w.heap.size + 1 + 1) (w.heap.size + 1) w.heap.size 5) w1 [] j1 t1 (by simp) 43 _ (callFunc43 _) _ _ _ (fun w1 j1 t1 _ => act43 w.heap.size _ _ w.heap.size w1 j1 t1))
  have hv1 : w1.cell? ⟨w.heap.size + 1, 0, none⟩ = some (.pointer (some ⟨w.heap.size, 0, none⟩)) := by rw [cell_of_heap t1.2]; rfl
  have HB1 := Lib.hid (HB.out.trans (d1.below (fun k hk => by have := HB.out.size; omega) (u_base HJ0.out (by omega) (by omega))))
  have HU1 := Lib.hid (u_base (nb := w.heap.size + 1 + 1) (vb := w.heap.size + 1) j1 (by omega) (by omega))
  clear hatt d1 j1 t1 A1
  go_wp2_with (go_at_call 13; refine A2.out.mono ?_)
  rintro e w2 ⟨d2, hatt⟩
  obtain ⟨rfl, j2, t2⟩ : e = .returned (.int .i64 0) ∧ JAt w.heap.size w.heap.size [.func (.func 44) #[] #[.pointer (some ⟨w.heap.size + 1 + 1, 0, none⟩)]] false w2 ∧ TwoV (w.heap.size + 1 + 1) (w.heap.size + 1) w.heap.size 5 w2 := by
    rcases hatt with ⟨rfl, j1, t1⟩ | ⟨_, _, F⟩ | ⟨_, _, _, F⟩
    · exact ⟨rfl, j1, t1⟩
    · exact F.elim
    · exact F.elim
  obtain ⟨⟨a, c, hc0⟩, _⟩ := j2.cells
  have L := Lib.hid (len_any w.heap.size a _ c w2 hc0 (by simp [maxLen]))
  have hv2 : w2.cell? ⟨w.heap.size + 1, 0, none⟩ = some (.pointer (some ⟨w.heap.size, 0, none⟩)) := by rw [cell_of_heap t2.2]; rfl
  have hn2 : w2.cell? ⟨w.heap.size + 1 + 1, 0, none⟩ = some (.int .i64 5) := by rw [cell_of_heap t2.1]; rfl
  have HB2 := Lib.hid (HB1.out.trans (d2.below (fun k hk => by have := HB1.out.size; omega) HU1.out))
  clear hatt d2 j2 t2 A2 hv1 hc0
  go_wp2_with (go_at_call 17; refine L.out.mono ?_; rintro e w' ⟨rfl, rfl⟩)
  go_ret
  exact ⟨rfl, HB2.out⟩

end Go.Proofs.Ytekddnnclbnagaa
