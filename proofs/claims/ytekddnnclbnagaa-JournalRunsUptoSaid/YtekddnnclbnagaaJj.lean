/- JournalRange: the walk. -/
import Derived.Test.YtekddnnclbnagaaJi
import Derived.OpenShut
namespace Go.Proofs.Ytekddnnclbnagaa
set_option linter.unusedSimpArgs false
set_option linter.unusedVariables false
open Go.RowKit

theorem forget_range (j : Nat) (a : Option Addr) (n c : Nat) (to : Int) (w : World) (h0 : w.cell? ⟨j, 0, none⟩ = some (.slice a n c))
    (h1 : w.cell? ⟨j, 1, none⟩ = some (.bool false)) (hn : n ≤ maxLen) (t : to < 0 ∨ n < to) :
    Calls Try.prog 36 #[.pointer (some ⟨j, 0, none⟩), .int .i64 to] w fun e w' => e = .returned (.int .i64 2) ∧ w = w' := by
  have C := Lib.hid (check_range j a n c to w h0 h1 hn t)
  go_enter Try.func36, Try.ntmps36
  go_wp2_with (go_at_call 49; refine C.out.mono ?_; rintro e w' ⟨rfl, rfl⟩)
  go_ret
  exact ⟨rfl, rfl⟩

/-- A counter in block ub, which every undo function raises by one. -/
def IC (f ub n : Nat) (us : List Value) (w : World) : Prop := us.length ≤ n ∧ VarAt ub (.int .i64 ((n : Int) - us.length)) 3 w ∧ ∀ u ∈ us, u = .func (.func f) #[] #[.pointer (some ⟨ub, 0, none⟩)]

def OneG (b : Nat) (_ : World) (k : Nat) : Prop := k = b

theorem ic_undoes (f : Nat) (B ub jb n : Nat) (hn : n < 100000) (hcf : ∀ cap w, (callFunc f cap).run Try.prog w = .ok (.enter f cap) w)
    (hf : ∀ (x : Int) (w : World), -1000000 < x ∧ x < 1000000 → VarAt ub (.int .i64 x) 3 w → Calls Try.prog f #[.pointer (some ⟨ub, 0, none⟩)] w fun e w' => e = .returned (.tuple #[]) ∧ w.setCell ⟨ub, 0, none⟩ (.int .i64 (x + 1)) = w') :
    Undoes B jb (IC f ub n) (OneG ub) := by
  have hfr : ∀ x, Framed (VarAt ub (.int .i64 x) 3) (OneG ub) := fun x => var_framed ub (.int .i64 x) 3
  refine ⟨fun us => ?_, fun us => ?_, fun us u w1 hJ hI => ?_⟩
  · exact ⟨fun w k h hk => (hfr _).inn w k h.2.1 hk, fun w w' h hk => ⟨⟨h.1, ((hfr _).fr w w' h.2.1 hk).1, h.2.2⟩, ((hfr _).fr w w' h.2.1 hk).2⟩⟩
  · rintro w k ⟨h1, h2, h3⟩ rfl; exact ⟨_, _, _, h2, by decide, by decide⟩
  · obtain ⟨hl, hv, hu⟩ := hI
    refine ⟨f, #[.pointer (some ⟨ub, 0, none⟩)], hu u (by simp), hcf _, ?_⟩
    simp only [List.length_append, List.length_cons, List.length_nil, Nat.zero_add] at hv hl
    refine (hf _ w1 (by omega) hv).mono ?_
    rintro e w' ⟨rfl, rfl⟩
    obtain ⟨p1, p2, _⟩ := jat_setVar (x := .int .i64 (((n : Int) - ((us.length + 1 : Nat) : Int)) + 1)) hJ (by decide) (by decide) hv
    have e : ((n : Int) - ((us.length + 1 : Nat) : Int)) + 1 = (n : Int) - us.length := by omega
    rw [e] at p1 p2 ⊢
    refine ⟨rfl, p1, ⟨by omega, p2, fun u hu' => hu u (by simp [hu'])⟩, ?_⟩
    exact dyn_setVar (jat_framed B jb us true) hJ (jf_type hJ hv (by decide) (by decide))

theorem callFunc39 (cap : Array Value) (w : World) : (callFunc 39 cap).run Try.prog w = .ok (.enter 39 cap) w := by kernel_rfl

theorem up39 (nb : Nat) (x : Int) (w : World) (hx : -1000000 < x ∧ x < 1000000) (h : VarAt nb (.int .i64 x) 3 w) :
    Calls Try.prog 39 #[.pointer (some ⟨nb, 0, none⟩)] w fun e w' => e = .returned (.tuple #[]) ∧ w.setCell ⟨nb, 0, none⟩ (.int .i64 (x + 1)) = w' := by
  have hc : w.cell? ⟨nb, 0, none⟩ = some (.int .i64 x) := by rw [cell_of_heap h]; rfl
  have hz := frozen_of_heap h 0
  clear h
  obtain ⟨hx1, hx2⟩ := hx
  go_enter Try.func39, Try.ntmps39
  go_wp2
  go_end0
  exact ⟨rfl, rfl⟩

/-- The recording loop's state: i functions recorded, the counter at 0. -/
def RecRel (f B jb ub k : Nat) (W : World) (m : Nat) (v : Value) (wr : World) : Prop :=
  m ≤ k ∧ v = .int .i64 ((k - m : Nat) : Int) ∧ JAt B jb (List.replicate (k - m) (.func (.func f) #[] #[.pointer (some ⟨ub, 0, none⟩)])) false wr ∧ VarAt ub (.int .i64 0) 3 wr ∧ Dyn (U jb (OneG ub)) W wr

/-- A fresh journal and a fresh counter. -/
theorem start_one (w W : World) (x : Int) (hW : W = ((w.alloc (.cells #[.slice none 0 0, .bool false] 29)).alloc (.cells #[.int .i64 x] 3))) :
    JAt w.heap.size w.heap.size [] false W ∧ VarAt (w.heap.size + 1) (.int .i64 x) 3 W ∧ Below w.heap.size w W := by
  subst hW
  have e0 : (w.alloc (.cells #[.slice none 0 0, .bool false] 29)).heap[w.heap.size]? = some (.cells #[.slice none 0 0, .bool false] 29) := heap_alloc_new w _
  have e1 : ((w.alloc (.cells #[.slice none 0 0, .bool false] 29)).alloc (.cells #[.int .i64 x] 3)).heap[w.heap.size + 1]? = some (.cells #[.int .i64 x] 3) := by
    rw [← alloc_size w (.cells #[.slice none 0 0, .bool false] 29)]; exact heap_alloc_new _ _
  exact ⟨⟨Nat.le_refl _, .slice none 0 0, alloc_heap e0, World.ownsRow_nil _ _ _ _⟩, e1, ((Below.refl _ _).alloc (Nat.le_refl _) _).alloc (by simp) _⟩

/-- One round of a recording loop. -/
theorem rec_step {f B jb ub k m : Nat} {W wr w2 : World} {v : Value} (h : RecRel f B jb ub k W (m + 1) v wr) (hk : k < 100)
    (hJ : JAt B jb (List.replicate (k - (m + 1)) (.func (.func f) #[] #[.pointer (some ⟨ub, 0, none⟩)]) ++ [.func (.func f) #[] #[.pointer (some ⟨ub, 0, none⟩)]]) false w2) (hD : Dyn (JF jb) wr w2) :
    RecRel f B jb ub k W m (.int .i64 (((k - (m + 1) : Nat) : Int) + 1)) w2 := by
  obtain ⟨h1, rfl, h3, h4, h5⟩ := h
  have e : k - m = k - (m + 1) + 1 := by omega
  obtain ⟨d, y⟩ := hD.left (var_framed ub (.int .i64 0) 3) h4 (fun q hq => by subst hq; exact jf_type h3 h4 (by decide) (by decide))
  refine ⟨by omega, by rw [e]; rfl, ?_, y, h5.trans d⟩
  rw [e, List.replicate_succ']; exact hJ

theorem callFunc40 (cap : Array Value) (w : World) : (callFunc 40 cap).run Try.prog w = .ok (.enter 40 cap) w := by kernel_rfl

/-- The second journal, the counter at 0 again. -/
theorem start_again (w W : World) (B ub : Nat) (x : Value) (hv : VarAt ub x 3 w) (hB : B ≤ ub) (hW : W = ((w.setCell ⟨ub, 0, none⟩ (.int .i64 0)).alloc (.cells #[.slice none 0 0, .bool false] 29))) :
    JAt B w.heap.size [] false W ∧ VarAt ub (.int .i64 0) 3 W ∧ Below B w W := by
  subst hW
  have hl := heap_lt hv
  have e0 : ((w.setCell ⟨ub, 0, none⟩ (.int .i64 0)).alloc (.cells #[.slice none 0 0, .bool false] 29)).heap[w.heap.size]? = some (.cells #[.slice none 0 0, .bool false] 29) := by
    have h := heap_alloc_new (w.setCell ⟨ub, 0, none⟩ (.int .i64 0)) (.cells #[.slice none 0 0, .bool false] 29)
    rwa [setCell_size] at h
  refine ⟨⟨by omega, .slice none 0 0, e0, World.ownsRow_nil _ _ _ _⟩, alloc_heap (by rw [setCell_heap hv]; rfl), ?_⟩
  exact ((Below.refl _ _).setCell hB _).alloc (by rw [setCell_size]; omega) _

set_option maxHeartbeats 2000000 in
theorem range_walk (a0 : Int) (w0 : (Lit.int .u8 a0).wf = true) (a1 : Int) (w1 : (Lit.int .i64 a1).wf = true) (a2 : Bool) (w : World) :
    Calls Try.prog 10 #[.int .u8 a0, .int .i64 a1, .bool a2] w fun e w' => e = .returned (.bool true) ∧ Below w.heap.size w w' := by
  have hb : 0 ≤ a0 ∧ a0 ≤ 255 := bounds_u8 w0
  obtain ⟨n, rfl⟩ : ∃ n : Nat, a0 = n := ⟨a0.toNat, by omega⟩
  have hn : n ≤ 255 := by omega
  obtain ⟨k, hk⟩ : ∃ k, k = n % 41 := ⟨_, rfl⟩
  have hk2 : k < 41 := by omega
  have hkk : ((n : Int) % 41) = (k : Int) := by omega
  clear hk
  have hmf := makeFunc_run
  go_enter Try.func10, Try.ntmps10
  go_wp2_with (go_at_call 11; refine (awake_any w).mono ?_; rintro e wa ⟨rfl, hb1⟩)
  simp only [hkk]
  obtain ⟨j0, t0, b0⟩ := start_one wa _ 0 rfl
  have HB := Lib.hid (hb1.trans (b0.mono hb1.size))
  have hbase := hb1.size
  have S0 := Lib.hid (show RecRel 39 wa.heap.size wa.heap.size (wa.heap.size + 1) k ((wa.alloc (.cells #[.slice none 0 0, .bool false] 29)).alloc (.cells #[.int .i64 0] 3)) k (.int .i64 0) ((wa.alloc (.cells #[.slice none 0 0, .bool false] 29)).alloc (.cells #[.int .i64 0] 3)) from
    ⟨Nat.le_refl _, by simp, by simpa using j0, t0, Dyn.refl _ _⟩)
  have HU0 := Lib.hid (fun q (hq : U wa.heap.size (OneG (wa.heap.size + 1)) _ q) => (show wa.heap.size ≤ q from hq.elim (jf_base j0 q) (fun h => by subst h; omega)))
  clear hkk hb1 j0 t0 b0
  go_loopg [20] k (fun m v wr => RecRel 39 wa.heap.size wa.heap.size (wa.heap.size + 1) k ((wa.alloc (.cells #[.slice none 0 0, .bool false] 29)).alloc (.cells #[.int .i64 0] 3)) m v wr)
  case atStart => exact S0.out
  case round =>
    by_cases h0 : gk = 0
    · subst h0
      obtain ⟨wo, rfl⟩ : ∃ wo : World, wo = wr := ⟨_, rfl⟩
      obtain ⟨_, rfl, r3, r4, r5⟩ := hrel
      simp only [Nat.sub_zero] at r3 ⊢
      have hu1 := fun q (hq : U wa.heap.size (OneG (wa.heap.size + 1)) wo q) => (show wa.heap.size ≤ q from hq.elim (jf_base r3 q) (fun h => by subst h; omega))
      have HB1 := Lib.hid (HB.out.trans (Below.mono (r5.below (B := wa.heap.size) (fun q hq => by simp; omega) HU0.out) hbase))
      have hs1 := r5.size
      simp only [alloc_size] at hs1
      obtain ⟨⟨sa, sc, hc0⟩, hc1⟩ := r3.cells
      simp only [List.length_replicate] at hc0
      have hub : wo.cell? ⟨wa.heap.size + 1, 0, none⟩ = some (.int .i64 0) := by rw [cell_of_heap r4]; rfl
      have hubz := frozen_of_heap r4 0
      have HU1 := Lib.hid hu1
      have hul : wa.heap.size + 1 < wo.heap.size := heap_lt r4
      by_cases hr : a1 < 0 ∨ (k : Int) < a1
      · have R := Lib.hid (rewind_range _ _ _ _ a1 wo hc0 hc1 (by unfold maxLen; omega) hr)
        have L := Lib.hid (len_any _ _ _ _ wo hc0 (by unfold maxLen; omega))
        have hor : decide (a1 < 0) = false → decide ((k : Int) < a1) = true := by intro h; simp at h ⊢; omega
        clear hc0 hc1 r3 r5 hu1
        cases a2
        · rcases hr with hr | hr
          · go_wp2_with (first | (go_at_call 18; refine R.out.mono ?_; rintro e w' ⟨rfl, rfl⟩) | (go_at_call 17; refine L.out.mono ?_; rintro e w' ⟨rfl, rfl⟩))
            go_ret
            exact ⟨rfl, HB1.out⟩
          · have hr' : ¬ a1 < 0 := by omega
            go_wp2_with (first | (go_at_call 18; refine R.out.mono ?_; rintro e w' ⟨rfl, rfl⟩) | (go_at_call 17; refine L.out.mono ?_; rintro e w' ⟨rfl, rfl⟩))
            go_ret
            exact ⟨rfl, HB1.out⟩
        · have R4 := Lib.hid r4
          have HRR := Lib.hid hr
          clear hr r4
          go_wp2_with (go_at_call 18; refine R.out.mono ?_; rintro e w' ⟨rfl, rfl⟩)
          have hr := HRR.out
          obtain ⟨j0, t0, b0⟩ := start_again wo _ wa.heap.size (wa.heap.size + 1) _ R4.out (by omega) rfl
          have HB2 := Lib.hid (HB1.out.trans (b0.mono (by omega)))
          have S0 := Lib.hid (show RecRel 40 wa.heap.size wo.heap.size (wa.heap.size + 1) k _ k (.int .i64 0) _ from ⟨Nat.le_refl _, by simp, by simpa using j0, t0, Dyn.refl _ _⟩)
          have HU2 := Lib.hid (fun q (hq : U wo.heap.size (OneG (wa.heap.size + 1)) _ q) => (show wa.heap.size ≤ q from hq.elim (jf_base j0 q) (fun h => by subst h; omega)))
          clear j0 t0 b0 R L hub hubz
          go_loopg [34] k (fun m v w3 => RecRel 40 wa.heap.size wo.heap.size (wa.heap.size + 1) k ((wo.setCell ⟨wa.heap.size + 1, 0, none⟩ (.int .i64 0)).alloc (.cells #[.slice none 0 0, .bool false] 29)) m v w3)
          case atStart => exact S0.out
          case round =>
            by_cases h0 : gk = 0
            · subst h0
              obtain ⟨_, rfl, r3, r4, r5⟩ := hrel
              simp only [Nat.sub_zero] at r3 ⊢
              have HB3 := Lib.hid (HB2.out.trans (Below.mono (r5.below (B := wa.heap.size) (fun q hq => by simp [setCell_size]; omega) HU2.out) hbase))
              obtain ⟨⟨sa, sc, hc0⟩, hc1⟩ := r3.cells
              simp only [List.length_replicate] at hc0
              have hub : wr.cell? ⟨wa.heap.size + 1, 0, none⟩ = some (.int .i64 0) := by rw [cell_of_heap r4]; rfl
              have F := Lib.hid (forget_range _ _ _ _ a1 wr hc0 hc1 (by unfold maxLen; omega) hr)
              have L := Lib.hid (len_any _ _ _ _ wr hc0 (by unfold maxLen; omega))
              clear r3 r4 r5 hc0 hc1
              rcases hr with hr | hr
              · go_wp2_with (first | (go_at_call 36; refine F.out.mono ?_; rintro e w' ⟨rfl, rfl⟩) | (go_at_call 17; refine L.out.mono ?_; rintro e w' ⟨rfl, rfl⟩))
                go_ret
                exact ⟨rfl, HB3.out⟩
              · have hr' : ¬ a1 < 0 := by omega
                go_wp2_with (first | (go_at_call 36; refine F.out.mono ?_; rintro e w' ⟨rfl, rfl⟩) | (go_at_call 17; refine L.out.mono ?_; rintro e w' ⟨rfl, rfl⟩))
                go_ret
                exact ⟨rfl, HB3.out⟩
            · obtain ⟨m, rfl⟩ : ∃ m, gk = m + 1 := ⟨gk - 1, by omega⟩
              obtain ⟨r1, r2, r3, r4, r5⟩ := hrel
              have R := Lib.hid (record_any wa.heap.size wo.heap.size (.func 40) #[] #[.pointer (some ⟨wa.heap.size + 1, 0, none⟩)] wr _ r3 (by simp; omega))
              have HR := Lib.hid (show RecRel _ _ _ _ _ _ _ _ _ from ⟨r1, r2, r3, r4, r5⟩)
              have hlt : k - (m + 1) < k := by omega
              clear r3 r4 r5
              subst r2
              go_wp2_with (go_at_call 19; refine R.out.mono ?_)
              rintro e w2 ⟨rfl, j2, d2⟩
              have H2 := Lib.hid (rec_step HR.out (by omega) j2 d2)
              clear j2 d2
              go_wp2
              go_roundg m
              case measure => omega
              case rel => exact H2.out
      · obtain ⟨t, rfl⟩ : ∃ t : Nat, a1 = t := ⟨a1.toNat, by omega⟩
        have ht : t ≤ k := by omega
        have R := Lib.hid (rewind_any wa.heap.size wa.heap.size _ _ (ic_undoes 39 wa.heap.size (wa.heap.size + 1) wa.heap.size k (by omega) callFunc39 (fun x w hx => up39 _ x w hx)) wo _ r3 ⟨by simp, by simpa using r4, by simp⟩ (by simp; omega) t (by simp; omega))
        clear hc0 hc1 r3 r4 r5 hu1 hub hubz
        go_wp2_with (go_at_call 18; refine R.out.mono ?_)
        rintro e wx ⟨rfl, j5, ⟨_, v5, _⟩, d5⟩
        have hl5 : (List.take t (List.replicate k (Value.func (.func 39) #[] #[.pointer (some ⟨wa.heap.size + 1, 0, none⟩)]))).length = t := by simp; omega
        rw [hl5] at v5
        have V5 := Lib.hid v5
        have HB5 := Lib.hid (HB1.out.trans (Below.mono (d5.below (B := wa.heap.size) (fun q hq => by omega) HU1.out) hbase))
        have hs5 := d5.size
        have hul5 := heap_lt v5
        have hub : wx.cell? ⟨wa.heap.size + 1, 0, none⟩ = some (.int .i64 ((k : Int) - t)) := by rw [cell_of_heap v5]; rfl
        have hubz := frozen_of_heap v5 0
        obtain ⟨⟨sa, sc, hc0⟩, hc1⟩ := j5.cells
        rw [hl5] at hc0
        have hr1 : decide ((t : Int) < 0) = false := by simp
        have hr2 : ¬ (k < t) := by omega
        clear v5 hl5 hr
        cases a2
        · have L := Lib.hid (len_any _ _ _ _ wx hc0 (by unfold maxLen; omega))
          clear j5 d5 hc0 hc1
          go_wp2_with (go_at_call 17; refine L.out.mono ?_; rintro e w' ⟨rfl, rfl⟩)
          go_ret
          exact ⟨rfl, HB5.out⟩
        · clear hc0 hc1
          go_wp2_with fail
          obtain ⟨j0, t0, b0⟩ := start_again wx _ wa.heap.size (wa.heap.size + 1) _ V5.out (by omega) rfl
          have HB2 := Lib.hid (HB5.out.trans (b0.mono (by omega)))
          have S0 := Lib.hid (show RecRel 40 wa.heap.size wx.heap.size (wa.heap.size + 1) k _ k (.int .i64 0) _ from ⟨Nat.le_refl _, by simp, by simpa using j0, t0, Dyn.refl _ _⟩)
          have HU2 := Lib.hid (fun q (hq : U wx.heap.size (OneG (wa.heap.size + 1)) _ q) => (show wa.heap.size ≤ q from hq.elim (jf_base j0 q) (fun h => by subst h; omega)))
          clear j0 t0 b0 hub hubz j5 d5
          go_loopg [34] k (fun m v w3 => RecRel 40 wa.heap.size wx.heap.size (wa.heap.size + 1) k ((wx.setCell ⟨wa.heap.size + 1, 0, none⟩ (.int .i64 0)).alloc (.cells #[.slice none 0 0, .bool false] 29)) m v w3)
          case atStart => exact S0.out
          case round =>
            by_cases h0 : gk = 0
            · subst h0
              obtain ⟨_, rfl, r3, r4, r5⟩ := hrel
              simp only [Nat.sub_zero] at r3 ⊢
              have HB3 := Lib.hid (HB2.out.trans (Below.mono (r5.below (B := wa.heap.size) (fun q hq => by simp [setCell_size]; omega) HU2.out) hbase))
              obtain ⟨⟨sa, sc, hc0⟩, hc1⟩ := r3.cells
              simp only [List.length_replicate] at hc0
              have hub : wr.cell? ⟨wa.heap.size + 1, 0, none⟩ = some (.int .i64 0) := by rw [cell_of_heap r4]; rfl
              have hs7 := r5.size
              simp only [alloc_size, setCell_size] at hs7
              have F := Lib.hid (forget_any _ _ wr _ r3 (by simp; omega) t (by simp; omega))
              clear hc0 hc1
              have R4 := Lib.hid r4
              have R3 := Lib.hid r3
              clear r3 r4 r5 hub
              go_wp2_with (go_at_call 36; refine F.out.mono ?_)
              rintro e w6 ⟨rfl, j6, d6⟩
              have v6 := jvar R3.out d6 (by decide) (by decide) R4.out
              have hub : w6.cell? ⟨wa.heap.size + 1, 0, none⟩ = some (.int .i64 0) := by rw [cell_of_heap v6]; rfl
              have HB4 := Lib.hid (HB3.out.trans (Below.mono (d6.below (B := wa.heap.size) (fun q hq => by omega) (jf_base R3.out)) hbase))
              obtain ⟨⟨sa, sc, hc0⟩, hc1⟩ := j6.cells
              have ht' : min t k = t := by omega
              simp only [List.length_take, List.length_replicate, ht'] at hc0
              have L := Lib.hid (len_any _ _ _ _ w6 hc0 (by unfold maxLen; omega))
              clear j6 d6 v6 hc0 hc1 ht'
              go_wp2_with (go_at_call 17; refine L.out.mono ?_; rintro e w' ⟨rfl, rfl⟩)
              go_ret
              exact ⟨rfl, HB4.out⟩
            · obtain ⟨m, rfl⟩ : ∃ m, gk = m + 1 := ⟨gk - 1, by omega⟩
              obtain ⟨r1, r2, r3, r4, r5⟩ := hrel
              have R := Lib.hid (record_any wa.heap.size wx.heap.size (.func 40) #[] #[.pointer (some ⟨wa.heap.size + 1, 0, none⟩)] wr _ r3 (by simp; omega))
              have HR := Lib.hid (show RecRel _ _ _ _ _ _ _ _ _ from ⟨r1, r2, r3, r4, r5⟩)
              have hlt : k - (m + 1) < k := by omega
              clear r3 r4 r5
              subst r2
              go_wp2_with (go_at_call 19; refine R.out.mono ?_)
              rintro e w2 ⟨rfl, j2, d2⟩
              have H2 := Lib.hid (rec_step HR.out (by omega) j2 d2)
              clear j2 d2
              go_wp2
              go_roundg m
              case measure => omega
              case rel => exact H2.out
    · obtain ⟨m, rfl⟩ : ∃ m, gk = m + 1 := ⟨gk - 1, by omega⟩
      obtain ⟨r1, r2, r3, r4, r5⟩ := hrel
      have R := Lib.hid (record_any wa.heap.size wa.heap.size (.func 39) #[] #[.pointer (some ⟨wa.heap.size + 1, 0, none⟩)] wr _ r3 (by simp; omega))
      have HR := Lib.hid (show RecRel _ _ _ _ _ _ _ _ _ from ⟨r1, r2, r3, r4, r5⟩)
      have hlt : k - (m + 1) < k := by omega
      clear r3 r4 r5
      subst r2
      go_wp2_with (go_at_call 19; refine R.out.mono ?_)
      rintro e w2 ⟨rfl, j2, d2⟩
      have H2 := Lib.hid (rec_step HR.out (by omega) j2 d2)
      clear j2 d2
      go_wp2
      go_roundg m
      case measure => omega
      case rel => exact H2.out
end Go.Proofs.Ytekddnnclbnagaa
