/- Size, great, Ints. -/
import Derived.Test.YtekddnnclbnagaaKa
namespace Go.Proofs.Ytekddnnclbnagaa
set_option linter.unusedSimpArgs false
set_option linter.unusedVariables false
open Go.RowKit

/-- The loop of Size. -/
def SizeRel (w : World) (l : Ops) (b off : Nat) (vn vd vi : Value) : Prop :=
  ∃ (i n d : Nat) (r : Ops), vi = .int .i64 i ∧ vn = .int .i64 n ∧ vd = .int .i64 d ∧ i + r.length = l.length ∧ n + r.cnt = l.cnt ∧ max d r.dm = l.dm ∧ OpsAt w r b (off + i * 3)

set_option maxHeartbeats 1000000 in
theorem size_any : ∀ (N : Nat) (l : Ops), l.cnt ≤ N → N ≤ 1048576 → ∀ (w : World) (a : Option Addr) (cap : Nat), SliceOps w l a l.length →
    Calls Try.prog 45 #[.slice a l.length cap] w fun e w' => e = .returned (.tuple #[.int .i64 l.cnt, .int .i64 ((l.dm : Int) + 1)]) ∧ w = w' := by
  intro N
  induction N with
  | zero =>
    intro l hl _ w a cap hs
    cases l with
    | nil =>
      go_enter Try.func45, Try.ntmps45
      go_wp2
      simp only [Ops.length]
      refine wp_loop_once ?_
      go_wp2
      go_ret2
      exact ⟨rfl, rfl⟩
    | cons k n kids r => simp [Ops.cnt] at hl
  | succ N ih =>
    intro l hl hN w a cap hs
    have hlen := l.length_le
    have hdm := l.dm_le
    rcases Nat.eq_zero_or_pos l.length with h0 | h0
    · cases l with
      | nil => exact ih .nil (by simp [Ops.cnt]) (by omega) w a cap hs
      | cons k n kids r => simp [Ops.length] at h0
    · obtain ⟨b, off, rfl, hbl, hat⟩ := hs.2 h0
      have S0 := Lib.hid (show SizeRel w l b off (.int .i64 0) (.int .i64 0) (.int .i64 0) from ⟨0, 0, 0, l, rfl, rfl, rfl, by omega, by omega, by simp, by simpa using hat⟩)
      have IH := Lib.hid ih
      clear hat hs ih
      go_enter Try.func45, Try.ntmps45
      go_wp2
      go_loop [4, 5, 6] (fun vn vd vi => SizeRel w l b off vn vd vi) (fun _ _ vi => l.length - (intOf vi).toNat)
      case atStart => exact S0.out
      case round =>
        obtain ⟨i, n, d, r, rfl, rfl, rfl, h1, h2, h3, h4⟩ := hrel
        have hd3 : d ≤ l.dm ∧ r.dm ≤ l.dm := by omega
        cases r with
        | nil =>
          simp only [Ops.length, Ops.cnt, Ops.dm, Nat.add_zero] at h1 h2 h3
          obtain rfl : d = l.dm := by omega
          subst h2
          subst h1
          go_wp2
          go_ret2
          exact ⟨rfl, rfl⟩
        | cons k m kids r =>
          obtain ⟨c0, c1, ⟨a', cap', c2, hk⟩, wk, wm, hr⟩ := h4
          simp only [Ops.length, Ops.cnt, Ops.dm] at h1 h2 h3 hd3
          have C := Lib.hid (IH.out kids (by omega) (by omega) w a' cap' ⟨rfl, hk⟩)
          have hlt : i < l.length := by omega
          have hb1 : n + 1 + kids.cnt ≤ 1048576 := by omega
          have hb2 : kids.dm + 1 ≤ 1048576 := by omega
          have H1 := Lib.hid h1
          have H2 := Lib.hid h2
          have H3 := Lib.hid h3
          have HR := Lib.hid hr
          clear hk hr h1 h2 h3 c0 c1
          go_wp2_with (go_at_call 45; refine C.out.mono ?_; rintro e w' ⟨rfl, rfl⟩)
          go_round
          case rel =>
            have h1 := H1.out
            have h2 := H2.out
            have h3 := H3.out
            refine ⟨i + 1, n + 1 + kids.cnt, max d (kids.dm + 1), r, by congr 1, by congr 1, ?_, by omega, by omega, by omega, ?_⟩
            · congr 1; split <;> omega
            · rw [show off + (i + 1) * 3 = off + i * 3 + 3 by omega]; exact HR.out
          case measure => simp [intOf]; omega

/-- The limits of the laws. -/
def Ops.great (l : Ops) : Bool := decide (60 < l.cnt ∨ 8 < l.dm + 1)

theorem great_any (l : Ops) (hl : l.cnt ≤ 1048576) (w : World) (a : Option Addr) (cap : Nat) (hs : SliceOps w l a l.length) :
    Calls Try.prog 12 #[.slice a l.length cap] w fun e w' => e = .returned (.bool l.great) ∧ w = w' := by
  have C := Lib.hid (size_any 1048576 l hl (Nat.le_refl _) w a cap hs)
  have hdm := l.dm_le
  clear hs
  by_cases h1 : 60 < l.cnt
  · have hg : l.great = true := by simp [Ops.great, h1]
    rw [hg]
    clear hg
    go_enter Try.func12, Try.ntmps12
    go_wp2_with (go_at_call 45; refine C.out.mono ?_; rintro e w' ⟨rfl, rfl⟩)
    go_ret
    exact ⟨rfl, rfl⟩
  · have h1' : ¬ ((l.cnt : Int) > 60) := by omega
    by_cases h2 : 8 < l.dm + 1
    · have hg : l.great = true := by simp [Ops.great, h2]
      rw [hg]
      have h2' : (8 : Int) < (l.dm : Int) + 1 := by omega
      clear hg h2
      go_enter Try.func12, Try.ntmps12
      go_wp2_with (go_at_call 45; refine C.out.mono ?_; rintro e w' ⟨rfl, rfl⟩)
      go_ret
      exact ⟨rfl, rfl⟩
    · have hg : l.great = false := by simp [Ops.great, h1, h2]
      rw [hg]
      have h2' : ¬ ((8 : Int) < (l.dm : Int) + 1) := by omega
      clear hg h2
      go_enter Try.func12, Try.ntmps12
      go_wp2_with (go_at_call 45; refine C.out.mono ?_; rintro e w' ⟨rfl, rfl⟩)
      go_ret
      have hh : (decide ((60 : Int) < l.cnt) || decide ((8 : Int) < (l.dm : Int) + 1)) = false := by simp; omega
      refine ⟨?_, rfl⟩
      show Ending.returned (.bool _) = _
      rw [hh]

/-- n numbers in a row of memory. -/
def IntsAt (w : World) (a : Option Addr) (n : Nat) (g : Nat → Int) : Prop :=
  0 < n → ∃ b off, a = some ⟨b, off, none⟩ ∧ ∀ j, j < n → w.cell? ⟨b, off + j, none⟩ = some (.int .i64 (g j))

set_option maxHeartbeats 1000000 in
/-- Ints of two rows that hold the same numbers. -/
theorem ints_same (n : Nat) (hn : n < 1000000) (g : Nat → Int) (a1 a2 : Option Addr) (c1 c2 : Nat) (w : World) (h1 : IntsAt w a1 n g) (h2 : IntsAt w a2 n g) :
    Calls Try.prog 16 #[.slice a1 n c1, .slice a2 n c2] w fun e w' => e = .returned (.bool true) ∧ ∃ k, w' = w.drewN k := by
  have H1 := Lib.hid h1
  have H2 := Lib.hid h2
  have hne : ((n : Int) != (n : Int)) = false := by simp
  clear h1 h2
  go_enter Try.func16, Try.ntmps16
  go_wp2
  go_loopw [5] (fun vi wr => ∃ i k : Nat, i ≤ n ∧ vi = .int .i64 i ∧ wr = w.drewN k) (fun vi _ => n - (intOf vi).toNat)
  case atStart => exact ⟨0, 0, Nat.zero_le _, rfl, rfl⟩
  case round =>
    obtain ⟨i, k, hi, rfl, hw⟩ := hrel
    by_cases hlt : i < n
    · obtain ⟨b1, o1, rfl, q1⟩ := H1.out (by omega)
      obtain ⟨b2, o2, rfl, q2⟩ := H2.out (by omega)
      have e1 : wr.cell? ⟨b1, o1 + i, none⟩ = some (.int .i64 (g i)) := by rw [hw]; exact q1 i hlt
      have e2 : wr.cell? ⟨b2, o2 + i, none⟩ = some (.int .i64 (g i)) := by rw [hw]; exact q2 i hlt
      have HW := Lib.hid hw
      have hlt' : (i : Int) < (n : Int) := by omega
      have h0 : (0 : Int) ≤ i := by omega
      have hg : (g i != g i) = false := by simp
      clear q1 q2 hw
      go_wp2
      go_region
      go_wp2
      go_roundw
      case rel => exact ⟨i + 1, k + 1, by omega, by congr 1, by rw [HW.out]; rfl⟩
      case measure => simp [intOf]; omega
    · subst hw
      go_wp2
      go_ret
      exact ⟨rfl, k, rfl⟩

end Go.Proofs.Ytekddnnclbnagaa
