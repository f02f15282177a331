/- Walks of the journal's plain methods. -/
import Derived.Test.YtekddnnclbnagaaRows
import Derived.WalkKit
import Derived.WalkSpells
import Derived.WalkLawsBesides
namespace Go.Proofs.Ytekddnnclbnagaa
set_option linter.unusedSimpArgs false
set_option linter.unusedVariables false
open Go.RowKit

theorem len_nil (w : World) :
    Calls Try.prog 17 #[.pointer none] w fun e w' => e = .returned (.int .i64 0) ∧ w = w' := by
  go_enter Try.func17, Try.ntmps17
  go_wp2
  go_ret
  exact ⟨rfl, rfl⟩

theorem len_any (j : Nat) (a : Option Addr) (n c : Nat) (w : World) (h0 : w.cell? ⟨j, 0, none⟩ = some (.slice a n c)) (hn : n ≤ maxLen) :
    Calls Try.prog 17 #[.pointer (some ⟨j, 0, none⟩)] w fun e w' => e = .returned (.int .i64 n) ∧ w = w' := by
  unfold maxLen at hn
  go_enter Try.func17, Try.ntmps17
  go_wp2
  go_ret
  exact ⟨rfl, rfl⟩

theorem check_ok (j : Nat) (a : Option Addr) (n c : Nat) (to : Int) (w : World) (h0 : w.cell? ⟨j, 0, none⟩ = some (.slice a n c))
    (h1 : w.cell? ⟨j, 1, none⟩ = some (.bool false)) (hn : n ≤ maxLen) (t0 : 0 ≤ to) (t1 : to ≤ n) :
    Calls Try.prog 49 #[.pointer (some ⟨j, 0, none⟩), .int .i64 to] w fun e w' => e = .returned (.int .i64 0) ∧ w = w' := by
  unfold maxLen at hn
  go_enter Try.func49, Try.ntmps49
  go_wp2
  go_ret
  exact ⟨rfl, rfl⟩

theorem check_range (j : Nat) (a : Option Addr) (n c : Nat) (to : Int) (w : World) (h0 : w.cell? ⟨j, 0, none⟩ = some (.slice a n c))
    (h1 : w.cell? ⟨j, 1, none⟩ = some (.bool false)) (hn : n ≤ maxLen) (t : to < 0 ∨ n < to) :
    Calls Try.prog 49 #[.pointer (some ⟨j, 0, none⟩), .int .i64 to] w fun e w' => e = .returned (.int .i64 2) ∧ w = w' := by
  unfold maxLen at hn
  rcases t with t | t
  · go_enter Try.func49, Try.ntmps49
    go_wp2
    go_ret
    exact ⟨rfl, rfl⟩
  · have t' : ¬ to < 0 := by omega
    go_enter Try.func49, Try.ntmps49
    go_wp2
    go_ret
    exact ⟨rfl, rfl⟩

end Go.Proofs.Ytekddnnclbnagaa
