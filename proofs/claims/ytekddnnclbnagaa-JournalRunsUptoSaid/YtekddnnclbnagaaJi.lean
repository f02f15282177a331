/- Forget. -/
import Derived.Test.YtekddnnclbnagaaJh
import Derived.Laws.IdiomCopy
namespace Go.Proofs.Ytekddnnclbnagaa
set_option linter.unusedSimpArgs false
set_option linter.unusedVariables false
open Go.RowKit

theorem setCells_row (g : Nat) (e : TypeId) : ∀ (vs : List Value) (o : Nat) (w : World) (cur : Array Value), w.heap[g]? = some (.cells cur e (0, 0)) →
    (w.setCells g o vs).os = w.os ∧ (w.setCells g o vs).tape = w.tape ∧ (w.setCells g o vs).output = w.output ∧ (w.setCells g o vs).heap.size = w.heap.size ∧
    (∀ k, k ≠ g → (w.setCells g o vs).heap[k]? = w.heap[k]?) ∧
    ∃ cur', (w.setCells g o vs).heap[g]? = some (.cells cur' e (0, 0)) ∧ cur'.size = cur.size ∧ ∀ j, j < o → cur'[j]? = cur[j]? := by
  intro vs
  induction vs with
  | nil => intro o w cur h; exact ⟨rfl, rfl, rfl, rfl, fun _ _ => rfl, cur, h, rfl, fun _ _ => rfl⟩
  | cons v vs ih =>
    intro o w cur h
    obtain ⟨h1, h2, h3, h4, h5, cur', h6, h7, h8⟩ := ih (o + 1) (w.setCell ⟨g, o, none⟩ v) _ (setCell_heap (i := o) h v)
    refine ⟨h1, h2, h3, by rw [show (w.setCells g o (v :: vs)) = (w.setCell ⟨g, o, none⟩ v).setCells g (o + 1) vs from rfl, h4]; simp [World.setCell], fun k hk => ?_, cur', h6, by simpa using h7, fun j hj => ?_⟩
    · rw [show (w.setCells g o (v :: vs)) = (w.setCell ⟨g, o, none⟩ v).setCells g (o + 1) vs from rfl, h5 k hk, Below.heap_setCell _ _ _ _ hk]
    · rw [h8 j (by omega), Array.getElem?_setIfInBounds_ne (by omega)]

theorem take_of_cells {cur cur' : Array Value} {us : List Value} {n m : Nat} (hs : cur'.size = cur.size) (h : ∀ j, j < m → cur'[j]? = cur[j]?) (ht : cur.toList.take n = us) (hm : m ≤ n) : cur'.toList.take m = us.take m := by
  rw [← ht, List.take_take, Nat.min_eq_left hm]
  apply List.ext_getElem?
  intro j
  simp only [List.getElem?_take]
  split
  · simpa using h j (by assumption)
  · rfl

theorem Try.zero1 (w : World) : (zeroValue 1).run Try.prog w = .ok .nilFunc w := by kernel_rfl

/-- The journal loses its last functions: its two cells hold a shorter slice. -/
theorem forget_end {B jb g cp : Nat} {w w1 : World} {us : List Value} {cur cur' : Array Value} {fr : Nat} (hfr : fr ≤ us.length) (hB : B ≤ jb) (hBg : B ≤ g)
    (hj : w.heap[jb]? = some (.cells #[.slice (some ⟨g, 0, none⟩) us.length cp, .bool false] 29 (0, 0))) (hcap : us.length ≤ cp) (hmx : cp ≤ maxLen) (hsz : cur.size = cp) (htk : cur.toList.take us.length = us)
    (os : w1.os = w.os) (tape : w1.tape = w.tape) (output : w1.output = w.output) (size : w1.heap.size = w.heap.size) (hb : ∀ k, k ≠ g → w1.heap[k]? = w.heap[k]?)
    (hne : jb ≠ g) (hg1 : w1.heap[g]? = some (.cells cur' 1 (0, 0))) (hs : cur'.size = cur.size) (hc : ∀ j, j < fr → cur'[j]? = cur[j]?) :
    JAt B jb (us.take fr) false (w1.setCell ⟨jb, 0, none⟩ (.slice (some ⟨g, 0, none⟩) fr cp)) ∧ Dyn (JF jb) w (w1.setCell ⟨jb, 0, none⟩ (.slice (some ⟨g, 0, none⟩) fr cp)) := by
  have hj1 : w1.heap[jb]? = some (.cells #[.slice (some ⟨g, 0, none⟩) us.length cp, .bool false] 29 (0, 0)) := (hb jb hne).trans hj
  have hj2 : (w1.setCell ⟨jb, 0, none⟩ (.slice (some ⟨g, 0, none⟩) fr cp)).heap[jb]? = some (.cells #[.slice (some ⟨g, 0, none⟩) fr cp, .bool false] 29 (0, 0)) := by rw [setCell_heap hj1]; rfl
  have hl : (us.take fr).length = fr := by simp; omega
  refine ⟨⟨hB, _, hj2, ?_⟩, jat_step hj os tape output (by simp [World.setCell]; exact Nat.le_of_eq size.symm) (fun k hk hn hnj => ?_) hj2 (.inl rfl)⟩
  · rw [hl]
    refine ⟨by simp; omega, .inr ⟨g, cp, cur', rfl, hBg, setCell_heap_ne (w := w1) hg1 (by dsimp only; omega) _, by omega, hmx, by omega, ?_⟩⟩
    rw [Nat.mul_one]; exact take_of_cells hs hc htk hfr
  · rw [Below.heap_setCell _ _ _ _ hnj]
    exact hb k (by rintro rfl; exact hn rfl)

set_option maxHeartbeats 1000000 in
theorem forget_any (B jb : Nat) (w : World) (us : List Value) (h : JAt B jb us false w) (hlen : us.length < 100000) (fr : Nat) (hfr : fr ≤ us.length) :
    Calls Try.prog 36 #[.pointer (some ⟨jb, 0, none⟩), .int .i64 fr] w fun e w' => e = .returned (.int .i64 0) ∧ JAt B jb (us.take fr) false w' ∧ Dyn (JF jb) w w' := by
  obtain ⟨⟨a, c, hc0⟩, hc1⟩ := h.cells
  have C := Lib.hid (check_ok jb a us.length c fr w hc0 hc1 (by unfold maxLen; omega) (by omega) (by omega))
  clear hc0 hc1
  obtain ⟨hB, v, hj, hown⟩ := h
  have hz0 := frozen_of_heap hj 0
  have hc0 : w.cell? ⟨jb, 0, none⟩ = some v := by rw [cell_of_heap hj]; rfl
  have hcl0 : ∀ ty b n, (Builtin.clear_ #[27] ty #[.slice b 0 n]).run Try.prog w = .ok (.tuple #[]) w := by
    intro ty b n
    cases b with
    | none => simp [Builtin.clear_, run_underlying Try.underlying27]
    | some b => simp [Builtin.clear_, run_underlying Try.underlying27]
  rcases hown.2 with ⟨rfl, h0⟩ | ⟨g, cp, cur, rfl, hBg, hg, hcap, hmx, hsz, htk⟩
  · have hu : us = [] := List.eq_nil_of_length_eq_zero h0
    subst hu
    obtain rfl : fr = 0 := by simpa using hfr
    have HJ := Lib.hid hj
    have HO := Lib.hid hown
    clear hj hown
    go_enter Try.func36, Try.ntmps36
    go_wp2_with (go_at_call 49; refine C.out.mono ?_; rintro e w' ⟨rfl, rfl⟩)
    go_ret
    have hj2 : (w.setCell ⟨jb, 0, none⟩ (.slice none 0 0)).heap[jb]? = some (.cells #[.slice none 0 0, .bool false] 29 (0, 0)) := by rw [setCell_heap HJ.out]; rfl
    exact ⟨rfl, ⟨hB, _, hj2, World.ownsRow_nil _ _ _ _⟩, jat_step HJ.out rfl rfl rfl (by simp [World.setCell]) (fun k _ _ hn => Below.heap_setCell _ _ _ _ hn) hj2 (.inl rfl)⟩
  · have hne : jb ≠ g := by rintro rfl; rw [hg] at hj; simp at hj
    simp only [Nat.mul_one] at hsz htk
    by_cases hlt : fr = us.length
    · have HE := forget_end (w1 := w) hfr hB hBg hj hcap hmx hsz htk rfl rfl rfl rfl (fun _ _ => rfl) hne hg rfl (fun _ _ => rfl)
      rw [hlt] at HE C ⊢
      rw [List.take_length] at HE ⊢
      by_cases hcp : us.length = cp
      · rw [← hcp] at HE hc0
        have H := Lib.hid HE
        clear hj hown HE htk hg hlt hfr hcp hsz
        go_enter Try.func36, Try.ntmps36
        go_wp2_with (go_at_call 49; refine C.out.mono ?_; rintro e w' ⟨rfl, rfl⟩)
        go_ret
        exact ⟨rfl, H.out⟩
      · have hcp' : us.length < cp := by omega
        have H := Lib.hid HE
        clear hj hown HE htk hg hlt hfr hcp hsz
        go_enter Try.func36, Try.ntmps36
        go_wp2_with (go_at_call 49; refine C.out.mono ?_; rintro e w' ⟨rfl, rfl⟩)
        go_ret
        exact ⟨rfl, H.out⟩
    · have hcl := Lib.run_clear_slice (P := Try.prog) w 27 1 0 .nilFunc Try.underlying27 Try.zero1 rfl rfl g fr (us.length - fr) (cp - fr) (by omega) (fun j hj => by rw [cell_of_heap hg]; simp; omega) (fun j _ => frozen_of_heap hg _)
      obtain ⟨e1, e2, e3, e4, e5, cur', e6, e7, e8⟩ := setCells_row g 1 (List.replicate (us.length - fr) .nilFunc) fr w cur hg
      have H := Lib.hid (forget_end hfr hB hBg hj hcap hmx hsz htk e1 e2 e3 e4 e5 hne e6 e7 e8)
      have hc1 : (w.setCells g fr (List.replicate (us.length - fr) .nilFunc)).cell? ⟨jb, 0, none⟩ = some (.slice (some ⟨g, 0, none⟩) us.length cp) := by rw [cell_of_heap ((e5 jb hne).trans hj)]; rfl
      have hz1 : (w.setCells g fr (List.replicate (us.length - fr) .nilFunc)).frozen? ⟨jb, 0, none⟩ = false := frozen_of_heap ((e5 jb hne).trans hj) 0
      clear hj hown htk hg e1 e2 e3 e4 e5 e6 e7 e8 hcl0
      have hlt' : fr < us.length := by omega
      clear hlt hfr
      go_enter Try.func36, Try.ntmps36
      go_wp2_with (go_at_call 49; refine C.out.mono ?_; rintro e w' ⟨rfl, rfl⟩)
      go_ret
      exact ⟨rfl, H.out.1, H.out.2⟩
end Go.Proofs.Ytekddnnclbnagaa
