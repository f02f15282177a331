/- JournalRuns: Attempt, Rewind and Forget as 'run' calls them. -/
import Derived.Test.YtekddnnclbnagaaLe
namespace Go.Proofs.Ytekddnnclbnagaa
set_option linter.unusedSimpArgs false
set_option linter.unusedVariables false
open Go.RowKit

def attP (kids : Ops) (s : St) : St × Int :=
  match runP kids s with
  | (t, none) => (t, 0)
  | (t, some e) => (t.undo (min s.L.length t.L.length), e)

theorem attempt_run (B rb jb : Nat) (W0 : World) (kids : Ops) (hrun : RunSpec B rb jb W0 kids) (s : St) (ov : Value) (all big : List QR) (q : QR) (hq : q ∈ big) (hka : SliceOps W0 kids q.ka kids.length) (hkl : q.kl = kids.length)
    (hn1 : s.L.length + s.log.length + kids.cnt ≤ 400) (hn2 : s.out.length + kids.cnt ≤ 400) (w : World) (hB : Below B W0 w) (hBr : B ≤ rb) (hBs : B ≤ w.heap.size) (hJ : RJ B rb jb s ov all big w) (hbs : ∀ k, U jb (RF rb big) w k → B ≤ k) :
    Calls Try.prog 13 #[.pointer (some ⟨jb, 0, none⟩), .func (.func 54) #[] #[.pointer (some ⟨q.x, 0, none⟩), .pointer (some ⟨q.o, 0, none⟩)]] w fun e w' =>
      e = .returned (.int .i64 (attP kids s).2) ∧ ∃ all2 big2 ov2, (∀ u ∈ big, u ∈ big2) ∧ DynH (U jb (RF rb big)) (U jb (RF rb big2)) w w' ∧ RJ B rb jb (attP kids s).1 ov2 all2 big2 w' := by
  have hl : s.L.length = all.length := by rw [hJ.l]; simp
  refine (attempt_grow B jb (RS B rb jb s.log s.out ov big) (RF rb big) (rs_framed _ _ _ _ _ _ _) w (all.map cloQ) hJ.j hJ.s (by simp; omega) 54 _ (callFunc54 _) _ _ _ (fun w1 j1 x1 d1 => by
    rw [List.length_map]
    refine act54 B rb jb W0 kids hrun s ov all big q hq hka hkl hn1 hn2 w1 (hB.trans (d1.below (fun k hk => by omega) hbs)) hBr ⟨j1, x1, hJ.l, hJ.sub⟩ (fun k hk => ?_)
    rcases Nat.lt_or_ge k B with h | h
    · exact hbs k (d1.foot k (by omega) hk)
    · exact h)).mono ?_
  rintro e w' ⟨G2, d2, ⟨rfl, all2, big2, ov2, h1, rfl, h3, h4⟩ | ⟨er, rfl, all2, big2, ov2, h1, rfl, h3, h4⟩ | ⟨_, _, _, F⟩⟩
  · unfold attP
    generalize runP kids s = rr at *
    obtain ⟨t, eo⟩ := rr
    simp only at h4
    subst h4
    exact ⟨rfl, all2, big2, ov2, h1, d2, h3⟩
  · unfold attP
    generalize runP kids s = rr at *
    obtain ⟨t, eo⟩ := rr
    simp only at h4
    subst h4
    exact ⟨rfl, all2, big2, ov2, h1, d2, h3⟩
  · exact F.elim

theorem rj_cells {B rb jb : Nat} {t : St} {ov : Value} {all big : List QR} {w : World} (h : RJ B rb jb t ov all big w) {q : QR} (hq : q ∈ big) :
    w.cell? ⟨q.x, 0, none⟩ = some (.pointer (some ⟨rb, 0, none⟩)) ∧ w.cell? ⟨rb, 0, none⟩ = some (.pointer (some ⟨jb, 0, none⟩)) ∧ w.cell? ⟨rb, 2, none⟩ = some ov ∧ w.frozen? ⟨rb, 2, none⟩ = false ∧ w.cell? ⟨q.o, 1, none⟩ = some (.int .i64 q.n) ∧
    rb < w.heap.size ∧ q.x < w.heap.size ∧ w.ownsRow B 3 1 ov t.out.length (ints t.out) ∧ ov.ownBlock ≠ some rb ∧ ov.ownBlock ≠ some q.x ∧ ov.ownBlock ≠ some q.o := by
  obtain ⟨lv, hr, h1, h2, h3⟩ := h.s.st
  have b := h.s.box q hq
  refine ⟨by rw [cell_of_heap b.1]; rfl, by rw [cell_of_heap hr]; rfl, by rw [cell_of_heap hr]; rfl, frozen_of_heap hr 2, by rw [cell_of_heap b.2]; rfl, heap_lt hr, heap_lt b.1, h2, ?_, ?_, ?_⟩
  · exact fun e => own_ne hr h2 (by decide) e.symm
  · exact fun e => own_ne b.1 h2 (by decide) e.symm
  · exact fun e => own_ne b.2 h2 (by decide) e.symm

theorem rj_drew {B rb jb : Nat} {t : St} {ov : Value} {all big : List QR} {w : World} (h : RJ B rb jb t ov all big w) (m : Nat) : RJ B rb jb t ov all big (w.drewN m) ∧ Dyn (U jb (RF rb big)) w (w.drewN m) := by
  have hF := rj_framed B rb jb t ov all big
  have hb : ∀ k, k < w.heap.size → (w.drewN m).heap[k]? = w.heap[k]? := fun _ _ => rfl
  exact ⟨hF.keep h hb, Dyn.quiet hF h rfl rfl rfl (Nat.le_refl _) hb⟩

end Go.Proofs.Ytekddnnclbnagaa
