/- JournalRuns: a result is put; the act of a nested transaction. -/
import Derived.Test.YtekddnnclbnagaaLd
namespace Go.Proofs.Ytekddnnclbnagaa
set_option linter.unusedSimpArgs false
set_option linter.unusedVariables false
open Go.RowKit

theorem put_run {B rb jb : Nat} {t : St} {ov v' : Value} {all big : List QR} {w w1 : World} {cc : Int} {o : Obj} (h : RJ B rb jb t ov all big w)
    (h1 : w1.ownsRow B 3 1 v' (t.out.length + 1) (ints (t.out ++ [cc]))) (h2 : ((w.alloc o).drew).grownBy w1 ov.ownBlock) (h3 : v'.ownBlock = ov.ownBlock ∨ v'.ownBlock = some (w.heap.size + 1)) :
    RJ B rb jb (t.put cc) v' all big (w1.setCell ⟨rb, 2, none⟩ v') ∧ Dyn (U jb (RF rb big)) w (w1.setCell ⟨rb, 2, none⟩ v') := by
  obtain ⟨lv, hr, hl, ho, hne⟩ := h.s.st
  obtain ⟨r1, r2⟩ := rs_out h.s hr hl ho hne h1 h2 h3
  obtain ⟨r3, r4⟩ := r2.right (jat_framed B jb (all.map cloQ) false) h.j (fun k hk hf => (rs_apart B rb jb t.log t.out ov big).ne h.j h.s k hf hk)
  exact ⟨⟨r4, r1, h.l, h.sub⟩, r3⟩

theorem callFunc54 (cap : Array Value) (w : World) : (callFunc 54 cap).run Try.prog w = .ok (.enter 54 cap) w := by kernel_rfl

/-- The act of a nested transaction. -/
theorem act54 (B rb jb : Nat) (W0 : World) (kids : Ops) (hrun : RunSpec B rb jb W0 kids) (s : St) (ov : Value) (all big : List QR) (q : QR) (hq : q ∈ big) (hka : SliceOps W0 kids q.ka kids.length) (hkl : q.kl = kids.length)
    (hn1 : s.L.length + s.log.length + kids.cnt ≤ 400) (hn2 : s.out.length + kids.cnt ≤ 400) (w : World) (hB : Below B W0 w) (hBr : B ≤ rb) (hJ : RJ B rb jb s ov all big w) (hbs : ∀ k, U jb (RF rb big) w k → B ≤ k) :
    Calls Try.prog 54 #[.pointer (some ⟨q.x, 0, none⟩), .pointer (some ⟨q.o, 0, none⟩)] w fun e w' => ∃ G2, DynH (U jb (RF rb big)) (U jb G2) w w' ∧
      ActEnds B jb G2 all.length
        (fun w => ∃ all2 big2 ov2, (∀ u ∈ big, u ∈ big2) ∧ G2 = RF rb big2 ∧ RJ B rb jb (runP kids s).1 ov2 all2 big2 w ∧ (runP kids s).2 = none)
        (fun er w => ∃ all2 big2 ov2, (∀ u ∈ big, u ∈ big2) ∧ G2 = RF rb big2 ∧ RJ B rb jb ((runP kids s).1.undo (min s.L.length (runP kids s).1.L.length)) ov2 all2 big2 w ∧ (runP kids s).2 = some er) (fun _ _ _ => False) e w' := by
  have P := Lib.hid (hrun w s ov all big q.ka q.kc hB hBr hJ hbs hn1 hn2 hka)
  have b := hJ.s.box q hq
  have c1 : w.cell? ⟨q.x, 0, none⟩ = some (.pointer (some ⟨rb, 0, none⟩)) := by rw [cell_of_heap b.1]; rfl
  have c2 : w.cell? ⟨q.o, 2, none⟩ = some (.slice q.ka kids.length q.kc) := by rw [cell_of_heap b.2, hkl]; rfl
  have hs := runP_size kids s
  have HL := Lib.hid (show s.L.length = all.length by rw [hJ.l]; simp)
  have HBR := Lib.hid hBr
  clear b hJ hB hka hrun hbs hkl hBr
  generalize hrr : runP kids s = rr at *
  have HS := Lib.hid hs
  clear hs hrr
  go_enter Try.func54, Try.ntmps54
  go_wp2_with (go_at_call 33; refine P.out.mono ?_)
  rintro e w2 ⟨all2, big2, ov2, hsub, d2, j2, rfl⟩
  obtain ⟨t, eo⟩ := rr
  cases eo with
  | none =>
    have E := Lib.hid (show _ ∧ _ ∧ _ from ⟨hsub, d2, j2⟩)
    clear hsub d2 j2
    go_wp2
    go_end0
    obtain ⟨e1, e2, e3⟩ := E.out
    refine ⟨_, e2, .inl ⟨all2.map cloQ, fun w => RS B rb jb t.log t.out ov2 big2 w, rs_framed _ _ _ _ _ _ _, e3.j, e3.s, rfl, fun w' j x => ?_⟩⟩
    exact ⟨all2, big2, e1, rfl, ov2, ⟨j, x, e3.l, e3.sub⟩⟩
  | some er =>
    have hl2 : t.L.length = all2.length := by rw [j2.l]; simp
    have hsz := HS.out
    have hL := HL.out
    have hBR := HBR.out
    simp only at hsz
    refine ⟨rfl, _, d2, .inr ⟨all2.map cloQ, RIQ B rb jb all2 big2 t.log t.out ov2, riq_undoes B rb jb all2 big2 t.log t.out ov2 j2.sub hBR (by omega), by simp; omega, j2.j, ⟨by simp, by simp, by simpa using j2.s⟩, .inl ⟨er, rfl, fun w' j x => ?_⟩⟩⟩
    have hm : min all.length (all2.map cloQ).length = min s.L.length t.L.length := by simp [hL, hl2]
    rw [hm] at j x
    have hm2 : (List.take (min s.L.length t.L.length) (all2.map cloQ)).length = min s.L.length t.L.length := by simp; omega
    obtain ⟨_, _, i3⟩ := x
    rw [hm2] at i3
    refine ⟨all2.take (min s.L.length t.L.length), big2, ov2, hsub, rfl, ⟨by rw [List.map_take]; exact j, ?_, ?_, fun u hu => j2.sub u (List.mem_of_mem_take hu)⟩, rfl⟩
    · have hl3 := j2.l
      simp only at hl3
      simpa [St.undo, hl3, List.map_drop] using i3
    · have hl3 := j2.l
      simp only at hl3
      simp only [St.undo, hl3, List.map_take]

end Go.Proofs.Ytekddnnclbnagaa
