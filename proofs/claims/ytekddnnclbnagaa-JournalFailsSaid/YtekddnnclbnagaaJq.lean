/- JournalFails: the walk. -/
import Derived.Test.YtekddnnclbnagaaJp
import Derived.Deep.QuietTactic
import Derived.BigQuiet
namespace Go.Proofs.Ytekddnnclbnagaa
open Go.RowKit

theorem new_block (w : World) (o : Obj) (n : Nat) (h : n = w.heap.size) : (w.alloc o).heap[n]? = some o := by subst h; exact heap_alloc_new w o

/-- The blocks of JournalFails. -/
def fk (s t : Nat) : FBlk := ⟨s, s + 1, s + 1 + 1, t + 1, t + 1 + 1, t + 1 + 1 + 1, t + 1 + 1 + 1 + 1⟩

theorem fk_nodup {s t : Nat} (h : s + 3 ≤ t) : (fk s t).keys.Nodup := by
  simp [fk, FBlk.keys]; omega

theorem start_fails (w wa W : World) (ev : Int) (bv iv : Nat) (hb : Below (w.heap.size + 1 + 1 + 1) (((w.alloc (.cells #[.int .i64 ev] 3)).alloc (.cells #[.int .u8 bv] 5)).alloc (.cells #[.int .u8 iv] 5)) wa)
    (hW : W = (((((wa.alloc (.cells #[.slice none 0 0, .bool false] 29)).alloc (.cells #[.pointer (some ⟨wa.heap.size, 0, none⟩)] 26)).alloc (.cells #[.int .i64 0] 3)).alloc (.cells #[.bool false] 4)).alloc (.cells #[.int .i64 0] 33))) :
    JAt w.heap.size wa.heap.size [] false W ∧ Vars ((fk w.heap.size wa.heap.size).vars wa.heap.size ev bv iv 0 false 0) W ∧ Below w.heap.size w W := by
  subst hW
  have hs := hb.size
  simp only [alloc_size] at hs
  have a0 : wa.heap[w.heap.size]? = some (.cells #[.int .i64 ev] 3) := by
    rw [hb.block _ (by omega)]; exact alloc_heap (alloc_heap (heap_alloc_new _ _))
  have a1 : wa.heap[w.heap.size + 1]? = some (.cells #[.int .u8 bv] 5) := by
    rw [hb.block _ (by omega)]; exact alloc_heap (new_block _ _ _ (by simp))
  have a2 : wa.heap[w.heap.size + 1 + 1]? = some (.cells #[.int .u8 iv] 5) := by
    rw [hb.block _ (by omega)]; exact new_block _ _ _ (by simp)
  refine ⟨⟨by omega, .slice none 0 0, alloc_heap (alloc_heap (alloc_heap (alloc_heap (heap_alloc_new _ _)))), World.ownsRow_nil _ _ _ _⟩, ?_, ?_⟩
  · intro x hx
    simp only [FBlk.vars, fk, List.mem_cons, List.not_mem_nil, or_false] at hx
    rcases hx with rfl | rfl | rfl | rfl | rfl | rfl | rfl
    · exact alloc_heap (alloc_heap (alloc_heap (alloc_heap (alloc_heap a0))))
    · exact alloc_heap (alloc_heap (alloc_heap (alloc_heap (alloc_heap a1))))
    · exact alloc_heap (alloc_heap (alloc_heap (alloc_heap (alloc_heap a2))))
    · exact alloc_heap (alloc_heap (alloc_heap (new_block _ _ _ (by simp))))
    · exact alloc_heap (alloc_heap (new_block _ _ _ (by simp)))
    · exact alloc_heap (new_block _ _ _ (by simp))
    · exact new_block _ _ _ (by simp)
  · have b0 : Below w.heap.size w (((w.alloc (.cells #[.int .i64 ev] 3)).alloc (.cells #[.int .u8 bv] 5)).alloc (.cells #[.int .u8 iv] 5)) := (((Below.refl _ _).alloc (Nat.le_refl _) _).alloc (by simp) _).alloc (by simp; omega) _
    exact (((((b0.trans (hb.mono (by omega))).alloc (by omega) _).alloc (by simp; omega) _).alloc (by simp; omega) _).alloc (by simp; omega) _).alloc (by simp; omega) _

set_option maxHeartbeats 2000000 in
theorem fails_walk (a0 : Int) (_w0 : (Lit.int .i64 a0).wf = true) (a1 : Int) (w1 : (Lit.int .u8 a1).wf = true) (a2 : Int) (w2 : (Lit.int .u8 a2).wf = true) (w : World) :
    Calls Try.prog 6 #[.int .i64 a0, .int .u8 a1, .int .u8 a2] w fun e w' => e = .returned (.bool true) ∧ Below w.heap.size w w' := by
  have hb1 : 0 ≤ a1 ∧ a1 ≤ 255 := bounds_u8 w1
  have hb2 : 0 ≤ a2 ∧ a2 ≤ 255 := bounds_u8 w2
  obtain ⟨n1, rfl⟩ : ∃ n : Nat, a1 = n := ⟨a1.toNat, by omega⟩
  obtain ⟨n2, rfl⟩ : ∃ n : Nat, a2 = n := ⟨a2.toNat, by omega⟩
  have hn1 : n1 ≤ 255 := by omega
  have hn2 : n2 ≤ 255 := by omega
  obtain ⟨er, her⟩ : ∃ er : Int, er = if a0 = 0 then 1 else a0 := ⟨_, rfl⟩
  have hfail : ∀ w, Calls Try.prog 31 #[.int .i64 a0] w fun e w' => e = .panicked [{ v := .iface 63 (.agg #[.int .i64 er]), recovered := false }] ∧ w = w' := by
    intro w; rw [her]; exact fail_any a0 w
  have HE := Lib.hid her
  have HF := Lib.hid hfail
  clear her hfail
  have hmf := makeFunc_run
  go_enter Try.func6, Try.ntmps6
  go_wp2_with (go_at_call 11; refine (awake_any _).mono ?_; rintro e wa ⟨rfl, hbb⟩)
  simp only [alloc_size] at hbb
  obtain ⟨j0, v0, b0⟩ := start_fails w wa _ a0 n1 n2 hbb rfl
  have hsz := hbb.size
  simp only [alloc_size] at hsz
  have hK := fk_nodup (s := w.heap.size) (t := wa.heap.size) (by omega)
  have A := Lib.hid (attempt_any w.heap.size wa.heap.size _ _ (fvars_framed (fk w.heap.size wa.heap.size) wa.heap.size a0 n1 n2 0 false 0) _ [] j0 v0 (by simp) 27 _ (callFunc27 _) _ _ _
    (fun w1 j1 t1 _ => act27 er a0 HF.out w.heap.size wa.heap.size _ hK n1 n2 hn1 hn2 (n1 % 21) rfl w1 j1 t1))
  have hU := fun q (hq : U wa.heap.size (VG (fk w.heap.size wa.heap.size).keys) _ q) => (show w.heap.size ≤ q from hq.elim (jf_base j0 q) (fun h => by simp [VG, fk, FBlk.keys] at h; omega))
  have HU := Lib.hid hU
  have HB := Lib.hid b0
  clear hbb j0 v0 b0 hU hK
  go_wp2_with (go_at_call 13; refine A.out.mono ?_)
  rintro e w3 ⟨d3, hatt⟩
  obtain ⟨rfl, j3, v3⟩ : e = .returned (.int .i64 0) ∧ JAt w.heap.size wa.heap.size (List.replicate (n1 % 21) (F28 (fk w.heap.size wa.heap.size))) false w3 ∧ Vars ((fk w.heap.size wa.heap.size).vars wa.heap.size a0 n1 n2 ((n1 % 21 : Nat) : Int) true er) w3 := by
    rcases hatt with ⟨rfl, j1, t1⟩ | ⟨x, _, F⟩ | ⟨_, _, _, F⟩
    · exact ⟨rfl, j1, t1⟩
    · exact F.elim
    · exact F.elim
  have HB3 := Lib.hid (HB.out.trans (d3.below (fun q hq => by simp; omega) HU.out))
  have ce := vcell v3 w.heap.size (.int .i64 a0) 3 (by simp [FBlk.vars, fk])
  have cb := vcell v3 (w.heap.size + 1) (.int .u8 n1) 5 (by simp [FBlk.vars, fk])
  have cj := vcell v3 (wa.heap.size + 1) (.pointer (some ⟨wa.heap.size, 0, none⟩)) 26 (by simp [FBlk.vars, fk])
  have cn := vcell v3 (wa.heap.size + 1 + 1) (.int .i64 ((n1 % 21 : Nat) : Int)) 3 (by simp [FBlk.vars, fk])
  have ca := vcell v3 (wa.heap.size + 1 + 1 + 1) (.bool true) 4 (by simp [FBlk.vars, fk])
  have cr := vcell v3 (wa.heap.size + 1 + 1 + 1 + 1) (.int .i64 er) 33 (by simp [FBlk.vars, fk])
  obtain ⟨⟨la, lc, hc0⟩, _⟩ := j3.cells
  simp only [List.length_replicate] at hc0
  have L := Lib.hid (fun wz (hz : wz.cell? ⟨wa.heap.size, 0, none⟩ = w3.cell? ⟨wa.heap.size, 0, none⟩) => len_any wa.heap.size la (n1 % 21) lc wz (hz.trans hc0) (by unfold maxLen; omega))
  clear hatt j3 v3 d3 A
  have L' : ∀ m, Calls Try.prog 17 #[.pointer (some ⟨wa.heap.size, 0, none⟩)] (w3.drewN m) fun e w' => e = .returned (.int .i64 ((n1 % 21 : Nat) : Int)) ∧ w' = w3.drewN m :=
    fun m => (L.out (w3.drewN m) (by rfl)).mono (by rintro e w' ⟨rfl, rfl⟩; exact ⟨rfl, rfl⟩)
  have HL := Lib.hid L'
  clear L'
  have hE := HE.out
  by_cases h0 : a0 = 0
  · subst h0
    obtain rfl : er = 1 := by simpa using hE
    clear hE
    go_wp2
    go_quiet ((go_at_call 17; exact Calls.quiet_of_same (HL.out _)))
    go_wp2
    go_ret
    exact ⟨rfl, below_drewN HB3.out _⟩
  · rw [if_neg h0] at hE
    subst hE
    have h0' : (er == 0) = false := by simpa using h0
    go_wp2
    go_quiet ((go_at_call 17; exact Calls.quiet_of_same (HL.out _)))
    go_wp2
    go_ret
    exact ⟨rfl, below_drewN HB3.out _⟩

end Go.Proofs.Ytekddnnclbnagaa
