/- JournalPanics: the recovering function, and the walk. -/
import Derived.Test.YtekddnnclbnagaaJs
import Derived.Deep.QuietTactic
import Derived.BigQuiet
import Derived.Laws.EntriesVeiled
namespace Go.Proofs.Ytekddnnclbnagaa
open Go.RowKit

theorem catch23 (gb : Nat) (val : Int) (older : List PanicEntry) (w : World) (x : Value) (h : VarAt gb x 20 w) :
    CallsD Try.prog 23 #[.pointer (some ⟨gb, 0, none⟩)] (.panicking ({ v := .iface 3 (.int .i64 val), recovered := false } :: older)) w fun e u' w' =>
      e = .returned (.tuple #[]) ∧ u' = .panicking ({ v := .iface 3 (.int .i64 val), recovered := true } :: older) ∧ w' = w.setCell ⟨gb, 0, none⟩ (.iface 3 (.int .i64 val)) := by
  have hc : w.cell? ⟨gb, 0, none⟩ = some x := by rw [cell_of_heap h]; rfl
  have hz := frozen_of_heap h 0
  refine callsD_of_wpS Try.func23 rfl fun c₀ cs hu => ?_
  apply wpS_region
  simp [wpOpsS, go_sem, recoverD, hu, Try.ntmps23, hc, hz, bodyPostS, results, Try.results23]

theorem settle_none (v : Value) (older : List PanicEntry) (h : ∀ x ∈ older, x.goexit = false) : settle (.panicking ({ v := v, recovered := true } :: older)) = .returning := by
  have : older.dropWhile (!·.goexit) = [] := by
    induction older with
    | nil => rfl
    | cons a l ih => rw [List.dropWhile_cons, if_pos (by simp [h a (by simp)])]; exact ih (fun x hx => h x (by simp [hx]))
  simp [settle, this]

set_option maxHeartbeats 2000000 in
theorem run22 (B : Nat) (X : PFix) (r v j n gb : Nat) (W0 : World) (z : Nat → Int) (hz : BytesAt W0 X.sa X.len X.cap z) (hW0 : W0.heap.size = B) (h5 : X.len ≤ 5) (w : World) (hB : Below B W0 w) (hgb : B ≤ gb)
    (hkb : ∀ k ∈ [r, v, j, n], B ≤ k) (hK : [r, v, j, n].Nodup) (hJ : JAt B X.jb [F21] false w)
    (hV : Vars [(r, .slice X.sa X.len X.cap, 38), (v, .int .i64 X.val, 3), (j, .pointer (some ⟨X.jb, 0, none⟩), 26), (n, .int .i64 0, 3)] w) (hg : VarAt gb .nilIface 20 w) :
    Calls Try.prog 22 #[.pointer (some ⟨gb, 0, none⟩), .pointer (some ⟨r, 0, none⟩), .pointer (some ⟨v, 0, none⟩), .pointer (some ⟨j, 0, none⟩), .pointer (some ⟨n, 0, none⟩)] w fun e w' =>
      e = .returned (.tuple #[]) ∧ JAt B X.jb [F21] false w' ∧ Vars [(v, .int .i64 X.val, 3), (j, .pointer (some ⟨X.jb, 0, none⟩), 26), (n, .int .i64 0, 3)] w' ∧ VarAt gb (.iface 3 (.int .i64 X.val)) 20 w' ∧ Below B W0 w' := by
  have hsz := hB.size
  have hlt : ∀ k ∈ [r, v, j, n], k < w.heap.size := by
    intro k hk
    simp only [List.mem_cons, List.not_mem_nil, or_false] at hk
    rcases hk with rfl | rfl | rfl | rfl
    · exact heap_lt (hV (_, _, _) (.head _))
    · exact heap_lt (hV (_, _, _) (.tail _ (.head _)))
    · exact heap_lt (hV (_, _, _) (.tail _ (.tail _ (.head _))))
    · exact heap_lt (hV (_, _, _) (.tail _ (.tail _ (.tail _ (.head _)))))
  have hKn : (PBlk.mk r v j n w.heap.size).keys.Nodup := by
    have h1 := hlt r (by simp)
    have h2 := hlt v (by simp)
    have h3 := hlt j (by simp)
    have h4 := hlt n (by simp)
    simp [PBlk.keys] at hK ⊢
    omega
  have hkb' : ∀ k ∈ (PBlk.mk r v j n w.heap.size).keys, B ≤ k := by
    intro k hk
    simp only [PBlk.keys, List.mem_cons, List.not_mem_nil, or_false] at hk
    rcases hk with h | h | h | h | h
    · exact hkb k (by simp [h])
    · exact hkb k (by simp [h])
    · exact hkb k (by simp [h])
    · exact hkb k (by simp [h])
    · omega
  have hnk : gb ∉ (PBlk.mk r v j n w.heap.size).keys := by
    intro hm
    simp only [PBlk.keys, List.mem_cons, List.not_mem_nil, or_false] at hm
    have hgl := heap_lt hg
    unfold VarAt at hg
    rcases hm with rfl | rfl | rfl | rfl | h
    · have := (hV (_, _, _) (.head _)); unfold VarAt at this; rw [hg] at this; simp at this
    · have := (hV (_, _, _) (.tail _ (.head _))); unfold VarAt at this; rw [hg] at this; simp at this
    · have := (hV (_, _, _) (.tail _ (.tail _ (.head _)))); unfold VarAt at this; rw [hg] at this; simp at this
    · have := (hV (_, _, _) (.tail _ (.tail _ (.tail _ (.head _))))); unfold VarAt at this; rw [hg] at this; simp at this
    · omega
  have hv1 : Vars ((PBlk.mk r v j n w.heap.size).vars X 0 []) (w.alloc (.cells #[F24 (PBlk.mk r v j n w.heap.size)] 41)) := by
    intro x hx
    simp only [PBlk.vars, List.mem_cons, List.not_mem_nil, or_false] at hx
    rcases hx with rfl | rfl | rfl | rfl | rfl
    · exact alloc_heap (hV _ (by simp))
    · exact alloc_heap (hV _ (by simp))
    · exact alloc_heap (hV _ (by simp))
    · exact alloc_heap (hV _ (by simp))
    · exact heap_alloc_new _ _
  have hj1 := (jat_framed B X.jb [F21] false).keep hJ (w' := w.alloc (.cells #[F24 (PBlk.mk r v j n w.heap.size)] 41)) (fun k hk => Below.heap_alloc _ _ _ hk)
  have hg1 : VarAt gb .nilIface 20 (w.alloc (.cells #[F24 (PBlk.mk r v j n w.heap.size)] 41)) := alloc_heap hg
  have hb1 := hB.alloc (by rw [← hW0]; exact hsz) (.cells #[F24 (PBlk.mk r v j n w.heap.size)] 41)
  have D := Lib.hid (down24 B (PBlk.mk r v j n w.heap.size) X W0 z hz hW0 h5 hKn hkb' X.len 0 (by omega) _ 0 hb1 (by omega) hj1 hv1)
  have HJ1 := Lib.hid hj1
  have HG1 := Lib.hid hg1
  have HB1 := Lib.hid hb1
  have HKB := Lib.hid hkb'
  have HNK := Lib.hid hnk
  have hsB : B ≤ w.heap.size := by omega
  have hmf := makeFunc_run
  clear hz hW0 hB hJ hV hg hlt hKn hkb' hnk hv1 hj1 hg1 hb1 hK hkb h5
  go_enter_defers Try.func22, Try.ntmps22
  go_wp2_with (go_at_call 24; refine D.out.mono ?_)
  rintro e w2 d2 ⟨⟨older, he, hold⟩, j2, v2⟩
  have hg2 : VarAt gb .nilIface 20 w2 := by
    have hnu : ¬ U X.jb (VG (PBlk.mk r v j n w.heap.size).keys) (w.alloc (.cells #[F24 (PBlk.mk r v j n w.heap.size)] 41)) gb := by
      rintro (h | h)
      · exact jf_type HJ1.out HG1.out (by decide) (by decide) h
      · exact HNK.out h
    exact (d2.block gb (heap_lt HG1.out) hnu).trans HG1.out
  subst he
  have b2 := HB1.out.trans (d2.below (fun k hk => by simp; omega) (ubase HJ1.out HKB.out))
  go_wp2
  refine leaves_cons (f := 23) (args := #[.pointer (some ⟨gb, 0, none⟩)]) (by simp) (by simp [go_sem]) ?_
  refine (catch23 gb X.val older w2 .nilIface hg2).mono ?_
  rintro e u' w'' ⟨rfl, rfl, rfl⟩
  have hne : ∀ x ∈ (PBlk.mk r v j n w.heap.size).vars X 0 [], x.1 ≠ gb := by
    intro x hx e
    refine HNK.out ?_
    have : x.1 ∈ ((PBlk.mk r v j n w.heap.size).vars X 0 []).map (·.1) := List.mem_map_of_mem hx
    rw [e] at this
    simpa [PBlk.vars, PBlk.keys] using this
  obtain ⟨s1, s2, s3⟩ := jat_setVar (x := .iface 3 (.int .i64 X.val)) j2 (by decide) (by decide) hg2
  have fin : Ending.returned (.tuple #[]) = Ending.returned (.tuple #[]) ∧ JAt B X.jb [F21] false (w2.setCell ⟨gb, 0, none⟩ (.iface 3 (.int .i64 X.val))) ∧ Vars [(v, .int .i64 X.val, 3), (j, .pointer (some ⟨X.jb, 0, none⟩), 26), (n, .int .i64 0, 3)] (w2.setCell ⟨gb, 0, none⟩ (.iface 3 (.int .i64 X.val))) ∧ VarAt gb (.iface 3 (.int .i64 X.val)) 20 (w2.setCell ⟨gb, 0, none⟩ (.iface 3 (.int .i64 X.val))) ∧ Below B W0 (w2.setCell ⟨gb, 0, none⟩ (.iface 3 (.int .i64 X.val))) := by
    refine ⟨rfl, s1, fun x hx => ?_, s2, b2.setCell hgb _⟩
    have hx' : x ∈ (PBlk.mk r v j n w.heap.size).vars X 0 [] := by
      simp only [PBlk.vars, List.mem_cons, List.not_mem_nil, or_false] at hx ⊢
      rcases hx with h | h | h <;> simp [h]
    exact s3 _ _ _ (hne x hx') (v2 x hx')
  dsimp only
  rw [settle_none _ _ hold]
  exact ⟨_, results_none rfl _ _ _, fin⟩

theorem iface_eq (a b : Int) (w : World) : (binOp .eql 20 (.iface 3 (.int .i64 a)) (.iface 3 (.int .i64 b))).run Try.prog w = .ok (.bool (a == b)) w := by kernel_rfl

theorem new_block' (w : World) (o : Obj) (n : Nat) (h : n = w.heap.size) : (w.alloc o).heap[n]? = some o := by subst h; exact heap_alloc_new w o

set_option maxHeartbeats 4000000 in
theorem panics_core (sa : Option Addr) (len cap : Nat) (z : Nat → Int) (val : Int) (w : World) (hbs : BytesAt w sa len cap z) :
    Calls Try.prog 5 #[.slice sa len cap, .int .i64 val] w fun e w' => e = .returned (.bool true) ∧ Below w.heap.size w w' := by
  have hlen : len ≤ maxLen := hbs.1
  unfold maxLen at hlen
  have HBS := Lib.hid hbs
  have hmf := makeFunc_run
  clear hbs
  by_cases h5 : 5 < len
  · go_enter Try.func5, Try.ntmps5
    go_wp2_with (go_at_call 11; refine (awake_any _).mono ?_)
    rintro e wa ⟨rfl, hbb⟩
    have c0 : wa.cell? ⟨w.heap.size, 0, none⟩ = some (.slice sa len cap) := by
      rw [hbb.cell (by simp; omega)]; rw [cell_of_heap (alloc_heap (heap_alloc_new _ _))]; rfl
    have HB := Lib.hid hbb
    clear hbb
    go_wp2
    go_ret
    have := HB.out
    simp only [alloc_size] at this
    exact ⟨rfl, (((Below.refl _ _).alloc (Nat.le_refl _) _).alloc (by simp) _).trans (this.mono (by omega))⟩
  · go_enter Try.func5, Try.ntmps5
    go_wp2_with (go_at_call 11; refine (awake_any _).mono ?_)
    rintro e wa ⟨rfl, hbb⟩
    simp only [alloc_size] at hbb
    have a0 : wa.heap[w.heap.size]? = some (.cells #[.slice sa len cap] 38) := by
      rw [hbb.block _ (by omega)]; exact alloc_heap (heap_alloc_new _ _)
    have a1 : wa.heap[w.heap.size + 1]? = some (.cells #[.int .i64 val] 3) := by
      rw [hbb.block _ (by omega)]; exact new_block' _ _ _ (by simp)
    have hsz := hbb.size
    simp only [alloc_size] at hsz
    have c0 : wa.cell? ⟨w.heap.size, 0, none⟩ = some (.slice sa len cap) := by rw [cell_of_heap a0]; rfl
    have j0 : JAt w.heap.size wa.heap.size [] false (((wa.alloc (.cells #[.slice none 0 0, .bool false] 29)).alloc (.cells #[.pointer (some ⟨wa.heap.size, 0, none⟩)] 26)).alloc (.cells #[.int .i64 0] 3)) :=
      ⟨by omega, .slice none 0 0, alloc_heap (alloc_heap (heap_alloc_new _ _)), World.ownsRow_nil _ _ _ _⟩
    have v0 : Vars [(w.heap.size, .slice sa len cap, 38), (w.heap.size + 1, .int .i64 val, 3), (wa.heap.size + 1, .pointer (some ⟨wa.heap.size, 0, none⟩), 26), (wa.heap.size + 1 + 1, .int .i64 0, 3)] (((wa.alloc (.cells #[.slice none 0 0, .bool false] 29)).alloc (.cells #[.pointer (some ⟨wa.heap.size, 0, none⟩)] 26)).alloc (.cells #[.int .i64 0] 3)) := by
      intro x hx
      simp only [List.mem_cons, List.not_mem_nil, or_false] at hx
      rcases hx with rfl | rfl | rfl | rfl
      · exact alloc_heap (alloc_heap (alloc_heap a0))
      · exact alloc_heap (alloc_heap (alloc_heap a1))
      · exact alloc_heap (new_block' _ _ _ (by simp))
      · exact new_block' _ _ _ (by simp)
    have b0 : Below w.heap.size w (((wa.alloc (.cells #[.slice none 0 0, .bool false] 29)).alloc (.cells #[.pointer (some ⟨wa.heap.size, 0, none⟩)] 26)).alloc (.cells #[.int .i64 0] 3)) := by
      have b1 : Below w.heap.size w ((w.alloc (.cells #[.slice sa len cap] 38)).alloc (.cells #[.int .i64 val] 3)) := ((Below.refl _ _).alloc (Nat.le_refl _) _).alloc (by simp) _
      exact (((b1.trans (hbb.mono (by omega))).alloc (by omega) _).alloc (by simp; omega) _).alloc (by simp; omega) _
    have R := Lib.hid (record_any w.heap.size wa.heap.size (.func 21) #[] #[] _ _ j0 (by simp))
    have HJ0 := Lib.hid j0
    have HV0 := Lib.hid v0
    have HB0 := Lib.hid b0
    clear hbb a0 a1 j0 v0 b0
    go_wp2_with (go_at_call 19; refine R.out.mono ?_)
    rintro e w1 ⟨rfl, j1, d1⟩
    obtain ⟨d1', v1⟩ := d1.left (vars_framed _ _ rfl) HV0.out ((vars_apart _ _ rfl (by simp)).ne HJ0.out HV0.out)
    have b1 := HB0.out.trans (d1.below (fun k hk => by simp; omega) (jf_base HJ0.out))
    have hs1 := d1.size
    simp only [alloc_size] at hs1
    have hb2 := b1.alloc (B := w.heap.size) (by omega) (.cells #[.nilIface] 20)
    have R2 := Lib.hid (run22 w.heap.size ⟨sa, len, cap, val, wa.heap.size⟩ w.heap.size (w.heap.size + 1) (wa.heap.size + 1) (wa.heap.size + 1 + 1) w1.heap.size w z HBS.out rfl (by show len ≤ 5; omega) (w1.alloc (.cells #[.nilIface] 20)) hb2 (by omega)
      (by simp; omega) (by simp; omega) ((jat_framed _ _ _ _).keep j1 (fun k hk => Below.heap_alloc _ _ _ hk)) (fun x hx => alloc_heap (v1 x hx)) (heap_alloc_new _ _))
    clear j1 d1 d1' v1 b1 hb2 c0
    go_wp2_with (go_at_call 22; refine R2.out.mono ?_)
    rintro e w2 ⟨rfl, j2, v2, g2, b2⟩
    have cg : w2.cell? ⟨w1.heap.size, 0, none⟩ = some (.iface 3 (.int .i64 val)) := by rw [cell_of_heap g2]; rfl
    have cv := vcell v2 (w.heap.size + 1) (.int .i64 val) 3 (by simp)
    have cj := vcell v2 (wa.heap.size + 1) (.pointer (some ⟨wa.heap.size, 0, none⟩)) 26 (by simp)
    have cn := vcell v2 (wa.heap.size + 1 + 1) (.int .i64 0) 3 (by simp)
    obtain ⟨⟨la, lc, hc0⟩, _⟩ := j2.cells
    have L := Lib.hid (len_any wa.heap.size la _ lc w2 hc0 (by simp [maxLen]))
    have HB2 := Lib.hid b2
    have qe := iface_eq val val
    rw [show (val == val) = true by simp] at qe
    clear j2 v2 g2 b2 R R2 hc0
    go_wp2_with (go_at_call 17; refine L.out.mono ?_; rintro e w' ⟨rfl, rfl⟩)
    go_ret
    exact ⟨rfl, HB2.out⟩

theorem panics_walk {H : Type} (enc : TypeId × Value → H) (v0 : Value) (d0 : DataW H) (p0 : List MemPlace) (base : Nat) {w : World}
    (hok : Value.okWide Try.prog w .any base 38 v0) (h : DataW.Trod enc Try.prog w 0 (fun _ => true) true 38 v0 d0 p0) (_ : ∀ x ∈ p0, x.block < w.heap.size) (a1 : Int) (_w1 : (Lit.int .i64 a1).wf = true) (_ : World) :
    Calls Try.prog 5 #[v0, .int .i64 a1] w fun e w' => e = .returned (.bool true) ∧ Below w.heap.size w w' := by
  obtain ⟨a, len, cap, z, rfl, hb⟩ := bytes_open hok h
  exact panics_core a len cap z a1 w hb

end Go.Proofs.Ytekddnnclbnagaa
