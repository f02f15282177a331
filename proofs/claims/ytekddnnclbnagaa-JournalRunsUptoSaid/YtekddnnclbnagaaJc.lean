/- The journal's 'last' (it calls and removes the last undo function), and Rewind. -/
import Derived.Test.YtekddnnclbnagaaJb
import Derived.Deep.LoopGhost
namespace Go.Proofs.Ytekddnnclbnagaa
set_option linter.unusedSimpArgs false
set_option linter.unusedVariables false
open Go.RowKit

/-- The journal's blocks and those of what the undo functions restore. -/
def U (jb : Nat) (G : World → Nat → Prop) (w : World) (k : Nat) : Prop := JF jb w k ∨ G w k

/-- The blocks of what is restored are of other types than the journal's. -/
def Apart (I : World → Prop) (G : World → Nat → Prop) : Prop := ∀ w k, I w → G w k → ∃ c e f, w.heap[k]? = some (.cells c e f) ∧ e ≠ 1 ∧ e ≠ 29

theorem Apart.ne {I : World → Prop} {G : World → Nat → Prop} (h : Apart I G) {B jb : Nat} {us : List Value} {b : Bool} {w : World} (hJ : JAt B jb us b w) (hI : I w) (k : Nat) (hk : G w k) : ¬ JF jb w k := by
  obtain ⟨c, e, f, h1, h2, h3⟩ := h w k hI hk
  exact jf_type hJ h1 h2 h3

/-- What an undo function does to the state that the proof speaks of: 'I us': the state when us are still to be undone. -/
structure Undoes (B jb : Nat) (I : List Value → World → Prop) (G : World → Nat → Prop) : Prop where
  fr : ∀ us, Framed (I us) G
  ap : ∀ us, Apart (I us) G
  call : ∀ us u w1, JAt B jb us true w1 → I (us ++ [u]) w1 → ∃ K cap, u = .func (.func K) #[] cap ∧ (∀ w, (callFunc K cap).run Try.prog w = .ok (.enter K cap) w) ∧
    Calls Try.prog K cap w1 fun e w2 => e = .returned (.tuple #[]) ∧ JAt B jb us true w2 ∧ I us w2 ∧ Dyn (U jb G) w1 w2

theorem last_deferred (bx jb : Nat) (u : FrameMode) (w : World) (hb : w.cell? ⟨bx, 0, none⟩ = some (.pointer (some ⟨jb, 0, none⟩))) (v : Value)
    (hc : w.cell? ⟨jb, 1, none⟩ = some v) (hz : w.frozen? ⟨jb, 1, none⟩ = false) :
    CallsD Try.prog 57 #[.pointer (some ⟨bx, 0, none⟩)] u w fun e u' w' => u' = u ∧ e = .returned (.tuple #[]) ∧ w' = w.setCell ⟨jb, 1, none⟩ (.bool false) := by
  go_enter_d Try.func57, Try.ntmps57
  go_wp2
  go_end0
  exact ⟨rfl, rfl⟩

/-- The journal behind 'last''s own stores, ahead of the call of the undo function. -/
theorem last_mid (B jb g cp : Nat) (w : World) (us : List Value) (x : Value) (cur : Array Value) (o : Obj) (hB : B ≤ jb) (hBg : B ≤ g)
    (hj : w.heap[jb]? = some (.cells #[.slice (some ⟨g, 0, none⟩) (us.length + 1) cp, .bool false] 29 (0, 0)))
    (hg : w.heap[g]? = some (.cells cur 1 (0, 0))) (hcap : us.length + 1 ≤ cp) (hmx : cp ≤ maxLen) (hsz : cur.size = cp) (htk : cur.toList.take (us.length + 1) = us ++ [x]) :
    Dyn (JF jb) w (((w.setCell ⟨jb, 0, none⟩ (.slice (some ⟨g, 0, none⟩) us.length cp)).setCell ⟨jb, 1, none⟩ (.bool true)).alloc o).drew ∧
    JAt B jb us true (((w.setCell ⟨jb, 0, none⟩ (.slice (some ⟨g, 0, none⟩) us.length cp)).setCell ⟨jb, 1, none⟩ (.bool true)).alloc o).drew ∧
    (((w.setCell ⟨jb, 0, none⟩ (.slice (some ⟨g, 0, none⟩) us.length cp)).setCell ⟨jb, 1, none⟩ (.bool true)).alloc o).drew.heap[w.heap.size]? = some o := by
  have hne : g ≠ jb := by rintro rfl; rw [hg] at hj; simp at hj
  have h1 := setCell_heap (i := 0) hj (.slice (some ⟨g, 0, none⟩) us.length cp)
  have h2 := setCell_heap (i := 1) h1 (.bool true)
  have g1 := setCell_heap_ne (a := ⟨jb, 0, none⟩) hg hne (.slice (some ⟨g, 0, none⟩) us.length cp)
  have g2 := setCell_heap_ne (a := ⟨jb, 1, none⟩) g1 hne (.bool true)
  refine ⟨?_, ⟨hB, _, alloc_heap h2, ?_⟩, ?_⟩
  · refine jat_step (w2 := (World.alloc _ o).drew) hj rfl rfl rfl ?_ ?_ (alloc_heap h2) (.inl rfl)
    · show _ ≤ (World.alloc _ o).heap.size
      simp [World.setCell]
    · intro k hk _ hnj
      show (World.alloc _ o).heap[k]? = _
      rw [Below.heap_alloc _ _ _ (by simpa [World.setCell] using hk), Below.heap_setCell _ _ _ _ hnj, Below.heap_setCell _ _ _ _ hnj]
  · refine ⟨by simp, .inr ⟨g, cp, cur, rfl, hBg, alloc_heap g2, by omega, hmx, by simpa using hsz, ?_⟩⟩
    have := congrArg (List.take us.length) htk
    rw [List.take_take] at this
    simpa [Nat.min_eq_left] using this
  · have hs : ((w.setCell ⟨jb, 0, none⟩ (.slice (some ⟨g, 0, none⟩) us.length cp)).setCell ⟨jb, 1, none⟩ (.bool true)).heap.size = w.heap.size := by simp [World.setCell]
    rw [← hs]
    exact heap_alloc_new _ _

/-- A world in which the journal's last function is gone. -/
theorem pop_world {B jb : Nat} {w : World} {us : List Value} {u : Value} (h : JAt B jb (us ++ [u]) false w) : ∃ w1, JAt B jb us true w1 ∧ Dyn (JF jb) w w1 := by
  obtain ⟨hB, v, hj, hown⟩ := h
  rcases hown.2 with ⟨_, h0⟩ | ⟨g, cp, cur, rfl, hBg, hg, h1, h2, h3, h4⟩
  · simp at h0
  · simp only [List.length_append, List.length_cons, List.length_nil, Nat.zero_add] at hj h1 h3 h4
    obtain ⟨m1, m2, _⟩ := last_mid B jb g cp w us u cur default hB hBg hj hg h1 h2 (by simpa using h3) (by simpa using h4)
    exact ⟨_, m2, m1⟩

set_option maxHeartbeats 1000000 in
theorem last_any (B jb : Nat) (I : List Value → World → Prop) (G : World → Nat → Prop) (hU : Undoes B jb I G) (w : World) (us : List Value) (u : Value)
    (h : JAt B jb (us ++ [u]) false w) (hI : I (us ++ [u]) w) (hlen : us.length < 100000) :
    Calls Try.prog 50 #[.pointer (some ⟨jb, 0, none⟩)] w fun e w' => e = .returned (.tuple #[]) ∧ JAt B jb us false w' ∧ I us w' ∧ Dyn (U jb G) w w' := by
  have hJ0 := h
  obtain ⟨K, cap, rfl, hK⟩ : ∃ K cap, u = .func (.func K) #[] cap ∧ ∀ w, (callFunc K cap).run Try.prog w = .ok (.enter K cap) w := by
    obtain ⟨w1, p1, p2⟩ := pop_world h
    obtain ⟨_, hi⟩ := p2.left (hU.fr _) hI (fun k hk => (hU.ap _).ne h hI k hk)
    obtain ⟨K, cap, h1, h2, _⟩ := hU.call us u w1 p1 hi
    exact ⟨K, cap, h1, h2⟩
  have hcall : ∀ w1, JAt B jb us true w1 → I (us ++ [.func (.func K) #[] cap]) w1 → Calls Try.prog K cap w1 fun e w2 => e = .returned (.tuple #[]) ∧ JAt B jb us true w2 ∧ I us w2 ∧ Dyn (U jb G) w1 w2 := by
    intro w1 j1 i1
    obtain ⟨K', cap', h1, _, h3⟩ := hU.call us _ w1 j1 i1
    cases h1
    exact h3
  have hdis := (hU.ap _).ne h hI
  obtain ⟨hB, v, hj, hown⟩ := h
  obtain ⟨g, cp, cur, hv, hBg, hg, hcap, hmx, hsz, htk⟩ : ∃ g cp cur, v = .slice (some ⟨g, 0, none⟩) (us.length + 1) cp ∧ B ≤ g ∧ w.heap[g]? = some (.cells cur 1 (0, 0)) ∧ us.length + 1 ≤ cp ∧ cp ≤ maxLen ∧ cur.size = cp ∧ cur.toList.take (us.length + 1) = us ++ [.func (.func K) #[] cap] := by
    rcases hown.2 with ⟨_, h0⟩ | ⟨g, cap, cur, rfl, hBg, hg, h1, h2, h3, h4⟩
    · simp at h0
    · exact ⟨g, cap, cur, by simp, hBg, hg, by simpa using h1, h2, by simpa using h3, by simpa using h4⟩
  subst hv
  have hcu : w.cell? ⟨g, us.length, none⟩ = some (.func (.func K) #[] cap) := by
    rw [cell_of_heap hg]
    have : cur.toList[us.length]? = some (.func (.func K) #[] cap) := by
      have h5 := congrArg (·[us.length]?) htk
      simpa [List.getElem?_take] using h5
    simpa using this
  have hc0 : w.cell? ⟨jb, 0, none⟩ = some (.slice (some ⟨g, 0, none⟩) (us.length + 1) cp) := by rw [cell_of_heap hj]; rfl
  have hc1 : w.cell? ⟨jb, 1, none⟩ = some (.bool false) := by rw [cell_of_heap hj]; rfl
  have hz0 := frozen_of_heap hj 0
  have hz1 := frozen_of_heap hj 1
  obtain ⟨m1, m2, m3⟩ := last_mid B jb g cp w us _ cur (.cells #[.pointer (some ⟨jb, 0, none⟩)] 26) hB hBg hj hg hcap hmx hsz htk
  obtain ⟨d1, i1⟩ := m1.left (hU.fr _) hI hdis
  have hG : ∀ k, G ((((w.setCell ⟨jb, 0, none⟩ (.slice (some ⟨g, 0, none⟩) us.length cp)).setCell ⟨jb, 1, none⟩ (.bool true)).alloc (.cells #[.pointer (some ⟨jb, 0, none⟩)] 26)).drew) k → k < w.heap.size := by
    intro k hk
    refine (hU.fr _).inn w k hI (((hU.fr _).fr w _ hI (fun k hk => m1.block k ((hU.fr _).inn w k hI hk) (hdis k hk))).2 k hk)
  have HG := Lib.hid hG
  have HJ := Lib.hid hj
  have hjs : jb < w.heap.size := (Array.getElem?_eq_some_iff.1 hj).1
  have hgs : g < w.heap.size := (Array.getElem?_eq_some_iff.1 hg).1
  have M1 := Lib.hid d1
  have M2 := Lib.hid m2
  have M3 := Lib.hid m3
  have M4 := Lib.hid i1
  have HU := Lib.hid hU
  have HC := Lib.hid hcall
  clear hj hg htk hsz hown hI m1 m2 m3 d1 i1 hdis hJ0 hG hU hcall
  have hmf := makeFunc_run
  go_enter_defers Try.func50, Try.ntmps50
  go_wp2
  go_region
  go_wp2_with fail
  clear hc0 hc1 hcu hz0 hz1
  go_wp2_with (refine (HC.out _ M2.out M4.out).mono ?_)
  rintro e w2 ⟨rfl, hJ2, hI2, hK2⟩
  have hbx : w2.heap[w.heap.size]? = some (.cells #[.pointer (some ⟨jb, 0, none⟩)] 26 (0, 0)) := by
    rw [hK2.block w.heap.size (heap_lt M3.out) ?_]
    · exact M3.out
    · rintro (hf | hf)
      · exact jf_type M2.out M3.out (by decide) (by decide) hf
      · exact absurd (HG.out _ hf) (Nat.lt_irrefl _)
  have HJ2 := Lib.hid hJ2
  have HK2 := Lib.hid hK2
  have HI2 := Lib.hid hI2
  have HBX := Lib.hid hbx
  clear hJ2 hK2 hI2 hbx
  go_wp2
  obtain ⟨_, v2, hj2, hown2⟩ := HJ2.out
  refine leaves_cons (f := 57) (args := #[.pointer (some ⟨w.heap.size, 0, none⟩)]) (by simp) (by simp [go_sem]) ?_
  refine (last_deferred _ jb _ _ ?_ (.bool true) ?_ ?_).mono ?_
  · rw [cell_of_heap HBX.out]; rfl
  · rw [cell_of_heap hj2]; rfl
  · exact frozen_of_heap hj2 1
  rintro e u' w'' ⟨rfl, rfl, rfl⟩
  have hj3 : (w2.setCell ⟨jb, 1, none⟩ (.bool false)).heap[jb]? = some (.cells #[v2, .bool false] 29 (0, 0)) := by rw [setCell_heap hj2]; rfl
  have k3 : Dyn (JF jb) w2 (w2.setCell ⟨jb, 1, none⟩ (.bool false)) := jat_step hj2 rfl rfl rfl (by simp [World.setCell]) (fun k _ _ hn => Below.heap_setCell _ _ _ _ hn) hj3 (.inl rfl)
  obtain ⟨k4, i4⟩ := k3.left (HU.out.fr _) HI2.out ((HU.out.ap _).ne HJ2.out HI2.out)
  have fin : JAt B jb us false (w2.setCell ⟨jb, 1, none⟩ (.bool false)) ∧ I us (w2.setCell ⟨jb, 1, none⟩ (.bool false)) ∧ Dyn (U jb G) w (w2.setCell ⟨jb, 1, none⟩ (.bool false)) :=
    ⟨⟨hB, v2, hj3, ownsRow_setCell hown2 (own_ne hj2 hown2 (by decide)) _⟩, i4, (Dyn.trans M1.out HK2.out).trans k4⟩
  simpa [Leaves, settle, results, Try.results50, go_sem] using fin

/-- One step of the rewinding. -/
def RewRel (B jb to : Nat) (I : List Value → World → Prop) (G : World → Nat → Prop) (w : World) (us : List Value) (k : Nat) (wr : World) : Prop :=
  k + to ≤ us.length ∧ JAt B jb (us.take (k + to)) false wr ∧ I (us.take (k + to)) wr ∧ Dyn (U jb G) w wr

set_option maxHeartbeats 1000000 in
theorem rewind_any (B jb : Nat) (I : List Value → World → Prop) (G : World → Nat → Prop) (hU : Undoes B jb I G) (w : World) (us : List Value) (h : JAt B jb us false w) (hI : I us w) (hlen : us.length < 100000) (to : Nat) (ht : to ≤ us.length) :
    Calls Try.prog 18 #[.pointer (some ⟨jb, 0, none⟩), .int .i64 to] w fun e w' => e = .returned (.int .i64 0) ∧ JAt B jb (us.take to) false w' ∧ I (us.take to) w' ∧ Dyn (U jb G) w w' := by
  obtain ⟨⟨a, c, hc0⟩, hc1⟩ := h.cells
  have HJ := Lib.hid h
  have HI := Lib.hid hI
  have HU := Lib.hid hU
  clear h hI hU
  go_enter Try.func18, Try.ntmps18
  go_wp2_with (go_at_call 49; refine (check_ok jb a us.length c to _ hc0 hc1 (by unfold maxLen; omega) (by omega) (by omega)).mono ?_; rintro e w' ⟨rfl, rfl⟩)
  clear hc0 hc1
  go_loopg [] (us.length - to) (fun k wr => RewRel B jb to I G w us k wr)
  case atStart =>
    refine ⟨by omega, ?_, ?_, Dyn.refl _ _⟩
    · rw [List.take_of_length_le (by omega)]; exact HJ.out
    · rw [List.take_of_length_le (by omega)]; exact HI.out
  case round =>
    obtain ⟨hk, hJ, hI, hK⟩ := hrel
    obtain ⟨⟨a, c, hc0⟩, hc1⟩ := hJ.cells
    have hl : (us.take (gk + to)).length = gk + to := by simp; omega
    rw [hl] at hc0
    clear hl
    have HJ2 := Lib.hid hJ
    have HK2 := Lib.hid hK
    have HI2 := Lib.hid hI
    clear hJ hK hI hc1
    by_cases h0 : gk = 0
    · subst h0
      simp only [Nat.zero_add] at hc0 HJ2 HI2
      go_wp2
      go_ret
      exact ⟨rfl, HJ2.out, HI2.out, HK2.out⟩
    · obtain ⟨n, rfl⟩ : ∃ n, gk = n + 1 := ⟨gk - 1, by omega⟩
      have hlt : n + to < us.length := by omega
      have htake : us.take (n + 1 + to) = us.take (n + to) ++ [us[n + to]] := by
        rw [show n + 1 + to = (n + to) + 1 by omega, List.take_succ_eq_append_getElem hlt]
      have hJu := HJ2.out
      have hIu := HI2.out
      rw [htake] at hJu hIu
      have hl2 : (us.take (n + to)).length < 100000 := by simp; omega
      have C := Lib.hid (last_any B jb I G HU.out wr (us.take (n + to)) _ hJu hIu hl2)
      clear hJu hIu htake hl2
      go_wp2_with (refine C.out.mono ?_)
      rintro e w2 ⟨rfl, hJ3, hI3, hK3⟩
      have R3 := Lib.hid (show RewRel B jb to I G w us n w2 from ⟨by omega, hJ3, hI3, HK2.out.trans hK3⟩)
      clear hJ3 hK3 hI3
      go_wp2
      go_roundg n
      case measure => omega
      case rel => exact R3.out

theorem rewind_range (j : Nat) (a : Option Addr) (n c : Nat) (to : Int) (w : World) (h0 : w.cell? ⟨j, 0, none⟩ = some (.slice a n c))
    (h1 : w.cell? ⟨j, 1, none⟩ = some (.bool false)) (hn : n ≤ maxLen) (t : to < 0 ∨ n < to) :
    Calls Try.prog 18 #[.pointer (some ⟨j, 0, none⟩), .int .i64 to] w fun e w' => e = .returned (.int .i64 2) ∧ w = w' := by
  have C := Lib.hid (check_range j a n c to w h0 h1 hn t)
  go_enter Try.func18, Try.ntmps18
  go_wp2_with (go_at_call 49; refine C.out.mono ?_; rintro e w' ⟨rfl, rfl⟩)
  go_ret
  exact ⟨rfl, rfl⟩

end Go.Proofs.Ytekddnnclbnagaa
