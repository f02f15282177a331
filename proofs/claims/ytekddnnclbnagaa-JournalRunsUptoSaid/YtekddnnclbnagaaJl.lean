/- JournalForgets: the walk. -/
import Derived.Test.YtekddnnclbnagaaJk
import Derived.Deep.OwnRows
namespace Go.Proofs.Ytekddnnclbnagaa
set_option linter.unusedSimpArgs false
set_option linter.unusedVariables false
open Go.RowKit

theorem Try.info3 : (Try.prog.info? 3).map (fun i => (i.zero, i.size, i.bytes)) = some (some (.int .i64 0), 1, 8) := by kernel_rfl

theorem made_row (k : Nat) : madeCells #[Value.int .i64 0] k = row k (fun _ => 0) := by
  apply Array.toList_inj.1
  rw [toList_madeCells_one]
  simp only [row]
  rw [List.map_const']
  simp

theorem make_row (k : Nat) (hk : k < 1000) (w : World) : (Instr.makeSlice 30 (.int .i64 (k : Int)) (.int .i64 (k : Int))).run Try.prog w = .ok (.slice (some ⟨w.heap.size, 0, none⟩) k k) (w.alloc (.cells (row k (fun _ => 0)) 3)) := by
  rw [← made_row]
  exact run_make_row' 30 3 (.int .i64 0) 8 Try.underlying30 Try.info3 rfl .i64 .i64 k (by omega) (by omega) w

/-- The recording loop of JournalForgets. -/
def FRel (B jb vb lb k : Nat) (W : World) (m : Nat) (v : Value) (wr : World) : Prop :=
  ∃ xs, m ≤ k ∧ xs.length = k - m ∧ v = .int .i64 ((k - m : Nat) : Int) ∧ JAt B jb (fns 35 vb xs) false wr ∧ LV vb lb k xs (fun j => if j < k - m then 1 else 0) wr ∧ (∀ x ∈ xs, B ≤ x) ∧ Below B W wr

theorem start_list (w W : World) (k : Nat) (hW : W = (((w.alloc (.cells #[.slice none 0 0, .bool false] 29)).alloc (.cells (row k (fun _ => 0)) 3)).alloc (.cells #[.slice (some ⟨w.heap.size + 1, 0, none⟩) k k] 30))) :
    FRel w.heap.size w.heap.size (w.heap.size + 1 + 1) (w.heap.size + 1) k w k (.int .i64 0) W := by
  subst hW
  have e0 : (w.alloc (.cells #[.slice none 0 0, .bool false] 29)).heap[w.heap.size]? = some (.cells #[.slice none 0 0, .bool false] 29) := heap_alloc_new w _
  have e1 : ((w.alloc (.cells #[.slice none 0 0, .bool false] 29)).alloc (.cells (row k (fun _ => 0)) 3)).heap[w.heap.size + 1]? = some (.cells (row k (fun _ => 0)) 3) := by
    rw [← alloc_size w (.cells #[.slice none 0 0, .bool false] 29)]; exact heap_alloc_new _ _
  have e2 : (((w.alloc (.cells #[.slice none 0 0, .bool false] 29)).alloc (.cells (row k (fun _ => 0)) 3)).alloc (.cells #[.slice (some ⟨w.heap.size + 1, 0, none⟩) k k] 30)).heap[w.heap.size + 1 + 1]? = some (.cells #[.slice (some ⟨w.heap.size + 1, 0, none⟩) k k] 30) := by
    rw [← alloc_size w (.cells #[.slice none 0 0, .bool false] 29), ← alloc_size (w.alloc (.cells #[.slice none 0 0, .bool false] 29)) (.cells (row k (fun _ => 0)) 3)]; exact heap_alloc_new _ _
  refine ⟨[], Nat.le_refl _, by simp, by simp, ⟨Nat.le_refl _, .slice none 0 0, alloc_heap (alloc_heap e0), World.ownsRow_nil _ _ _ _⟩, ⟨e2, ?_, by simp, by simp⟩, by simp, (((Below.refl _ _).alloc (Nat.le_refl _) _).alloc (by simp) _).alloc (by simp; omega) _⟩
  rw [alloc_heap e1]; congr 2; exact row_congr (fun j _ => by simp)

/-- One round of it: a new index variable, a 1 in the row; and behind the Record. -/
theorem f_mid {B jb vb lb k m : Nat} {W wr : World} {xs : List Nat} (h1 : m + 1 ≤ k) (h2 : xs.length = k - (m + 1)) (hJ : JAt B jb (fns 35 vb xs) false wr) (hL : LV vb lb k xs (fun j => if j < k - (m + 1) then 1 else 0) wr)
    (hx : ∀ x ∈ xs, B ≤ x) (hB : Below B W wr) (hlb : B ≤ lb) (hBw : B ≤ wr.heap.size) :
    JAt B jb (fns 35 vb xs) false ((wr.setCell ⟨lb, k - (m + 1), none⟩ (.int .i64 1)).alloc (.cells #[.int .i64 ((k - (m + 1) : Nat) : Int)] 3)) ∧
    LV vb lb k (xs ++ [wr.heap.size]) (fun j => if j < k - m then 1 else 0) ((wr.setCell ⟨lb, k - (m + 1), none⟩ (.int .i64 1)).alloc (.cells #[.int .i64 ((k - (m + 1) : Nat) : Int)] 3)) ∧
    Below B W ((wr.setCell ⟨lb, k - (m + 1), none⟩ (.int .i64 1)).alloc (.cells #[.int .i64 ((k - (m + 1) : Nat) : Int)] 3)) ∧ (∀ x ∈ xs ++ [wr.heap.size], B ≤ x) := by
  obtain ⟨p1, _⟩ := lv_step hJ hL (k - (m + 1)) 1
  have p2 := lv_store hL (k - (m + 1)) 1
  have hs : (wr.setCell ⟨lb, k - (m + 1), none⟩ (.int .i64 1)).heap.size = wr.heap.size := setCell_size _ _ _
  have en : ((wr.setCell ⟨lb, k - (m + 1), none⟩ (.int .i64 1)).alloc (.cells #[.int .i64 ((k - (m + 1) : Nat) : Int)] 3)).heap[wr.heap.size]? = some (.cells #[.int .i64 ((k - (m + 1) : Nat) : Int)] 3) := by
    rw [← hs]; exact heap_alloc_new _ _
  refine ⟨(jat_framed _ _ _ _).keep p1 (fun q hq => Below.heap_alloc _ _ _ hq), ⟨alloc_heap p2.var, ?_, ?_, ?_⟩, (hB.setCell hlb _).alloc (by rw [hs]; omega) _, ?_⟩
  · rw [alloc_heap p2.row]
    congr 2
    apply row_congr
    intro j hj
    by_cases e : j = k - (m + 1)
    · subst e; rw [if_pos rfl, if_pos (by omega)]
    · rw [if_neg e]
      by_cases c : j < k - (m + 1)
      · rw [if_pos c, if_pos (by omega)]
      · rw [if_neg c, if_neg (by omega)]
  · intro i x hi
    by_cases c : i < xs.length
    · rw [List.getElem?_append_left c] at hi
      exact alloc_heap (p2.idx i x hi)
    · rw [List.getElem?_append_right (by omega)] at hi
      have : i - xs.length = 0 := by
        rcases Nat.eq_zero_or_pos (i - xs.length) with e | e
        · exact e
        · rw [List.getElem?_eq_none (by simp; omega)] at hi; cases hi
      rw [this] at hi
      simp at hi
      subst hi
      have hi2 : i = k - (m + 1) := by omega
      rw [hi2]
      exact en
  · intro hm
    rcases List.mem_append.1 hm with hm | hm
    · exact hL.out hm
    · have := heap_lt hL.row
      simp at hm
      omega
  · intro x hm
    rcases List.mem_append.1 hm with hm | hm
    · exact hx x hm
    · simp at hm; omega

theorem fns_append (f vb : Nat) (xs : List Nat) (x : Nat) : fns f vb (xs ++ [x]) = fns f vb xs ++ [.func (.func f) #[] #[.pointer (some ⟨vb, 0, none⟩), .pointer (some ⟨x, 0, none⟩)]] := by simp [fns]

set_option maxHeartbeats 2000000 in
theorem forgets_walk (a0 : Int) (w0 : (Lit.int .u8 a0).wf = true) (a1 : Int) (w1 : (Lit.int .u8 a1).wf = true) (w : World) :
    Calls Try.prog 8 #[.int .u8 a0, .int .u8 a1] w fun e w' => e = .returned (.bool true) ∧ Below w.heap.size w w' := by
  have hb : 0 ≤ a0 ∧ a0 ≤ 255 := bounds_u8 w0
  have hb' : 0 ≤ a1 ∧ a1 ≤ 255 := bounds_u8 w1
  obtain ⟨n, rfl⟩ : ∃ n : Nat, a0 = n := ⟨a0.toNat, by omega⟩
  obtain ⟨n1, rfl⟩ : ∃ n : Nat, a1 = n := ⟨a1.toNat, by omega⟩
  have hn : n ≤ 255 := by omega
  have hn1 : n1 ≤ 255 := by omega
  obtain ⟨k, hk⟩ : ∃ k, k = n % 41 := ⟨_, rfl⟩
  obtain ⟨f, hf⟩ : ∃ f, f = n1 % 45 := ⟨_, rfl⟩
  have hk2 : k < 41 := by omega
  have hf2 : f < 45 := by omega
  have hkk : ((n : Int) % 41) = (k : Int) := by omega
  have hff : ((n1 : Int) % 45) = (f : Int) := by omega
  clear hk hf
  have hmf := makeFunc_run
  have hmk := make_row k (by omega)
  go_enter Try.func8, Try.ntmps8
  go_wp2_with (go_at_call 11; refine (awake_any w).mono ?_; rintro e wa ⟨rfl, hb1⟩)
  simp only [hkk]
  go_wp2_with fail
  have S0 := Lib.hid (start_list wa _ k rfl)
  have HB := Lib.hid hb1
  have hbase := hb1.size
  clear hkk hb1 hmk
  go_loopg [23] k (fun m v wr => FRel wa.heap.size wa.heap.size (wa.heap.size + 1 + 1) (wa.heap.size + 1) k wa m v wr)
  case atStart => exact S0.out
  case round =>
    obtain ⟨xs, h1, h2, h3, hJ, hL, hx, hB⟩ := hrel
    by_cases h0 : gk = 0
    · subst h0
      obtain ⟨wo, rfl⟩ : ∃ wo : World, wo = wr := ⟨_, rfl⟩
      subst h3
      simp only [Nat.sub_zero] at h2 hL ⊢
      have hl : (fns 35 (wa.heap.size + 1 + 1) xs).length = k := by simp [fns, h2]
      have hbw := hB.size
      obtain ⟨⟨sa, sc, hc0⟩, hc1⟩ := hJ.cells
      rw [hl] at hc0
      have HB1 := Lib.hid (HB.out.trans (hB.mono hbase))
      by_cases hr : k < f
      · have F := Lib.hid (forget_range _ _ _ _ (f : Int) wo hc0 hc1 (by unfold maxLen; omega) (by omega))
        have L := Lib.hid (len_any _ _ _ _ wo hc0 (by unfold maxLen; omega))
        clear hl h2 hJ hL hx hB hc0 hc1
        go_wp2_with fail
        simp only [hff]
        go_wp2_with (first | (go_at_call 36; refine F.out.mono ?_; rintro e w' ⟨rfl, rfl⟩) | (go_at_call 17; refine L.out.mono ?_; rintro e w' ⟨rfl, rfl⟩))
        go_ret
        exact ⟨rfl, HB1.out⟩
      · have F := Lib.hid (forget_any _ _ wo _ hJ (by rw [hl]; omega) f (by rw [hl]; omega))
        have HJ := Lib.hid hJ
        have HL := Lib.hid hL
        have HX := Lib.hid hx
        have HH2 := Lib.hid h2
        have Hl := Lib.hid hl
        clear hl h2 hJ hL hx hB hc0 hc1
        go_wp2_with fail
        simp only [hff]
        go_wp2_with (go_at_call 36; refine F.out.mono ?_)
        rintro e w1 ⟨rfl, j1, d1⟩
        obtain ⟨d1', l1⟩ := d1.left (lv_framed _ _ _ _ _) HL.out ((lv_apart _ _ _ _ _).ne HJ.out HL.out)
        have hlf : (List.take f (fns 35 (wa.heap.size + 1 + 1) xs)).length = f := by rw [List.length_take, Hl.out]; omega
        have RW := Lib.hid (rewind_any _ _ _ _ (il_undoes wa.heap.size wa.heap.size (wa.heap.size + 1 + 1) (wa.heap.size + 1) k xs f (by omega)) w1 _ j1
          ⟨by rw [hlf]; omega, by omega, HH2.out, by rw [hlf], by
            refine ⟨l1.var, ?_, l1.idx, l1.out⟩
            rw [l1.row]; congr 2; apply row_congr; intro j hj; rw [hlf, if_pos hj, if_neg (by omega)]⟩ (by rw [hlf]; omega) 0 (Nat.zero_le _))
        have HB2 := Lib.hid (HB1.out.trans ((d1.below (fun q hq => by omega) (jf_base HJ.out)).mono hbase))
        have hb2 := d1.size
        have hU1 : ∀ q, U wa.heap.size (LG (wa.heap.size + 1 + 1) (wa.heap.size + 1) xs) w1 q → wa.heap.size ≤ q := by
          rintro q (hq | rfl | rfl | hq)
          · exact jf_base j1 q hq
          · omega
          · omega
          · exact HX.out q hq
        have HU1 := Lib.hid hU1
        obtain ⟨⟨sa, sc, hc0⟩, hc1⟩ := j1.cells
        rw [hlf] at hc0
        have L := Lib.hid (len_any _ _ _ _ w1 hc0 (by unfold maxLen; omega))
        have hr' : ¬ (k < f) := hr
        clear j1 d1 d1' l1 hlf hU1 hc0 hc1 hr
        go_wp2_with (first | (go_at_call 17; refine L.out.mono ?_; rintro e w' ⟨rfl, rfl⟩) | (go_at_call 18; refine RW.out.mono ?_))
        rintro e w3 ⟨rfl, j3, ⟨_, _, _, _, l3⟩, d3⟩
        have HB3 := Lib.hid (HB2.out.trans ((d3.below (fun q hq => by omega) HU1.out).mono hbase))
        have hc1 : w3.cell? ⟨wa.heap.size + 1 + 1, 0, none⟩ = some (.slice (some ⟨wa.heap.size + 1, 0, none⟩) k k) := by rw [cell_of_heap l3.var]; rfl
        have HL3 := Lib.hid l3
        clear j3 l3 d3
        go_wp2_with fail
        go_loop [65] (fun v => ∃ q : Nat, q ≤ k ∧ v = .int .i64 q) (fun v => k - (intOf v).toNat)
        case atStart => exact ⟨0, Nat.zero_le _, rfl⟩
        case round =>
          obtain ⟨q, hq, rfl⟩ := hrel
          by_cases hlt : q < k
          · have hcell : w3.cell? ⟨wa.heap.size + 1, q, none⟩ = some (.int .i64 (if q < f then 0 else 1)) := by
              rw [cell_of_heap HL3.out.row, row_get hlt]; simp
            by_cases hqf : q < f
            · rw [if_pos hqf] at hcell
              have hqf2 : ¬ (f ≤ q) := by omega
              go_wp2
              go_round
              case rel => exact ⟨q + 1, by omega, by go_num⟩
              case measure => simp [intOf]; omega
            · rw [if_neg hqf] at hcell
              have hqf2 : f ≤ q := by omega
              go_wp2
              go_round
              case rel => exact ⟨q + 1, by omega, by go_num⟩
              case measure => simp [intOf]; omega
          · go_wp2
            go_ret
            exact ⟨rfl, HB3.out⟩
    · obtain ⟨m, rfl⟩ : ∃ m, gk = m + 1 := ⟨gk - 1, by omega⟩
      have hbw := hB.size
      obtain ⟨p1, p2, p3, p4⟩ := f_mid h1 h2 hJ hL hx hB (by omega) hbw
      have hc1 : wr.cell? ⟨wa.heap.size + 1 + 1, 0, none⟩ = some (.slice (some ⟨wa.heap.size + 1, 0, none⟩) k k) := by rw [cell_of_heap hL.var]; rfl
      have hc2 : wr.cell? ⟨wa.heap.size + 1, k - (m + 1), none⟩ = some (.int .i64 0) := by rw [cell_of_heap hL.row, row_get (by omega), if_neg (by omega)]
      have hz2 := frozen_of_heap hL.row (k - (m + 1))
      have hl1 := heap_lt hL.var
      have hl2 := heap_lt hL.row
      have hlt : k - (m + 1) < k := by omega
      have R := Lib.hid (record_any wa.heap.size wa.heap.size (.func 35) #[] #[.pointer (some ⟨wa.heap.size + 1 + 1, 0, none⟩), .pointer (some ⟨wr.heap.size, 0, none⟩)] _ _ p1 (by simp [fns]; omega))
      have P1 := Lib.hid p1
      have P2 := Lib.hid p2
      have P3 := Lib.hid p3
      have P4 := Lib.hid p4
      have H2 := Lib.hid h2
      clear p1 p2 p3 p4 h2 hJ hL hx hB
      subst h3
      go_wp2_with (go_at_call 19; refine R.out.mono ?_)
      rintro e w2 ⟨rfl, j2, d2⟩
      obtain ⟨d3, l3⟩ := d2.left (lv_framed _ _ _ _ _) P2.out ((lv_apart _ _ _ _ _).ne P1.out P2.out)
      have H5 := Lib.hid (show FRel wa.heap.size wa.heap.size (wa.heap.size + 1 + 1) (wa.heap.size + 1) k wa m (.int .i64 (((k - (m + 1) : Nat) : Int) + 1)) w2 from
        ⟨xs ++ [wr.heap.size], by omega, by rw [List.length_append, H2.out]; simp; omega, by congr 1; omega, by rw [fns_append]; exact j2, l3, P4.out, P3.out.trans (d2.below (fun q hq => by have := P3.out.size; omega) (jf_base P1.out))⟩)
      clear j2 d2 d3 l3 hc1 hc2 hz2
      go_wp2
      go_roundg m
      case measure => omega
      case rel => exact H5.out
end Go.Proofs.Ytekddnnclbnagaa
