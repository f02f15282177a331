/- JournalOrder: the walk. -/
import Derived.Test.YtekddnnclbnagaaJm
import Derived.ProofKit
namespace Go.Proofs.Ytekddnnclbnagaa
set_option linter.unusedSimpArgs false
set_option linter.unusedVariables false
open Go.RowKit Go.ChangeShapes Go.WideShapes Go.ChangeAt

/-- A []uint8 that came in. -/
def BytesAt (w : World) (a : Option Addr) (len cap : Nat) (z : Nat → Int) : Prop :=
  len ≤ maxLen ∧ (0 < len → ∃ b off, a = some ⟨b, off, none⟩ ∧ b < w.heap.size ∧ ∀ j, j < len → w.cell? ⟨b, off + j, none⟩ = some (.int .u8 (z j)) ∧ 0 ≤ z j ∧ z j ≤ 255)

theorem bytes_open {H : Type} {enc : TypeId × Value → H} {W : World} {v : Value} {d : DataW H} {p : List MemPlace} {base : Nat}
    (hok : Value.okWide Try.prog W .any base 38 v) (h : DataW.Trod enc Try.prog W 0 (fun _ => true) true 38 v d p) :
    ∃ a len cap z, v = .slice a len cap ∧ BytesAt W a len cap z := by
  obtain ⟨a, len, cap, rfl⟩ := okWide_slice Try.underlying38 hok
  obtain ⟨fuel, hf⟩ := h
  rcases open_ints Try.underlying38 Try.underlying5 (by kernel_rfl) hf with ⟨hcs, _⟩ | ⟨x, l, c, zs, hcs, _, hl, hm, hz, _, hcell, hwz⟩
  · simp [Value.cells] at hcs
    obtain ⟨rfl, rfl, rfl⟩ := hcs
    exact ⟨none, 0, 0, fun _ => 0, rfl, by simp [maxLen], fun h => by omega⟩
  · simp [Value.cells] at hcs
    obtain ⟨rfl, rfl, rfl⟩ := hcs
    have hz' : zs.length = cap := by simpa using hz
    refine ⟨some x, len, cap, fun j => zs.getD j 0, rfl, by omega, fun h0 => ?_⟩
    obtain ⟨b, off, spot⟩ := x
    have hc := hcell 0 (by omega)
    have hspot : spot = none := by simpa [Addr.add] using World.cell?_spot hc
    subst hspot
    refine ⟨b, off, rfl, World.block_lt_of_cell? W _ hc, fun j hj => ?_⟩
    have hcj := hcell j (by omega)
    have hw : (Lit.int .u8 (zs.getD j 0)).wf = true := hwz _ (by rw [List.getD_eq_getElem?_getD, List.getElem?_eq_getElem (by omega)]; exact List.getElem_mem _)
    have hadd : (⟨b, off, none⟩ : Addr).add j = ⟨b, off + j, none⟩ := by unfold Addr.add; split <;> simp_all
    rw [hadd] at hcj
    exact ⟨hcj, bounds_u8 hw⟩

/-- The recording loop of JournalOrder. -/
def ORel (B jb vb k : Nat) (W : World) (m : Nat) (v : Value) (wr : World) : Prop :=
  ∃ xs, m ≤ k ∧ xs.length = k - m ∧ v = .int .i64 ((k - m : Nat) : Int) ∧ JAt B jb (fns 20 vb xs) false wr ∧ OV B vb xs [] wr ∧ (∀ x ∈ xs, B ≤ x) ∧ Below B W wr

theorem start_log (w W : World) (k : Nat) (hW : W = ((w.alloc (.cells #[.slice none 0 0, .bool false] 29)).alloc (.cells #[.slice none 0 0] 30))) :
    ORel w.heap.size w.heap.size (w.heap.size + 1) k w k (.int .i64 0) W := by
  subst hW
  have e0 : (w.alloc (.cells #[.slice none 0 0, .bool false] 29)).heap[w.heap.size]? = some (.cells #[.slice none 0 0, .bool false] 29) := heap_alloc_new w _
  have e1 : ((w.alloc (.cells #[.slice none 0 0, .bool false] 29)).alloc (.cells #[.slice none 0 0] 30)).heap[w.heap.size + 1]? = some (.cells #[.slice none 0 0] 30) := by
    rw [← alloc_size w (.cells #[.slice none 0 0, .bool false] 29)]; exact heap_alloc_new _ _
  exact ⟨[], Nat.le_refl _, by simp, by simp, ⟨Nat.le_refl _, .slice none 0 0, alloc_heap e0, World.ownsRow_nil _ _ _ _⟩, ⟨⟨_, e1, World.ownsRow_nil _ _ _ _, by simp⟩, by simp⟩, by simp, ((Below.refl _ _).alloc (Nat.le_refl _) _).alloc (by simp) _⟩

/-- A new index variable. -/
theorem o_mid {B jb vb k m : Nat} {W wr : World} {xs : List Nat} (h1 : m + 1 ≤ k) (h2 : xs.length = k - (m + 1)) (hJ : JAt B jb (fns 20 vb xs) false wr) (hL : OV B vb xs [] wr)
    (hx : ∀ x ∈ xs, B ≤ x) (hB : Below B W wr) (hBw : B ≤ wr.heap.size) :
    JAt B jb (fns 20 vb xs) false (wr.alloc (.cells #[.int .i64 ((k - (m + 1) : Nat) : Int)] 3)) ∧
    OV B vb (xs ++ [wr.heap.size]) [] (wr.alloc (.cells #[.int .i64 ((k - (m + 1) : Nat) : Int)] 3)) ∧
    Below B W (wr.alloc (.cells #[.int .i64 ((k - (m + 1) : Nat) : Int)] 3)) ∧ (∀ x ∈ xs ++ [wr.heap.size], B ≤ x) := by
  have en : (wr.alloc (.cells #[.int .i64 ((k - (m + 1) : Nat) : Int)] 3)).heap[wr.heap.size]? = some (.cells #[.int .i64 ((k - (m + 1) : Nat) : Int)] 3) := heap_alloc_new _ _
  obtain ⟨⟨v, hv, ho, hn⟩, hi⟩ := hL
  refine ⟨(jat_framed _ _ _ _).keep hJ (fun q hq => Below.heap_alloc _ _ _ hq), ⟨⟨v, alloc_heap hv, ho.alloc _, ?_⟩, ?_⟩, hB.alloc hBw _, ?_⟩
  · intro q hq hm
    rcases List.mem_append.1 hm with hm | hm
    · exact hn q hq hm
    · have := (ho.lt q hq).2
      simp at hm; omega
  · intro i x hi'
    by_cases c : i < xs.length
    · rw [List.getElem?_append_left c] at hi'
      exact alloc_heap (hi i x hi')
    · rw [List.getElem?_append_right (by omega)] at hi'
      have : i - xs.length = 0 := by
        rcases Nat.eq_zero_or_pos (i - xs.length) with e | e
        · exact e
        · rw [List.getElem?_eq_none (by simp; omega)] at hi'; cases hi'
      rw [this] at hi'
      simp at hi'
      subst hi'
      have hi2 : i = k - (m + 1) := by omega
      rw [hi2]
      exact en
  · intro x hm
    rcases List.mem_append.1 hm with hm | hm
    · exact hx x hm
    · simp at hm; omega

/-- The loop over the stops: what is left is a head of what was recorded. -/
def SRel (B jb vb : Nat) (xs : List Nat) (W : World) (len g : Nat) (v : Value) (wr : World) : Prop :=
  ∃ j us, j + g = len ∧ v = .int .i64 ((j : Nat) : Int) ∧ JAt B jb us false wr ∧ IO B vb xs us wr ∧ Below B W wr

theorem downFrom_get {n j : Nat} (h : j < n) : (downFrom n 0)[j]? = some ((n : Int) - 1 - j) := by simp [downFrom, h]

theorem own_slice {w : World} {B : Nat} {e : TypeId} {v : Value} {n : Nat} {l : List Value} (h : w.ownsRow B e 1 v n l) :
    ∃ a c, v = .slice a n c ∧ (0 < n → ∃ g, a = some ⟨g, 0, none⟩ ∧ ∀ j u, l[j]? = some u → w.cell? ⟨g, j, none⟩ = some u) := by
  rcases h.2 with ⟨rfl, rfl⟩ | ⟨g, cap, cur, rfl, _, hg, _, _, _, ht⟩
  · exact ⟨none, 0, rfl, fun h => absurd h (Nat.lt_irrefl _)⟩
  · refine ⟨_, cap, rfl, fun _ => ⟨g, rfl, fun j u hu => ?_⟩⟩
    rw [cell_of_heap hg]
    rw [← ht, List.getElem?_take] at hu
    split at hu
    · simpa using hu
    · cases hu

set_option maxHeartbeats 4000000 in
theorem order_core (a0 : Int) (w0 : (Lit.int .u8 a0).wf = true) (sa : Option Addr) (len cap : Nat) (z : Nat → Int) (w : World) (hbs : BytesAt w sa len cap z) :
    Calls Try.prog 4 #[.int .u8 a0, .slice sa len cap] w fun e w' => e = .returned (.bool true) ∧ Below w.heap.size w w' := by
  have hb : 0 ≤ a0 ∧ a0 ≤ 255 := bounds_u8 w0
  obtain ⟨n, rfl⟩ : ∃ n : Nat, a0 = n := ⟨a0.toNat, by omega⟩
  have hn : n ≤ 255 := by omega
  obtain ⟨k, hk⟩ : ∃ k, k = n % 41 := ⟨_, rfl⟩
  have hk2 : k < 41 := by omega
  have hkk : ((n : Int) % 41) = (k : Int) := by omega
  clear hk
  have hlen : len ≤ maxLen := hbs.1
  unfold maxLen at hlen
  have HBS := Lib.hid hbs
  have hmf := makeFunc_run
  clear hbs
  go_enter Try.func4, Try.ntmps4
  go_wp2_with (go_at_call 11; refine (awake_any w).mono ?_; rintro e wa ⟨rfl, hb1⟩)
  simp only [hkk]
  have S0 := Lib.hid (start_log wa _ k rfl)
  have HB := Lib.hid hb1
  have hbase := hb1.size
  clear hkk hb1
  go_loopg [24] k (fun m v wr => ORel wa.heap.size wa.heap.size (wa.heap.size + 1) k wa m v wr)
  case atStart => exact S0.out
  case round =>
    obtain ⟨xs, h1, h2, h3, hJ, hL, hx, hB⟩ := hrel
    by_cases h0 : gk = 0
    · subst h0
      obtain ⟨wo, rfl⟩ : ∃ wo : World, wo = wr := ⟨_, rfl⟩
      subst h3
      simp only [Nat.sub_zero] at h2 ⊢
      have hl : (fns 20 (wa.heap.size + 1) xs).length = k := by simp [fns, h2]
      have hbw := hB.size
      have HB1 := Lib.hid (HB.out.trans (hB.mono hbase))
      have S1 := Lib.hid (show SRel wa.heap.size wa.heap.size (wa.heap.size + 1) xs wo len len (.int .i64 0) wo from
        ⟨0, _, Nat.zero_add _, rfl, hJ, ⟨by rw [hl, h2]; exact Nat.le_refl _, by rw [hl, List.take_of_length_le (by rw [hl]; exact Nat.le_refl _)], by rw [hl, h2, show downFrom k k = [] by simp [downFrom]]; exact hL⟩, Below.refl _ _⟩)
      have HX := Lib.hid hx
      have HH2 := Lib.hid h2
      clear hl h2 hJ hL hx hB
      have hxl : xs.length < 100 := by rw [HH2.out]; omega
      have HXL := Lib.hid hxl
      clear hxl
      go_wp2_with fail
      go_loopg [33] len (fun g v wr => SRel wa.heap.size wa.heap.size (wa.heap.size + 1) xs wo len g v wr)
      case atStart => exact S1.out
      case round =>
        obtain ⟨j, us, hj, rfl, hJ, hI, hB2⟩ := hrel
        have hU : ∀ q, U wa.heap.size (OG (wa.heap.size + 1) xs) wr q → wa.heap.size ≤ q := by
          rintro q (hq | hq)
          · exact jf_base hJ q hq
          · exact ov_base hI.2.2 (by omega) HX.out q hq
        have hul : us.length < 100 := by have := hI.1; have := HXL.out; omega
        obtain ⟨⟨la, lc, hc0⟩, hc1⟩ := hJ.cells
        have hb2 := hB2.size
        have HB2 := Lib.hid hB2
        have HJ := Lib.hid hJ
        have HI := Lib.hid hI
        have HU := Lib.hid hU
        by_cases h0 : gk = 0
        · subst h0
          obtain rfl : j = len := by omega
          have R := Lib.hid (rewind_any _ _ _ _ (io_undoes wa.heap.size wa.heap.size (wa.heap.size + 1) xs HXL.out (by omega)) wr us HJ.out HI.out (by omega) 0 (by omega))
          clear hJ hI hU hB2 hc0 hc1 hj
          go_wp2_with (go_at_call 18; refine R.out.mono ?_)
          rintro e w3 ⟨rfl, j3, i3, d3⟩
          have hlog := i3.2.2
          simp only [List.take_zero, List.length_nil, HH2.out] at hlog
          obtain ⟨⟨v, hv, ho, _⟩, _⟩ := hlog
          rw [downFrom_length, Nat.sub_zero] at ho
          obtain ⟨ga, gc, rfl, hcells⟩ := own_slice ho
          have hcv : w3.cell? ⟨wa.heap.size + 1, 0, none⟩ = some (.slice ga k gc) := by rw [cell_of_heap hv]; rfl
          have HB5 := Lib.hid (HB1.out.trans ((HB2.out.trans (d3.below (fun q hq => by omega) HU.out)).mono hbase))
          have HC := Lib.hid hcells
          clear j3 i3 hv ho d3 hcells
          go_wp2_with fail
          go_loop [85] (fun v => ∃ q : Nat, q ≤ k ∧ v = .int .i64 q) (fun v => k - (intOf v).toNat)
          case atStart => exact ⟨0, Nat.zero_le _, rfl⟩
          case round =>
            obtain ⟨q, hq, rfl⟩ := hrel
            by_cases hlt : q < k
            · obtain ⟨g, rfl, hg⟩ := HC.out (by omega)
              have hcell := hg q _ (by rw [ints, List.getElem?_map, downFrom_get hlt]; rfl)
              clear hg
              go_wp2
              go_round
              case rel => exact ⟨q + 1, by omega, by go_num⟩
              case measure => simp [intOf]; omega
            · go_wp2
              go_ret
              exact ⟨rfl, HB5.out⟩
        · obtain ⟨m, rfl⟩ : ∃ m, gk = m + 1 := ⟨gk - 1, by omega⟩
          have hlt : j < len := by omega
          obtain ⟨b, off, rfl, hbl, hcs⟩ := HBS.out.2 (by omega)
          obtain ⟨hcj, hz1, hz2⟩ := hcs j hlt
          have hcell : wr.cell? ⟨b, off + j, none⟩ = some (.int .u8 (z j)) := by
            rw [hB2.cell (by show b < _; omega), HB1.out.cell (by exact hbl)]; exact hcj
          obtain ⟨y, hy⟩ : ∃ y : Nat, z j = y := ⟨(z j).toNat, by omega⟩
          rw [hy] at hcell
          obtain ⟨t, ht⟩ : ∃ t, t = y % 41 := ⟨_, rfl⟩
          have htt : ((y : Int) % 41) = (t : Int) := by omega
          have hy2 : y ≤ 255 := by omega
          have ht2 : t < 41 := by omega
          have L := Lib.hid (len_any _ _ _ _ wr hc0 (by unfold maxLen; omega))
          clear ht hy hcs hcj hz1 hz2 hJ hI hU hB2
          by_cases hto : us.length < t
          · have R := Lib.hid (rewind_range _ _ _ _ (t : Int) wr hc0 hc1 (by unfold maxLen; omega) (by omega))
            have hto2 : ¬ (t ≤ us.length) := by omega
            have HH := Lib.hid (show SRel wa.heap.size wa.heap.size (wa.heap.size + 1) xs wo len m (.int .i64 ((j : Int) + 1)) wr from ⟨j + 1, us, by omega, by congr 1, HJ.out, HI.out, HB2.out⟩)
            have HJE := Lib.hid hj
            clear hc0 hc1 hj
            go_wp2_with (go_at_call 17; refine L.out.mono ?_; rintro e w' ⟨rfl, rfl⟩)
            try simp only [htt]
            go_wp2_with (first | (go_at_call 17; refine L.out.mono ?_; rintro e w' ⟨rfl, rfl⟩) | (go_at_call 18; refine R.out.mono ?_; rintro e w' ⟨rfl, rfl⟩))
            go_roundg m
            case measure => omega
            case rel => exact HH.out
          · have R := Lib.hid (rewind_any _ _ _ _ (io_undoes wa.heap.size wa.heap.size (wa.heap.size + 1) xs HXL.out (by omega)) wr us HJ.out HI.out (by omega) t (by omega))
            have hto2 : t ≤ us.length := by omega
            have hto3 : ¬ (us.length < t) := hto
            clear hc0 hc1 hto
            have HJE := Lib.hid hj
            clear hj
            go_wp2_with (go_at_call 17; refine L.out.mono ?_; rintro e w' ⟨rfl, rfl⟩)
            try simp only [htt]
            go_wp2_with (first | (go_at_call 17; refine L.out.mono ?_; rintro e w' ⟨rfl, rfl⟩) | (go_at_call 18; refine R.out.mono ?_))
            rintro e w3 ⟨rfl, j3, i3, d3⟩
            obtain ⟨⟨la, lc, hc0⟩, hc1⟩ := j3.cells
            rw [List.length_take, Nat.min_eq_left hto2] at hc0
            have L2 := Lib.hid (len_any _ _ _ _ w3 hc0 (by unfold maxLen; omega))
            have HH := Lib.hid (show SRel wa.heap.size wa.heap.size (wa.heap.size + 1) xs wo len m (.int .i64 ((j : Int) + 1)) w3 from ⟨j + 1, _, by have := HJE.out; omega, by congr 1, j3, i3, HB2.out.trans (d3.below (fun q hq => by omega) HU.out)⟩)
            clear hc0 hc1 j3 i3 d3
            go_wp2_with (go_at_call 17; refine L2.out.mono ?_; rintro e w' ⟨rfl, rfl⟩)
            go_roundg m
            case measure => omega
            case rel => exact HH.out
    · obtain ⟨m, rfl⟩ : ∃ m, gk = m + 1 := ⟨gk - 1, by omega⟩
      have hbw := hB.size
      obtain ⟨p1, p2, p3, p4⟩ := o_mid h1 h2 hJ hL hx hB hbw
      have hlt : k - (m + 1) < k := by omega
      have R := Lib.hid (record_any wa.heap.size wa.heap.size (.func 20) #[] #[.pointer (some ⟨wa.heap.size + 1, 0, none⟩), .pointer (some ⟨wr.heap.size, 0, none⟩)] _ _ p1 (by simp [fns]; omega))
      have P1 := Lib.hid p1
      have P2 := Lib.hid p2
      have P3 := Lib.hid p3
      have P4 := Lib.hid p4
      have H2 := Lib.hid h2
      clear p1 p2 p3 p4 h2 hJ hL hx hB
      subst h3
      go_wp2_with (go_at_call 19; refine R.out.mono ?_)
      rintro e w2 ⟨rfl, j2, d2⟩
      obtain ⟨d3, l3⟩ := d2.left (ov_framed _ _ _ _) P2.out ((ov_apart _ _ _ _).ne P1.out P2.out)
      have H5 := Lib.hid (show ORel wa.heap.size wa.heap.size (wa.heap.size + 1) k wa m (.int .i64 (((k - (m + 1) : Nat) : Int) + 1)) w2 from
        ⟨xs ++ [wr.heap.size], by omega, by rw [List.length_append, H2.out]; simp; omega, by congr 1; omega, by rw [fns_append]; exact j2, l3, P4.out, P3.out.trans (d2.below (fun q hq => by have := P3.out.size; omega) (jf_base P1.out))⟩)
      clear j2 d2 d3 l3
      go_wp2
      go_roundg m
      case measure => omega
      case rel => exact H5.out

theorem order_walk {H : Type} (enc : TypeId × Value → H) (a0 : Int) (w0 : (Lit.int .u8 a0).wf = true) (v1 : Value) (d1 : DataW H) (p1 : List MemPlace) (base : Nat) {w : World}
    (hok : Value.okWide Try.prog w .any base 38 v1) (h : DataW.Trod enc Try.prog w 0 (fun _ => true) true 38 v1 d1 p1) (_ : ∀ x ∈ p1, x.block < w.heap.size) (_ : World) :
    Calls Try.prog 4 #[.int .u8 a0, v1] w fun e w' => e = .returned (.bool true) ∧ Below w.heap.size w w' := by
  obtain ⟨a, len, cap, z, rfl, hb⟩ := bytes_open hok h
  exact order_core a0 w0 a len cap z w hb

end Go.Proofs.Ytekddnnclbnagaa
