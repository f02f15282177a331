/- JournalAtomic: 'play'. -/
import Derived.Test.YtekddnnclbnagaaKe
namespace Go.Proofs.Ytekddnnclbnagaa
set_option linter.unusedSimpArgs false
set_option linter.unusedVariables false
open Go.RowKit

/-- The loop of 'play'. -/
def PlayRel (B xb lb jb : Nat) (W0 w : World) (l : Ops) (b off : Nat) (ps : List PR) (g : Nat) (v : Value) (wr : World) : Prop :=
  ∃ (i : Nat) (r : Ops) (q : List PR), i + g = l.length ∧ r.length = g ∧ v = .int .i64 ((i : Nat) : Int) ∧ OpsAt W0 r b (off + i * 3) ∧ q.length + r.cnt ≤ l.cnt ∧
    DynH (U jb (RG xb lb ps)) (U jb (RG xb lb (ps ++ q))) w wr ∧ JAt B jb ((ps ++ q).map clo) false wr ∧ RV xb lb jb (ps ++ q) (ps ++ q) wr ∧
    wr.heap[w.heap.size]? = some (.cells #[.pointer (some ⟨xb, 0, none⟩)] 25 (0, 0)) ∧ wr.heap[w.heap.size + 1]? = some (.cells #[.bool true] 4 (0, 0)) ∧
    (∀ k, w.heap.size ≤ k → k < w.heap.size + 2 → ¬ U jb (RG xb lb (ps ++ q)) wr k) ∧ Below B W0 wr

theorem and3 (x : Int) : ∃ m : Nat, m < 4 ∧ bits .and .i64 x 3 = (m : Int) := by
  unfold bits
  refine ⟨(x % 2 ^ 64).toNat &&& 3, ?_, ?_⟩
  · have := @Nat.and_le_right (x % 2 ^ 64).toNat 3; omega
  · have h := @Nat.and_le_right (x % 2 ^ 64).toNat 3
    show IntKind.i64.wrap (((x % 2 ^ 64).toNat &&& ((3 : Int) % 2 ^ 64).toNat : Nat) : Int) = _
    have e3 : ((3 : Int) % 2 ^ 64).toNat = 3 := by decide
    rw [e3]
    generalize (x % 2 ^ 64).toNat &&& 3 = y at h ⊢
    simp [IntKind.wrap, IntKind.signed, IntKind.bits]; omega

/-- The operation's variable is laid: all else stands. -/
theorem play_var {B xb lb jb : Nat} {ps q : List PR} {w wr : World} (o : Obj) (hD : DynH (U jb (RG xb lb ps)) (U jb (RG xb lb (ps ++ q))) w wr) (hJ : JAt B jb ((ps ++ q).map clo) false wr) (hV : RV xb lb jb (ps ++ q) (ps ++ q) wr)
    (hn : ∀ k, w.heap.size ≤ k → k < w.heap.size + 2 → ¬ U jb (RG xb lb (ps ++ q)) wr k) (hs : w.heap.size + 1 < wr.heap.size) :
    DynH (U jb (RG xb lb ps)) (U jb (RG xb lb (ps ++ q))) w (wr.alloc o) ∧ JAt B jb ((ps ++ q).map clo) false (wr.alloc o) ∧ RV xb lb jb (ps ++ q) (ps ++ q) (wr.alloc o) ∧
    (∀ k, w.heap.size ≤ k → k < w.heap.size + 2 → ¬ U jb (RG xb lb (ps ++ q)) (wr.alloc o) k) ∧ ¬ U jb (RG xb lb (ps ++ q)) (wr.alloc o) wr.heap.size := by
  have hF := (jat_framed B jb ((ps ++ q).map clo) false).both (rv_framed xb lb jb (ps ++ q) (ps ++ q))
  obtain ⟨d1, x1⟩ := Dyn.alloc hF ⟨hJ, hV⟩ o
  have hu : ∀ k, U jb (RG xb lb (ps ++ q)) (wr.alloc o) k → U jb (RG xb lb (ps ++ q)) wr k := fun k hk => (hF.fr wr _ ⟨hJ, hV⟩ (fun k hk => Below.heap_alloc _ _ _ (hF.inn wr k ⟨hJ, hV⟩ hk))).2 k hk
  refine ⟨hD.trans (DynH.of d1), x1.1, x1.2, fun k h1 h2 h3 => hn k h1 h2 (hu k h3), fun h => ?_⟩
  have := hF.inn wr _ ⟨hJ, hV⟩ (hu _ h)
  omega

/-- Behind a nested transaction. -/
theorem play_next {B xb lb jb : Nat} {W0 w w1 w2 : World} {l r kids : Ops} {b off i : Nat} {ps q P2 : List PR} {k n : Int} {ka : Option Addr} {kc lo : Nat} {G2 : World → Nat → Prop} (hi : i + (r.length + 1) = l.length) (hat : OpsAt W0 r b (off + i * 3 + 3))
    (hB : Below B W0 w1) (hBs : B ≤ w.heap.size) (hlo : w.heap.size + 2 ≤ lo)
    (h1 : DynH (U jb (RG xb lb ps)) (U jb (RG xb lb (ps ++ q))) w w1) (hbase : ∀ k, U jb (RG xb lb (ps ++ q)) w1 k → B ≤ k)
    (h2 : DynH (U jb (GA xb lb (ps ++ q) w.heap.size (w.heap.size + 1) lo)) (U jb G2) w1 w2) (hlw : lo < w1.heap.size) (hP : P2.length + r.cnt ≤ l.cnt) (hsub : ∀ k, RG xb lb (ps ++ P2) w2 k → G2 w2 k)
    (hJ : JAt B jb ((ps ++ P2).map clo) false w2) (hV : RV xb lb jb (ps ++ P2) (ps ++ P2) w2) (hL : LVars w.heap.size (w.heap.size + 1) lo xb k n ka kids.length kc w2)
    (hn : ∀ k, LK w.heap.size (w.heap.size + 1) lo w2 k → ¬ RG xb lb (ps ++ P2) w2 k) (m : Nat) :
    PlayRel B xb lb jb W0 w l b off ps r.length (.int .i64 ((i : Int) + 1)) (w2.drewN m) := by
  have hF := (jat_framed B jb ((ps ++ P2).map clo) false).both (rv_framed xb lb jb (ps ++ P2) (ps ++ P2))
  have hX := hF.fr w2 (w2.drewN m) ⟨hJ, hV⟩ (fun _ _ => rfl)
  have hs := h1.size
  have hU1 : ∀ k, k < w.heap.size → U jb (GA xb lb (ps ++ q) w.heap.size (w.heap.size + 1) lo) w1 k → U jb (RG xb lb ps) w k := by
    rintro k hk (hu | hu | hu)
    · exact h1.foot k hk (.inl hu)
    · exact h1.foot k hk (.inr hu)
    · rcases hu with rfl | rfl | rfl <;> omega
  have hD : DynH (U jb (RG xb lb ps)) (U jb (RG xb lb (ps ++ P2))) w w2 := by
    refine ⟨h2.os.trans h1.os, h2.tape.trans h1.tape, h2.output.trans h1.output, Nat.le_trans h1.size h2.size, fun k hk hnu => ?_, fun k hk hu => ?_⟩
    · rw [h2.block k (by omega) (fun hu => hnu (hU1 k hk hu))]; exact h1.block k hk hnu
    · exact hU1 k hk (h2.foot k (by omega) (hu.imp id (hsub k)))
  refine ⟨i + 1, r, P2, by omega, rfl, by congr 1, by rw [show off + (i + 1) * 3 = off + i * 3 + 3 by omega]; exact hat, hP, ?_, hX.1.1, hX.1.2, hL.1, hL.2.1, fun k g1 g2 hu => ?_, ?_⟩
  · exact ⟨hD.os, hD.tape, hD.output, hD.size, hD.block, fun k hk hu => hD.foot k hk (hX.2 k hu)⟩
  · have hk : k = w.heap.size ∨ k = w.heap.size + 1 := by omega
    rcases hX.2 k hu with hu | hu
    · rcases hk with rfl | rfl
      · exact jf_type hJ hL.1 (by decide) (by decide) hu
      · exact jf_type hJ hL.2.1 (by decide) (by decide) hu
    · exact hn k (hk.imp id .inl) hu
  · refine hB.trans ⟨h2.os, h2.tape, h2.output, h2.size, fun k hk => h2.block k (by omega) ?_⟩
    rintro (hu | hu | hu)
    · have := hbase k (.inl hu); omega
    · have := hbase k (.inr hu); omega
    · rcases hu with rfl | rfl | rfl <;> omega

theorem callFunc48 (cap : Array Value) (w : World) : (callFunc 48 cap).run Try.prog w = .ok (.enter 48 cap) w := by kernel_rfl

theorem rv_less {xb lb jb : Nat} {ps all : List PR} {w : World} (h : RV xb lb jb ps (ps ++ all) w) : RV xb lb jb ps ps w := ⟨h.var, h.row, fun p hp => h.box p (List.mem_append_left _ hp)⟩

theorem rg_base {B xb lb jb : Nat} {ps all : List PR} {us : List Value} {w : World} (hJ : JAt B jb us false w) (hb : B ≤ xb ∧ B ≤ lb ∧ ∀ p ∈ all, B ≤ p.x ∧ B ≤ p.i ∧ B ≤ p.n) (k : Nat) (h : U jb (RG xb lb all) w k) : B ≤ k := by
  rcases h with h | rfl | rfl | ⟨p, hp, rfl | rfl | rfl⟩
  · exact jf_base hJ k h
  · exact hb.1
  · exact hb.2.1
  · exact (hb.2.2 p hp).1
  · exact (hb.2.2 p hp).2.1
  · exact (hb.2.2 p hp).2.2

theorem play_nil (B xb lb jb : Nat) (W0 : World) : PlaySpec B xb lb jb W0 .nil := by
  intro w ps a cap hB hJ hV hbs hlen hs
  have hF := (jat_framed B jb (ps.map clo) false).both (rv_framed xb lb jb ps ps)
  obtain ⟨d1, x1⟩ := Dyn.alloc hF ⟨hJ, hV⟩ (.cells #[.pointer (some ⟨xb, 0, none⟩)] 25)
  obtain ⟨d2, x2⟩ := Dyn.alloc hF x1 (.cells #[.bool true] 4)
  have E := Lib.hid (show PlayEnds B xb lb jb (Ops.nil).cnt ps w (.returned (.bool true)) ((w.alloc (.cells #[.pointer (some ⟨xb, 0, none⟩)] 25)).alloc (.cells #[.bool true] 4)) from
    ⟨[], Nat.le_refl _, by rw [List.append_nil]; exact DynH.of (d1.trans d2), by rw [List.append_nil]; exact x2.1, by rw [List.append_nil]; exact x2.2, .inl rfl⟩)
  clear hF d1 x1 d2 x2 hB hJ hV hbs hlen hs
  simp only [Ops.length]
  go_enter Try.func15, Try.ntmps15
  go_wp2
  refine wp_loop_once ?_
  go_wp2
  go_ret
  exact E.out

set_option maxHeartbeats 4000000 in
theorem play15 (B xb lb jb : Nat) (W0 : World) (hW0 : W0.heap.size = B) : ∀ (N : Nat) (l : Ops), l.cnt ≤ N → PlaySpec B xb lb jb W0 l := by
  intro N
  induction N with
  | zero =>
    intro l hl
    cases l with
    | nil => exact play_nil B xb lb jb W0
    | cons k n kids r => simp [Ops.cnt] at hl
  | succ N ih =>
    intro l hN w ps a cap hB hJ hV hbs hlen hs
    rcases Nat.eq_zero_or_pos l.length with h0 | h0
    · cases l with
      | nil => exact play_nil B xb lb jb W0 w ps a cap hB hJ hV hbs hlen hs
      | cons k n kids r => simp [Ops.length] at h0
    · obtain ⟨b, off, rfl, hbl, hat⟩ := hs.2 h0
      have hF := (jat_framed B jb (ps.map clo) false).both (rv_framed xb lb jb ps ps)
      obtain ⟨d1, x1⟩ := Dyn.alloc hF ⟨hJ, hV⟩ (.cells #[.pointer (some ⟨xb, 0, none⟩)] 25)
      obtain ⟨d2, x2⟩ := Dyn.alloc hF x1 (.cells #[.bool true] 4)
      have hbz := hB.size
      have S0 := Lib.hid (show PlayRel B xb lb jb W0 w l b off ps l.length (.int .i64 0) ((w.alloc (.cells #[.pointer (some ⟨xb, 0, none⟩)] 25)).alloc (.cells #[.bool true] 4)) from
        ⟨0, l, [], by omega, rfl, rfl, by simpa using hat, by simp, by rw [List.append_nil]; exact DynH.of (d1.trans d2), by rw [List.append_nil]; exact x2.1, by rw [List.append_nil]; exact x2.2, alloc_heap (heap_alloc_new _ _), nblock _ _ _ (by simp),
          fun k h1 h2 hu => by
            rw [List.append_nil] at hu
            have := hF.inn w k ⟨hJ, hV⟩ ((hF.fr w _ ⟨hJ, hV⟩ (fun u hu => by
              have := hF.inn w u ⟨hJ, hV⟩ hu
              rw [Below.heap_alloc _ _ _ (by simp; omega), Below.heap_alloc _ _ _ this])).2 k hu)
            omega, (hB.alloc (by omega) _).alloc (by simp; omega) _⟩)
      have hll := l.length_le
      have hmf := makeFunc_run
      have IH := Lib.hid ih
      have HW := Lib.hid hW0
      have HBS0 := Lib.hid hbs
      have hll2 : l.length < 1000000 := by omega
      clear hJ hV hF d1 x1 d2 x2 hs hat ih hB hW0 hbs
      go_enter Try.func15, Try.ntmps15
      go_wp2
      go_loopg [13] l.length (fun g v wr => PlayRel B xb lb jb W0 w l b off ps g v wr)
      case atStart => exact S0.out
      case round =>
        obtain ⟨i, r, q, hi, hr, rfl, hat, hq, hD, hJ, hV, hx, hok, hn, hB⟩ := hrel
        cases r with
        | nil =>
          simp only [Ops.length] at hr
          subst hr
          have c1 : wr.cell? ⟨w.heap.size + 1, 0, none⟩ = some (.bool true) := by rw [cell_of_heap hok]; rfl
          have E := Lib.hid (show PlayEnds B xb lb jb l.cnt ps w (.returned (.bool true)) wr from ⟨q, by omega, hD, hJ, hV, .inl rfl⟩)
          obtain rfl : i = l.length := by omega
          clear hat hq hD hJ hV hx hok hn hB hi
          go_wp2
          go_ret
          exact E.out
        | cons k n kids r =>
          obtain ⟨c0, c1, ⟨ka, kc, c2, hk⟩, wk, wn, hrr⟩ := hat
          simp only [Ops.length] at hr
          subst hr
          have hlt : i < l.length := by omega
          have hbc : ∀ o, wr.cell? ⟨b, o, none⟩ = W0.cell? ⟨b, o, none⟩ := fun o => hB.cell (by show b < _; have := HW.out; omega)
          have d0 : wr.cell? ⟨b, off + i * 3, none⟩ = some (.int .i64 k) := by rw [hbc]; exact c0
          have d1 : wr.cell? ⟨b, off + i * 3 + 1, none⟩ = some (.int .i64 n) := by rw [hbc]; exact c1
          have d2 : wr.cell? ⟨b, off + i * 3 + 2, none⟩ = some (.slice ka kids.length kc) := by rw [hbc]; exact c2
          have e1 : wr.cell? ⟨w.heap.size, 0, none⟩ = some (.pointer (some ⟨xb, 0, none⟩)) := by rw [cell_of_heap hx]; rfl
          have e2 : wr.cell? ⟨w.heap.size + 1, 0, none⟩ = some (.bool true) := by rw [cell_of_heap hok]; rfl
          have hs1 : w.heap.size < wr.heap.size := heap_lt hx
          have hs2 : w.heap.size + 1 < wr.heap.size := heap_lt hok
          have HAT := Lib.hid hrr
          have HK := Lib.hid hk
          have HQ := Lib.hid hq
          have HD := Lib.hid hD
          have HJ := Lib.hid hJ
          have HV := Lib.hid hV
          have HX := Lib.hid hx
          have HOK := Lib.hid hok
          have HN := Lib.hid hn
          have HB := Lib.hid hB
          have HI := Lib.hid hi
          clear c0 c1 c2 hbc hrr hk hq hD hJ hV hx hok hn hB wk wn hi
          obtain ⟨pv1, pv2, pv3, pv4, pv5⟩ := play_var (.cells #[.int .i64 k, .int .i64 n, .slice ka kids.length kc] 55) HD.out HJ.out HV.out HN.out hs2
          have HBS := Lib.hid (fun u (hu : U jb (RG xb lb (ps ++ q)) (wr.alloc (.cells #[.int .i64 k, .int .i64 n, .slice ka kids.length kc] 55)) u) => (show B ≤ u from by
            rcases Nat.lt_or_ge u B with h | h
            · exact HBS0.out u (pv1.foot u (by have := HW.out; omega) hu)
            · exact h))
          have PV1 := Lib.hid pv1
          have PV2 := Lib.hid pv2
          have PV3 := Lib.hid pv3
          have PV4 := Lib.hid pv4
          have PV5 := Lib.hid pv5
          have hbz2 := HB.out.size
          have hcc := HQ.out
          simp only [Ops.cnt] at hcc
          clear pv1 pv2 pv3 pv4 pv5
          by_cases k1 : k = 1
          · subst k1
            obtain ⟨m, hm4, hm⟩ := and3 (wrap64 ((i : Int) + n))
            have HM := Lib.hid hm
            have A := Lib.hid (add47 B xb lb jb m n ((ps ++ q).map clo) (ps ++ q) _ PV2.out PV3.out hm4 (by simp; omega))
            clear hm
            go_wp2_with fail
            simp only [HM.out]
            go_wp2_with (go_at_call 47; refine A.out.mono ?_)
            rintro e w2 ⟨rfl, j2, v2, d2⟩
            simp only [alloc_size] at j2 v2 d2
            have F := Lib.hid (show PlayRel B xb lb jb W0 w l b off ps r.length (.int .i64 ((i : Int) + 1)) w2 from
              ⟨i + 1, r, q ++ [_], by have := HI.out; omega, rfl, by congr 1, by rw [show off + (i + 1) * 3 = off + i * 3 + 3 by omega]; exact HAT.out, by simp; omega,
                by rw [← List.append_assoc]; exact PV1.out.trans d2, by rw [← List.append_assoc, List.map_append]; exact j2, by rw [← List.append_assoc]; exact v2,
                (d2.block _ (by simp; omega) (PV4.out _ (Nat.le_refl _) (by omega))).trans (alloc_heap HX.out), (d2.block _ (by simp; omega) (PV4.out _ (by omega) (by omega))).trans (alloc_heap HOK.out),
                fun k h1 h2 hu => PV4.out k h1 h2 (d2.foot k (by simp; omega) (by rw [List.append_assoc]; exact hu)), (HB.out.alloc (by have := HW.out; omega) _).trans (d2.below (by simp; have := HW.out; omega) (fun u hu => HBS.out u hu))⟩)
            clear j2 v2 d2
            go_wp2
            go_roundg r.length
            case measure => omega
            case rel => exact F.out
          · have k1' : (k == 1) = false := by simpa using k1
            by_cases k4 : k = 4
            · subst k4
              obtain ⟨er, hf⟩ : ∃ er : Int, ∀ w, Calls Try.prog 31 #[.int .i64 n] w fun e w' => e = .panicked [{ v := .iface 63 (.agg #[.int .i64 er]), recovered := false }] ∧ w = w' := ⟨_, fail_any n⟩
              have HF := Lib.hid hf
              have E := Lib.hid (show PlayEnds B xb lb jb l.cnt ps w (.panicked [{ v := .iface 63 (.agg #[.int .i64 er]), recovered := false }]) (wr.alloc (.cells #[.int .i64 4, .int .i64 n, .slice ka kids.length kc] 55)) from
                ⟨q, by omega, PV1.out, PV2.out, PV3.out, .inr ⟨er, rfl⟩⟩)
              clear hf
              go_wp2_with (go_at_call 31; refine (HF.out _).mono ?_; rintro e w2 ⟨rfl, rfl⟩)
              exact ⟨rfl, E.out⟩
            · have k4' : (k == 4) = false := by simpa using k4
              by_cases k5 : k = 5
              · subst k5
                have x0 : wr.cell? ⟨xb, 0, none⟩ = some (.pointer (some ⟨jb, 0, none⟩)) := by rw [cell_of_heap HV.out.var]; rfl
                have x1 : wr.cell? ⟨xb, 1, none⟩ = some (.slice (some ⟨lb, 0, none⟩) 4 4) := by rw [cell_of_heap HV.out.var]; rfl
                have hxl := heap_lt HV.out.var
                have hll3 := heap_lt HV.out.row
                have hown := World.ownsRow_made (base := B) (e := 3) (size := 1) (wr.alloc (.cells #[.int .i64 5, .int .i64 n, .slice ka kids.length kc] 55)) #[] 0 (by simp; have := HW.out; omega) (by simp [maxLen]) (by simp)
                simp only [alloc_size] at hown
                have hnews : ∀ j u, (row 4 (regOf (ps ++ q))).toList[j]? = some u → ((wr.alloc (.cells #[.int .i64 5, .int .i64 n, .slice ka kids.length kc] 55)).alloc (.cells #[] 3)).cell? ((⟨lb, 0, none⟩ : Addr).add j) = some u := by
                  intro j u hu
                  rw [addr_add, Nat.zero_add, cell_of_heap (alloc_heap (alloc_heap HV.out.row))]
                  simpa using hu
                obtain ⟨i0, hi', hi0, hi1, hi2⟩ := info_parts Try.info3
                have HO := Lib.hid hown
                have HNW := Lib.hid hnews
                clear hown hnews
                go_wp2_with (at_builtin; go_must (refine wpList_append_own_at _ rfl _ _ 30 rfl B 3 i0 (.int .i64 0) 1 8 Try.underlying30 hi' hi0 hi1 hi2 rfl (by decide) _ 0 [] rfl HO.out ⟨lb, 0, none⟩ 4 4 (row 4 (regOf (ps ++ q))).toList rfl ?c0 HNW.out ?c2 ?c3 ?c4 ?c5 ?_))
                case c0 => simp [row]
                case c2 => simp [row, Value.oneCell']
                case c3 => simp [maxLen]
                case c4 => simp
                case c5 => simp; have := HW.out; omega
                intro was w1 hown1 hgrow1 _ hvb
                obtain ⟨wa, wc, rfl, hwas⟩ := own_slice hown1
                obtain ⟨wb, rfl, hwc⟩ := hwas (by omega)
                have hwb : wr.heap.size + 1 ≤ wb := by
                  rcases hvb with e | e
                  · simp [Value.ownBlock] at e; omega
                  · simp [Value.ownBlock] at e; omega
                have hg1 := hgrow1.size
                simp only [alloc_size] at hg1
                have hkeep : ∀ u, u < wr.heap.size + 1 → w1.heap[u]? = (wr.alloc (.cells #[.int .i64 5, .int .i64 n, .slice ka kids.length kc] 55)).heap[u]? := by
                  intro u hu
                  rw [hgrow1.block u (by simp; omega) (by simp [Value.ownBlock]; omega), Below.heap_alloc _ _ _ (by simp; omega)]
                have hF := (jat_framed B jb ((ps ++ q).map clo) false).both (rv_framed xb lb jb (ps ++ q) (ps ++ q))
                have dq := Dyn.quiet hF ⟨PV2.out, PV3.out⟩ hgrow1.os hgrow1.tape hgrow1.output (by simp; omega) (fun u hu => hkeep u (by simpa using hu))
                have xq := hF.keep ⟨PV2.out, PV3.out⟩ (fun u hu => hkeep u (by simpa using hu))
                have lq : LVars w.heap.size (w.heap.size + 1) wr.heap.size xb 5 n ka kids.length kc w1 :=
                  ⟨(hkeep _ (by omega)).trans (alloc_heap HX.out), (hkeep _ (by omega)).trans (alloc_heap HOK.out), (hkeep _ (by omega)).trans (heap_alloc_new _ _)⟩
                have hst : ∀ u, u = w.heap.size ∨ u = w.heap.size + 1 ∨ u = wr.heap.size → ∀ wz, ¬ RG xb lb (ps ++ q) wz u := by
                  rintro u (rfl | rfl | rfl) wz hr
                  · exact PV4.out _ (Nat.le_refl _) (by omega) (.inr hr)
                  · exact PV4.out _ (by omega) (by omega) (.inr hr)
                  · exact PV5.out (.inr hr)
                have hD1 := PV1.out.trans (DynH.of dq)
                have hB1 : Below B W0 w1 := (HB.out.alloc (by have := HW.out; omega) _).trans (dq.below (fun u hu => by simp; have := HW.out; omega) HBS.out)
                have hbs1 : ∀ u, U jb (RG xb lb (ps ++ q)) w1 u → B ≤ u := by
                  intro u hu
                  rcases Nat.lt_or_ge u B with h | h
                  · exact HBS0.out u (hD1.foot u (by have := HW.out; omega) hu)
                  · exact h
                have hXF := (rv_framed xb lb jb (ps ++ q) (ps ++ q)).both (lvars_framed w.heap.size (w.heap.size + 1) wr.heap.size xb 5 n ka kids.length kc)
                have hkat : SliceOps W0 kids ka kids.length := ⟨rfl, HK.out⟩
                have A := Lib.hid (attempt_grow B jb _ _ hXF w1 ((ps ++ q).map clo) xq.1 ⟨xq.2, lq⟩ (by simp; omega) 48 _ (callFunc48 #[.pointer (some ⟨w.heap.size, 0, none⟩), .pointer (some ⟨wr.heap.size, 0, none⟩), .pointer (some ⟨w.heap.size + 1, 0, none⟩)]) _ _ _
                  (fun wz jz xz dz => by
                    rw [List.length_map]
                    refine act48 B xb lb jb W0 kids (IH.out kids (by omega)) w.heap.size (w.heap.size + 1) wr.heap.size 5 n ka kc hkat (ps ++ q) (by simp; omega) hst wz ?_ jz xz.1 ?_ xz.2
                    · refine hB1.trans (dz.below (fun u hu => by have := HW.out; omega) ?_)
                      rintro u (hu | hu | hu)
                      · exact hbs1 u (.inl hu)
                      · exact hbs1 u (.inr hu)
                      · have := HW.out; rcases hu with rfl | rfl | rfl <;> omega
                    · intro u hu
                      rcases Nat.lt_or_ge u B with h | h
                      · have h3 := dz.foot u (by have := HW.out; omega) (hu.imp id .inl)
                        rcases h3 with h3 | h3 | h3
                        · exact hbs1 u (.inl h3)
                        · exact hbs1 u (.inr h3)
                        · have := HW.out; rcases h3 with rfl | rfl | rfl <;> omega
                      · exact h))
                obtain ⟨⟨la, lc, hc0⟩, _⟩ := xq.1.cells
                have L := Lib.hid (len_any jb la _ lc w1 hc0 (by simp [maxLen]; omega))
                have y0 : w1.cell? ⟨xb, 0, none⟩ = some (.pointer (some ⟨jb, 0, none⟩)) := by rw [cell_of_heap xq.2.var]; rfl
                have y1 : w1.cell? ⟨w.heap.size, 0, none⟩ = some (.pointer (some ⟨xb, 0, none⟩)) := by rw [cell_of_heap lq.1]; rfl
                have HWC := Lib.hid hwc
                have HHB := Lib.hid (show Below B W0 w1 ∧ DynH (U jb (RG xb lb ps)) (U jb (RG xb lb (ps ++ q))) w w1 ∧ (∀ u, U jb (RG xb lb (ps ++ q)) w1 u → B ≤ u) ∧ JAt B jb ((ps ++ q).map clo) false w1 from ⟨hB1, hD1, hbs1, xq.1⟩)
                have HST := Lib.hid hst
                have HWR := Lib.hid (show ¬ RG xb lb (ps ++ q) w1 wb from fun hr => by
                  have := (rv_framed xb lb jb (ps ++ q) (ps ++ q)).inn _ wb HV.out hr
                  omega)
                have HWN := Lib.hid (show ¬ JF jb w1 wb from fun hf => by
                  have := (jat_framed B jb ((ps ++ q).map clo) false).inn _ wb HJ.out (((jat_framed B jb ((ps ++ q).map clo) false).fr wr w1 HJ.out (fun u hu => (hkeep u (by have := (jat_framed B jb ((ps ++ q).map clo) false).inn _ u HJ.out hu; omega)).trans (Below.heap_alloc _ _ _ ((jat_framed B jb ((ps ++ q).map clo) false).inn _ u HJ.out hu)))).2 wb hf)
                  omega)
                clear hwas hwc hvb hown1 hgrow1 hkeep hF dq xq lq hst hD1 hB1 hbs1 hXF hkat hc0 x0 x1 d0 d1 d2 e1 e2
                go_wp2_with (first | (go_at_call 17; refine L.out.mono ?_; rintro e w' ⟨rfl, rfl⟩) | (go_at_call 13; refine A.out.mono ?_))
                rintro e w2 ⟨G2, d2, hatt⟩
                obtain ⟨hB1, hD1, hbs1, hj1⟩ := HHB.out
                rcases hatt with ⟨rfl, q2, hq2, hG2, j2, v2, l2, n2⟩ | ⟨er, rfl, all, hG2, j2, v2, l2⟩ | ⟨_, _, _, F⟩
                · have NX := Lib.hid (play_next (P2 := q ++ q2) (i := i) (r := r) (b := b) (off := off) (l := l) (by have := HI.out; omega) HAT.out hB1 (by have := HW.out; omega) (by omega) hD1 hbs1 d2 (by omega) (by simp; omega)
                    (fun u hu => (hG2 u).2 (.inl (by rw [List.append_assoc]; exact hu))) (by rw [← List.append_assoc]; exact j2) (by rw [← List.append_assoc]; exact v2) l2 (by rw [← List.append_assoc]; exact n2) 0)
                  clear hG2 d2 j2 v2 l2 n2 hB1 hD1 hbs1 hj1 y0 y1
                  go_wp2
                  go_roundg r.length
                  case measure => omega
                  case rel => exact NX.out
                · have v3 := rv_less v2
                  have n3 : ∀ u, LK w.heap.size (w.heap.size + 1) wr.heap.size w2 u → ¬ RG xb lb (ps ++ q) w2 u := fun u hu => HST.out u hu w2
                  have NX := fun m => play_next (P2 := q) (i := i) (r := r) (b := b) (off := off) (l := l) (by have := HI.out; omega) HAT.out hB1 (by have := HW.out; omega) (by omega) hD1 hbs1 d2 (by omega) (by omega)
                    (fun u hu => hG2 u (.inl hu)) j2 v3 l2 n3 m
                  by_cases he : er = 0
                  · subst he
                    have NX0 := Lib.hid (NX 0)
                    clear NX hG2 d2 j2 v2 l2 v3 n3 hB1 hD1 hbs1 hj1 y0 y1
                    go_wp2
                    go_roundg r.length
                    case measure => omega
                    case rel => exact NX0.out
                  · have he' : (er != 0) = true := by simpa using he
                    have he'' : (er == 0) = false := by simpa using he
                    have c0 : w2.cell? ⟨w.heap.size, 0, none⟩ = some (.pointer (some ⟨xb, 0, none⟩)) := by rw [cell_of_heap l2.1]; rfl
                    have c1 : w2.cell? ⟨xb, 0, none⟩ = some (.pointer (some ⟨jb, 0, none⟩)) := by rw [cell_of_heap v3.var]; rfl
                    have c2 : w2.cell? ⟨xb, 1, none⟩ = some (.slice (some ⟨lb, 0, none⟩) 4 4) := by rw [cell_of_heap v3.var]; rfl
                    have hlb : wb < w1.heap.size := by
                      have := HWC.out 0 (.int .i64 (regOf (ps ++ q) 0)) (by simp [row])
                      exact World.block_lt_of_cell? w1 _ this
                    have hwn : ¬ U jb (GA xb lb (ps ++ q) w.heap.size (w.heap.size + 1) wr.heap.size) w1 wb := by
                      rintro (hu | hu | hu)
                      · exact HWN.out hu
                      · exact HWR.out hu
                      · rcases hu with hu | hu | hu <;> omega
                    have hi1 : IntsAt w2 (some ⟨lb, 0, none⟩) 4 (regOf (ps ++ q)) := fun _ => ⟨lb, 0, rfl, fun j hj => by rw [Nat.zero_add, cell_of_heap v3.row, row_get hj]⟩
                    have hi2 : IntsAt w2 (some ⟨wb, 0, none⟩) 4 (regOf (ps ++ q)) := fun _ => ⟨wb, 0, rfl, fun j hj => by
                      rw [Nat.zero_add, World.cell?_of_block (w := w1) (d2.block wb hlb hwn)]
                      exact HWC.out j _ (by simp [row, hj])⟩
                    have Q := Lib.hid (fun c1 c2 => ints_same 4 (by omega) (regOf (ps ++ q)) (some ⟨lb, 0, none⟩) (some ⟨wb, 0, none⟩) c1 c2 w2 hi1 hi2)
                    obtain ⟨⟨la, lc, hc0⟩, _⟩ := j2.cells
                    have L2 := Lib.hid (fun m => len_any jb la _ lc (w2.drewN m) hc0 (by simp [maxLen]; omega))
                    have HNX := Lib.hid NX
                    clear NX hG2 d2 j2 v2 l2 v3 n3 hB1 hD1 hbs1 hj1 y0 y1 hi1 hi2 hwn hlb hc0 he
                    go_wp2_with (go_at_call 16; refine (Q.out _ _).mono ?_)
                    rintro e w3 ⟨rfl, m, rfl⟩
                    go_wp2_with (go_at_call 17; refine (L2.out m).mono ?_; rintro e w' ⟨rfl, rfl⟩)
                    go_roundg r.length
                    case measure => omega
                    case rel => exact HNX.out m
                · exact F.elim
              · have k5' : (k == 5) = false := by simpa using k5
                have F := Lib.hid (show PlayRel B xb lb jb W0 w l b off ps r.length (.int .i64 ((i : Int) + 1)) (wr.alloc (.cells #[.int .i64 k, .int .i64 n, .slice ka kids.length kc] 55)) from
                  ⟨i + 1, r, q, by have := HI.out; omega, rfl, by congr 1, by rw [show off + (i + 1) * 3 = off + i * 3 + 3 by omega]; exact HAT.out, by omega, PV1.out, PV2.out, PV3.out, alloc_heap HX.out, alloc_heap HOK.out, PV4.out, HB.out.alloc (by have := HW.out; omega) _⟩)
                clear k1 k4 k5
                go_wp2
                go_roundg r.length
                case measure => omega
                case rel => exact F.out

end Go.Proofs.Ytekddnnclbnagaa
