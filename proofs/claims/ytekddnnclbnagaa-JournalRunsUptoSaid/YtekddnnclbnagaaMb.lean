/- JournalRuns: the model's 'cut'. -/
import Derived.Test.YtekddnnclbnagaaMa
import Derived.Test.YtekddnnclbnagaaRg
namespace Go.Proofs.Ytekddnnclbnagaa
set_option linter.unusedSimpArgs false
set_option linter.unusedVariables false
open Go.RowKit

/-- An append of any number of cells, none too, at a step of a region that draws its order. -/
theorem step_append_any {P : Program} {w : World} {ops : Array Oper} {o : Oper} {a : Act} {K : Act → World → Prop} {Q : Exit → Act → World → Prop} {E : Prop} (hgd : o.guard = none) (s x : Operand) (t : TypeId)
    (ho : o.op = .call { callee := .builtin .append, args := #[s, x], argTypes := #[t, t] })
    (base : Nat) (e : TypeId) (i : TypeInfo) (z : Value) (size bytes : Nat) (ht : P.underlying t = some (.slice e)) (hi : P.info? e = some i) (hz : i.zero = some z)
    (hsize : i.size = size) (hby : i.bytes = bytes) (hzs : z.cells.size = size) (hsz : 0 < size)
    (v : Value) (n : Nat) (xs : List Value) (hs : a.eval s = v) (hown : w.ownsRow base e size v n xs)
    (ad : Addr) (m c : Nat) (news : List Value) (hx : a.eval x = .slice (some ad) m c) (hl : news.length = m * size) (hnews : ∀ j u, news[j]? = some u → w.cell? (ad.add j) = some u) (h1 : ∀ u ∈ news, u.oneCell' = true)
    (h63 : n + m ≤ maxLen) (hbytes : (n + m) * bytes ≤ 140737488355328) (hbase : base ≤ w.heap.size)
    (h : ∀ g cap w', w'.ownsRow base e size (.slice g (n + m) cap) (n + m) (xs ++ news) → w.grownBy w' v.ownBlock → ((Value.slice g (n + m) cap).ownBlock = v.ownBlock ∨ (Value.slice g (n + m) cap).ownBlock = some w.heap.size) → K (a.put o.dst (.slice g (n + m) cap)) w') :
    if Region.wanted o (yielded ops a.tmps) = true then Oper.wp P o a w K Q else E := by
  have hw : Region.wanted o (yielded ops a.tmps) = true := by simp [Region.wanted, hgd]
  rw [if_pos hw]
  obtain ⟨v', w', hr, h2, h3, _, h5⟩ := run_append_own_at (P := P) w base t o.type e i z size bytes ht hi hz hsize hby hzs hsz v n xs hown ad m c news hl hnews h1 h63 hbytes hbase
  obtain ⟨g, cap, rfl⟩ : ∃ g cap, v' = .slice g (n + m) cap := by
    rcases h2.2 with ⟨rfl, e0⟩ | ⟨g, cap, cur, rfl, _⟩
    · have e1 : n + m = 0 := by simp at e0; omega
      exact ⟨none, 0, by rw [e1]⟩
    · exact ⟨_, _, rfl⟩
  unfold Oper.wp execOp
  simp only [ho, resolve, invoke, builtin, Sem.run_bind, Sem.run_pure, Result.andThen_ok, List.map_toArray, List.map_cons, List.map_nil, hs, hx, hr]
  exact h g cap w' h2 h3 h5

def cutLog (lg : Bool) (s : St) (m : Nat) : List Int := if lg then s.log ++ (s.L.drop m).reverse else s.log

def MidRel (M mb ob : Nat) (s : St) (xv : Value) (b0 : Nat) (lg : Bool) (w : World) (g : Nat) (wx : World) : Prop :=
  ∃ Lv gv, MS M mb ob ⟨s.L.take (b0 + g + 1), cutLog lg s (b0 + g), s.out⟩ Lv gv xv wx ∧ Below M w wx

def CutRel (M mb ob : Nat) (s : St) (xv : Value) (b0 : Nat) (lg : Bool) (w : World) (g : Nat) (wr : World) : Prop :=
  g ≤ s.L.length - b0 ∧ ∃ Lv gv, MS M mb ob ⟨s.L.take (b0 + g), cutLog lg s (b0 + g), s.out⟩ Lv gv xv wr ∧ Below M w wr

set_option maxRecDepth 100000 in
set_option maxHeartbeats 4000000 in
theorem cut55 (M mb ob : Nat) (s : St) (Lv gv xv : Value) (b0 : Nat) (lg : Bool) (w : World) (h : MS M mb ob s Lv gv xv w) (hn : s.L.length + s.log.length < 900) (hto : b0 ≤ 900) (hM : M ≤ w.heap.size) :
    Calls Try.prog 55 #[.pointer (some ⟨mb, 0, none⟩), .int .i64 b0, .bool lg] w fun e w' => e = .returned (.tuple #[]) ∧ (∃ Lv gv, MS M mb ob ⟨s.L.take b0, cutLog lg s b0, s.out⟩ Lv gv xv w') ∧ Below M w w' := by
  have S0 := Lib.hid (show CutRel M mb ob s xv b0 lg w (s.L.length - b0) w from
    ⟨Nat.le_refl _, Lv, gv, by
      have e1 : s.L.take (b0 + (s.L.length - b0)) = s.L := List.take_of_length_le (by omega)
      have e2 : cutLog lg s (b0 + (s.L.length - b0)) = s.log := by unfold cutLog; rw [List.drop_of_length_le (by omega)]; simp
      rw [e1, e2]; exact h, Below.refl _ _⟩)
  clear h
  go_enter Try.func55, Try.ntmps55
  go_wp2
  go_loopg [] (s.L.length - b0) (fun g wr => CutRel M mb ob s xv b0 lg w g wr)
  case atStart => exact S0.out
  case round =>
    obtain ⟨hg, Lv, gv, hS, hB⟩ := hrel
    cases gk with
    | zero =>
      obtain ⟨a, c, rfl, _⟩ := own_slice hS.l
      have hle : (s.L.take (b0 + 0)).length ≤ b0 := by simp; omega
      have c0 : wr.cell? ⟨mb, 0, none⟩ = some (.slice a (s.L.take (b0 + 0)).length c) := by rw [cell_of_heap hS.bm]; rfl
      have E := Lib.hid (show (∃ Lv gv, MS M mb ob ⟨s.L.take b0, cutLog lg s b0, s.out⟩ Lv gv xv wr) ∧ Below M w wr from ⟨⟨_, gv, hS⟩, hB⟩)
      generalize (s.L.take (b0 + 0)).length = n0 at hle c0
      clear hS hB hg
      go_wp2
      go_end0
      exact ⟨rfl, E.out⟩
    | succ g =>
      have hlen : (s.L.take (b0 + (g + 1))).length = b0 + g + 1 := by simp; omega
      have hown := hS.l
      simp only [hlen] at hown
      obtain ⟨a, c, rfl, hwas⟩ := own_slice hown
      obtain ⟨ab, rfl, hcells⟩ := hwas (by omega)
      have hlt : b0 + g < s.L.length := by omega
      have c0 : wr.cell? ⟨mb, 0, none⟩ = some (.slice (some ⟨ab, 0, none⟩) (b0 + g + 1) c) := by rw [cell_of_heap hS.bm]; rfl
      have c1 : wr.cell? ⟨mb, 1, none⟩ = some gv := by rw [cell_of_heap hS.bm]; rfl
      have c2 : wr.cell? ⟨ab, b0 + g, none⟩ = some (.int .i64 (s.L[b0 + g]'hlt)) := by
        refine hcells (b0 + g) _ ?_
        simp [ints, List.getElem?_take, hlt]
      have HS := Lib.hid (show _ ∧ _ ∧ _ ∧ _ from ⟨hS, hB, hg, hcells⟩)
      clear hS hB hg hcells hown hwas
      go_upto_if 13 with fail
      go_cut [] (fun wx => MidRel M mb ob s xv b0 lg w g wx)
      case first =>
        cases lg with
        | false =>
          go_wp2_with fail
          go_meet
          case rel => exact ⟨_, gv, HS.out.1, HS.out.2.1⟩
        | true =>
          have f1 : IntKind.i64.wrap ((b0 : Int) + g) = (b0 : Int) + g := by rw [wrap_kind]; unfold wrap64; omega
          have f2 : (0 : Int) ≤ (b0 : Int) + g := by omega
          have f3 : ((b0 : Int) + g).toNat = b0 + g := by omega
          have f4 : (b0 : Int) + g < (b0 : Int) + g + 1 := by omega
          go_wp2_with fail
          refine but_begin (fun w' => w'.cell? ⟨mb, 0, none⟩ = some (.slice (some ⟨ab, 0, none⟩) (b0 + g + 1) c) ∧ w'.cell? ⟨mb, 1, none⟩ = some gv ∧ w'.cell? ⟨ab, b0 + g, none⟩ = some (.int .i64 s.L[b0 + g])) 21 (by kernel_rfl) ?_
          have hH : wr.drew.cell? ⟨mb, 0, none⟩ = some (.slice (some ⟨ab, 0, none⟩) (b0 + g + 1) c) ∧ wr.drew.cell? ⟨mb, 1, none⟩ = some gv ∧ wr.drew.cell? ⟨ab, b0 + g, none⟩ = some (.int .i64 s.L[b0 + g]) := ⟨c0, c1, c2⟩
          (refine but_take 0 (v := ?_) rfl (by kernel_rfl) (fun _ _ _ h => h) (by assumption) (by rfl) (fun w hw => ?_) ?_; rotate_left; ((try dsimp only at hw); go_simp; try with_reducible rfl); (try simp only [Act.put, List.setIfInBounds_toArray, List.set_cons_zero, List.set_cons_succ]))
          (refine but_take 1 (v := ?_) rfl (by kernel_rfl) (fun _ _ _ h => h) (by assumption) (by rfl) (fun w hw => ?_) ?_; rotate_left; ((try dsimp only at hw); go_simp; try with_reducible rfl); (try simp only [Act.put, List.setIfInBounds_toArray, List.set_cons_zero, List.set_cons_succ]))
          (refine but_take 2 (v := ?_) rfl (by kernel_rfl) (fun _ _ _ h => h) (by assumption) (by rfl) (fun w hw => ?_) ?_; rotate_left; ((try dsimp only at hw); go_simp; try with_reducible rfl); (try simp only [Act.put, List.setIfInBounds_toArray, List.set_cons_zero, List.set_cons_succ]))
          (refine but_take 3 (v := ?_) rfl (by kernel_rfl) (fun _ _ _ h => h) (by assumption) (by rfl) (fun w hw => ?_) ?_; rotate_left; ((try dsimp only at hw); go_simp; try with_reducible rfl); (try simp only [Act.put, List.setIfInBounds_toArray, List.set_cons_zero, List.set_cons_succ]))
          (refine but_take 4 (v := ?_) rfl (by kernel_rfl) (fun _ _ _ h => h) (by assumption) (by rfl) (fun w hw => ?_) ?_; rotate_left; ((try dsimp only at hw); go_simp; try with_reducible rfl); (try simp only [Act.put, List.setIfInBounds_toArray, List.set_cons_zero, List.set_cons_succ]))
          (refine but_take 5 (v := ?_) rfl (by kernel_rfl) (fun _ _ _ h => h) (by assumption) (by rfl) (fun w hw => ?_) ?_; rotate_left; ((try dsimp only at hw); go_simp; try with_reducible rfl); (try simp only [Act.put, List.setIfInBounds_toArray, List.set_cons_zero, List.set_cons_succ]))
          (refine but_take 6 (v := ?_) rfl (by kernel_rfl) (fun _ _ _ h => h) (by assumption) (by rfl) (fun w hw => ?_) ?_; rotate_left; ((try dsimp only at hw); go_simp; try with_reducible rfl); (try simp only [Act.put, List.setIfInBounds_toArray, List.set_cons_zero, List.set_cons_succ]))
          (refine but_take 7 (v := ?_) rfl (by kernel_rfl) (fun _ _ _ h => h) (by assumption) (by rfl) (fun w hw => ?_) ?_; rotate_left; ((try dsimp only at hw); go_simp; try with_reducible rfl); (try simp only [Act.put, List.setIfInBounds_toArray, List.set_cons_zero, List.set_cons_succ]))
          (refine but_take 8 (v := ?_) rfl (by kernel_rfl) (fun _ _ _ h => h) (by assumption) (by rfl) (fun w hw => ?_) ?_; rotate_left; ((try dsimp only at hw); go_simp; try with_reducible rfl); (try simp only [Act.put, List.setIfInBounds_toArray, List.set_cons_zero, List.set_cons_succ]))
          (refine but_take 9 (v := ?_) rfl (by kernel_rfl) (fun _ _ _ h => h) (by assumption) (by rfl) (fun w hw => ?_) ?_; rotate_left; ((try dsimp only at hw); go_simp; try with_reducible rfl); (try simp only [Act.put, List.setIfInBounds_toArray, List.set_cons_zero, List.set_cons_succ]))
          (refine but_take 10 (v := ?_) rfl (by kernel_rfl) (fun _ _ _ h => h) (by assumption) (by rfl) (fun w hw => ?_) ?_; rotate_left; ((try dsimp only at hw); go_simp; try with_reducible rfl); (try simp only [Act.put, List.setIfInBounds_toArray, List.set_cons_zero, List.set_cons_succ]))
          (refine but_take 11 (v := ?_) rfl (by kernel_rfl) (fun _ _ _ h => h) (by assumption) (by rfl) (fun w hw => ?_) ?_; rotate_left; ((try dsimp only at hw); go_simp; try with_reducible rfl); (try simp only [Act.put, List.setIfInBounds_toArray, List.set_cons_zero, List.set_cons_succ]))
          (refine but_take 12 (v := ?_) rfl (by kernel_rfl) (fun _ _ _ h => h) (by assumption) (by rfl) (fun w hw => ?_) ?_; rotate_left; ((try dsimp only at hw); go_simp; try with_reducible rfl); (try simp only [Act.put, List.setIfInBounds_toArray, List.set_cons_zero, List.set_cons_succ]))
          (refine but_take 13 (v := ?_) rfl (by kernel_rfl) (fun _ _ _ h => h) (by assumption) (by rfl) (fun w hw => ?_) ?_; rotate_left; ((try dsimp only at hw); go_simp; try with_reducible rfl); (try simp only [Act.put, List.setIfInBounds_toArray, List.set_cons_zero, List.set_cons_succ]))
          (refine but_take 14 (v := ?_) rfl (by kernel_rfl) (fun _ _ _ h => h) (by assumption) (by rfl) (fun w hw => ?_) ?_; rotate_left; ((try dsimp only at hw); go_simp; try with_reducible rfl); (try simp only [Act.put, List.setIfInBounds_toArray, List.set_cons_zero, List.set_cons_succ]))
          (refine but_take 15 (v := ?_) rfl (by kernel_rfl) (fun _ _ _ h => h) (by assumption) (by rfl) (fun w hw => ?_) ?_; rotate_left; ((try dsimp only at hw); go_simp; try with_reducible rfl); (try simp only [Act.put, List.setIfInBounds_toArray, List.set_cons_zero, List.set_cons_succ]))
          (refine but_take 16 (v := ?_) rfl (by kernel_rfl) (fun _ _ _ h => h) (by assumption) (by rfl) (fun w hw => ?_) ?_; rotate_left; ((try dsimp only at hw); go_simp; try with_reducible rfl); (try simp only [Act.put, List.setIfInBounds_toArray, List.set_cons_zero, List.set_cons_succ]))
          refine but_one 17 rfl (by kernel_rfl) (fun K hK => ?_)
          go_simp
          refine hK.out _ _ (by go_keep) (fun hHeld => ?_)
          clear hK K
          obtain ⟨hS, hB, hg, hcells⟩ := HS.out
          have HO := Lib.hid (show ((wr.alloc (.cells #[.int .i64 s.L[b0 + g]] 3)).drew).ownsRow M 3 1 gv _ (ints (cutLog true s (b0 + (g + 1)))) from hS.g.alloc _)
          have hMw : M ≤ wr.heap.size := by have := hB.size; omega
          have hlg : (cutLog true s (b0 + (g + 1))).length < 1000 := by simp [cutLog]; omega
          have HNB := Lib.hid (show gv.ownBlock ≠ some mb ∧ gv.ownBlock ≠ some ab from ⟨fun e => own_ne hS.bm hS.g (by decide) e.symm, fun e => hS.lg ab (by simp [Value.ownBlock]) e⟩)
          have hab : ab < wr.heap.size := World.block_lt_of_cell? wr _ c2
          have hmb := heap_lt hS.bm
          have hfz := frozen_of_heap hS.bm 1
          obtain ⟨i0, hi', hi0, hi1, hi2⟩ := info_parts Try.info3
          clear hS hB hg hcells
          refine but_one 18 rfl (by kernel_rfl) (fun K hK => ?_)
          refine step_append_any (by rfl) (.tmp 18) (.tmp 31) 30 (by rfl) M 3 i0 (.int .i64 0) 1 8 Try.underlying30 hi' hi0 hi1 hi2 rfl (by decide) gv _ (ints (cutLog true s (b0 + (g + 1)))) (by rfl) HO.out ⟨wr.heap.size, 0, none⟩ 1 1 [.int .i64 s.L[b0 + g]] (by rfl) (by rfl) (World.news_of_block (cs := #[.int .i64 s.L[b0 + g]]) (t := 3) (fr := (0, 0)) (heap_alloc_new _ _)) (by simp [Value.oneCell']) (by unfold maxLen; simp only; omega) (by simp only; omega) (by simp; omega) ?_
          intro ga cap w1 h1 h2 h3
          have hg2 : (wr.alloc (.cells #[.int .i64 s.L[b0 + g]] 3)).grownBy w1 gv.ownBlock := ⟨h2.os, h2.tape, h2.output, h2.size, h2.block⟩
          have z0 := (keep_cell hg2 ⟨mb, 0, none⟩ hmb HNB.out.1).1.trans c0
          have z1 := (keep_cell hg2 ⟨mb, 1, none⟩ hmb HNB.out.1).1.trans c1
          have z2 := (keep_cell hg2 ⟨ab, b0 + g, none⟩ hab HNB.out.2).1.trans c2
          have z3 := (keep_cell hg2 ⟨mb, 1, none⟩ hmb HNB.out.1).2.trans hfz
          have HH := Lib.hid (show _ ∧ _ ∧ _ from ⟨h1, h2, h3⟩)
          clear h1 h2 h3 hg2 hHeld
          refine hK.out _ _ ⟨z0, z1, z2⟩ (fun hHeld => ?_)
          clear hK K
          try simp only [Act.put, List.setIfInBounds_toArray, List.set_cons_zero, List.set_cons_succ]
          (refine but_take 19 (v := ?_) rfl (by kernel_rfl) (fun _ _ _ h => h) (by assumption) (by rfl) (fun w hw => ?_) ?_; rotate_left; ((try dsimp only at hw); go_simp; try with_reducible rfl); (try simp only [Act.put, List.setIfInBounds_toArray, List.set_cons_zero, List.set_cons_succ]))
          (refine but_take 20 (v := ?_) rfl (by kernel_rfl) (fun _ _ _ h => h) (by assumption) (by rfl) (fun w hw => ?_) ?_; rotate_left; ((try dsimp only at hw); go_simp; try with_reducible rfl); (try simp only [Act.put, List.setIfInBounds_toArray, List.set_cons_zero, List.set_cons_succ]))
          refine but_last rfl (by kernel_rfl) (by kernel_rfl) (fun K hK => ?_)
          go_simp
          refine hK.out _ _ ?_
          clear hK K
          obtain ⟨hS, hB, hg, hcells⟩ := HS.out
          obtain ⟨h1, h2, h3⟩ := HH.out
          have hq : cutLog true s (b0 + (g + 1)) ++ [s.L[b0 + g]] = cutLog true s (b0 + g) := by
            simp only [cutLog, if_true]
            rw [List.drop_eq_getElem_cons hlt]
            simp [Nat.add_assoc]
          have MSn := ms_g (q := cutLog true s (b0 + g)) hS ⟨h2.os, h2.tape, h2.output, by have := h2.size; simp at this; omega⟩ (fun k hk hne => (h2.block k (by simp; omega) hne).trans (Below.heap_alloc _ _ _ hk)) (by rw [← hq]; simpa [ints] using h1) (by
            rcases h3 with h3 | h3
            · exact .inl h3
            · refine .inr (fun k hk => ?_)
              rw [h3] at hk
              simp at hk
              omega)
          have F := Lib.hid (show MidRel M mb ob s xv b0 true w g _ from ⟨_, _, MSn.1, hB.trans MSn.2⟩)
          clear hS hB hg hcells h1 h2 h3 hq MSn
          go_wp2_with fail
          go_meet
          case rel => exact F.out
      case rest =>
        obtain ⟨Lv, gv2, hS, hB⟩ := hcut
        have hg := HS.out.2.2.1
        have hlen : (s.L.take (b0 + g + 1)).length = b0 + g + 1 := by simp; omega
        have hown := hS.l
        simp only [hlen] at hown
        obtain ⟨a2, cp, rfl, hwas⟩ := own_slice hown
        obtain ⟨ab2, rfl, hcells⟩ := hwas (by omega)
        have hcap : b0 + g + 1 ≤ cp := by
          rcases hown.2 with ⟨hv, _⟩ | ⟨_, _, _, hv, _, _, hc, _⟩
          · simp at hv
          · simp at hv; obtain ⟨_, rfl⟩ := hv; exact hc
        clear c0 c1 c2 HS
        have HHw := Lib.hid hwas
        clear hwas
        have hab : ab2 < wc.heap.size := World.block_lt_of_cell? wc _ (hcells (b0 + g) (.int .i64 (s.L[b0 + g]'hlt)) (by simp [ints, List.getElem?_take, hlt]))
        have hmb := heap_lt hS.bm
        have hMw : M ≤ wc.heap.size := by have := hB.size; omega
        have c0 : wc.cell? ⟨mb, 0, none⟩ = some (.slice (some ⟨ab2, 0, none⟩) (b0 + g + 1) cp) := by rw [cell_of_heap hS.bm]; rfl
        have hfz := frozen_of_heap hS.bm 0
        have HS := Lib.hid (show _ ∧ _ ∧ _ from ⟨hS, hB, hcells⟩)
        have hO := World.ownsRow_made (base := M) (e := 3) (size := 1) wc #[] 0 hMw (by simp [maxLen]) (by simp)
        have HO := Lib.hid (show ((wc.alloc (.cells #[] 3)).drew).ownsRow M 3 1 _ 0 [] from hO)
        obtain ⟨i0, hi', hi0, hi1, hi2⟩ := info_parts Try.info3
        clear hO hS hB hown hcells
        generalize hLt : s.L.take (b0 + g + 1) = Lt at *
        obtain ⟨m, hm⟩ : ∃ m, b0 + g = m := ⟨_, rfl⟩
        rw [hm] at c0 hcap hlen
        have hmn : m < 1000 := by omega
        have f1 : IntKind.i64.wrap (m : Int) = m := by rw [wrap_kind]; unfold wrap64; omega
        have f2 : (0 : Int) ≤ m := by omega
        have f3 : (m : Int) ≤ cp := by omega
        have f4 : ¬ (cp : Int) < m := by omega
        have f5 : ¬ cp = 0 := by omega
        have HMM := Lib.hid (show _ ∧ _ ∧ _ ∧ _ from ⟨hm, hLt, hlen, hlt⟩)
        have HNW := Lib.hid (show ∀ j u, ((ints Lt).take m)[j]? = some u → (wc.alloc (.cells #[] 3)).drew.cell? ((⟨ab2, 0, none⟩ : Addr).add j) = some u by
          intro j u hu
          have hu2 : (ints Lt)[j]? = some u := by
            rw [List.getElem?_take] at hu
            split at hu
            · exact hu
            · cases hu
          have h9 := HS.out.2.2 j u hu2
          have e9 : (wc.alloc (.cells #[] 3)).drew.heap[ab2]? = wc.heap[ab2]? := Below.heap_alloc _ _ _ hab
          have ea : (⟨ab2, 0, none⟩ : Addr).add j = ⟨ab2, j, none⟩ := by simp [Addr.add]; omega
          rw [ea]
          exact (World.cell?_of_block (a := ⟨ab2, j, none⟩) e9).trans h9)
        clear hm hLt hlt hlen hg
        go_wp2_with fail
        refine but_begin (fun w' => w'.cell? ⟨mb, 0, none⟩ = some (.slice (some ⟨ab2, 0, none⟩) (m + 1) cp)) 16 (by kernel_rfl) ?_
        have hH : wc.drew.cell? ⟨mb, 0, none⟩ = some (.slice (some ⟨ab2, 0, none⟩) (m + 1) cp) := c0
        (refine but_take 0 (v := ?_) rfl (by kernel_rfl) (fun _ _ _ h => h) (by assumption) (by rfl) (fun w hw => ?_) ?_; rotate_left; ((try dsimp only at hw); go_simp; try with_reducible rfl); (try simp only [Act.put, List.setIfInBounds_toArray, List.set_cons_zero, List.set_cons_succ]))
        (refine but_take 2 (v := ?_) rfl (by kernel_rfl) (fun _ _ _ h => h) (by assumption) (by rfl) (fun w hw => ?_) ?_; rotate_left; ((try dsimp only at hw); go_simp; try with_reducible rfl); (try simp only [Act.put, List.setIfInBounds_toArray, List.set_cons_zero, List.set_cons_succ]))
        (refine but_take 3 (v := ?_) rfl (by kernel_rfl) (fun _ _ _ h => h) (by assumption) (by rfl) (fun w hw => ?_) ?_; rotate_left; ((try dsimp only at hw); go_simp; try with_reducible rfl); (try simp only [Act.put, List.setIfInBounds_toArray, List.set_cons_zero, List.set_cons_succ]))
        (refine but_take 4 (v := ?_) rfl (by kernel_rfl) (fun _ _ _ h => h) (by assumption) (by rfl) (fun w hw => ?_) ?_; rotate_left; ((try dsimp only at hw); go_simp; try with_reducible rfl); (try simp only [Act.put, List.setIfInBounds_toArray, List.set_cons_zero, List.set_cons_succ]))
        (refine but_take 5 (v := ?_) rfl (by kernel_rfl) (fun _ _ _ h => h) (by assumption) (by rfl) (fun w hw => ?_) ?_; rotate_left; ((try dsimp only at hw); go_simp; try with_reducible rfl); (try simp only [Act.put, List.setIfInBounds_toArray, List.set_cons_zero, List.set_cons_succ]))
        (refine but_take 6 (v := ?_) rfl (by kernel_rfl) (fun _ _ _ h => h) (by assumption) (by rfl) (fun w hw => ?_) ?_; rotate_left; ((try dsimp only at hw); go_simp; try with_reducible rfl); (try simp only [Act.put, List.setIfInBounds_toArray, List.set_cons_zero, List.set_cons_succ]))
        (refine but_take 7 (v := ?_) rfl (by kernel_rfl) (fun _ _ _ h => h) (by assumption) (by rfl) (fun w hw => ?_) ?_; rotate_left; ((try dsimp only at hw); go_simp; try with_reducible rfl); (try simp only [Act.put, List.setIfInBounds_toArray, List.set_cons_zero, List.set_cons_succ]))
        (refine but_take 8 (v := ?_) rfl (by kernel_rfl) (fun _ _ _ h => h) (by assumption) (by rfl) (fun w hw => ?_) ?_; rotate_left; ((try dsimp only at hw); go_simp; try with_reducible rfl); (try simp only [Act.put, List.setIfInBounds_toArray, List.set_cons_zero, List.set_cons_succ]))
        (refine but_take 9 (v := ?_) rfl (by kernel_rfl) (fun _ _ _ h => h) (by assumption) (by rfl) (fun w hw => ?_) ?_; rotate_left; ((try dsimp only at hw); go_simp; try with_reducible rfl); (try simp only [Act.put, List.setIfInBounds_toArray, List.set_cons_zero, List.set_cons_succ]))
        (refine but_take 10 (v := ?_) rfl (by kernel_rfl) (fun _ _ _ h => h) (by assumption) (by rfl) (fun w hw => ?_) ?_; rotate_left; ((try dsimp only at hw); go_simp; try with_reducible rfl); (try simp only [Act.put, List.setIfInBounds_toArray, List.set_cons_zero, List.set_cons_succ]))
        (refine but_take 11 (v := ?_) rfl (by kernel_rfl) (fun _ _ _ h => h) (by assumption) (by rfl) (fun w hw => ?_) ?_; rotate_left; ((try dsimp only at hw); go_simp; try with_reducible rfl); (try simp only [Act.put, List.setIfInBounds_toArray, List.set_cons_zero, List.set_cons_succ]))
        (refine but_take 12 (v := ?_) rfl (by kernel_rfl) (fun _ _ _ h => h) (by assumption) (by rfl) (fun w hw => ?_) ?_; rotate_left; ((try dsimp only at hw); go_simp; try with_reducible rfl); (try simp only [Act.put, List.setIfInBounds_toArray, List.set_cons_zero, List.set_cons_succ]))
        refine but_one 1 rfl (by kernel_rfl) (fun K hK => ?_)
        go_simp
        refine hK.out _ _ (by go_keep) (fun hHeld => ?_)
        clear hK K
        refine but_one 13 rfl (by kernel_rfl) (fun K hK => ?_)
        refine step_append_any (by rfl) (.tmp 36) (.tmp 47) 30 (by rfl) M 3 i0 (.int .i64 0) 1 8 Try.underlying30 hi' hi0 hi1 hi2 rfl (by decide) _ 0 [] (by rfl) HO.out ⟨ab2, 0, none⟩ m cp ((ints Lt).take m) (by rfl) (by have := HMM.out.2.2.1; simp [ints]; omega) HNW.out (by intro u hu; obtain ⟨z, _, rfl⟩ := List.mem_map.1 (List.mem_of_mem_take hu); rfl) (by unfold maxLen; omega) (by omega) (by simp; omega) ?_
        intro ga cap' w1 h1 h2 h3
        have hg3 : (wc.alloc (.cells #[] 3)).grownBy w1 (some wc.heap.size) := ⟨h2.os, h2.tape, h2.output, h2.size, h2.block⟩
        have hmb2 : some wc.heap.size ≠ some mb := by simp; omega
        have z3 := (keep_cell hg3 ⟨mb, 0, none⟩ hmb hmb2).1.trans c0
        have z4 := (keep_cell hg3 ⟨mb, 0, none⟩ hmb hmb2).2.trans hfz
        have HH := Lib.hid (show _ ∧ _ ∧ _ from ⟨h1, h2, h3⟩)
        clear h1 h2 h3 hg3 hHeld
        refine hK.out _ _ z3 (fun hHeld => ?_)
        clear hK K
        try simp only [Act.put, List.setIfInBounds_toArray, List.set_cons_zero, List.set_cons_succ]
        (refine but_take 14 (v := ?_) rfl (by kernel_rfl) (fun _ _ _ h => h) (by assumption) (by rfl) (fun w hw => ?_) ?_; rotate_left; ((try dsimp only at hw); go_simp; try with_reducible rfl); (try simp only [Act.put, List.setIfInBounds_toArray, List.set_cons_zero, List.set_cons_succ]))
        (refine but_take 15 (v := ?_) rfl (by kernel_rfl) (fun _ _ _ h => h) (by assumption) (by rfl) (fun w hw => ?_) ?_; rotate_left; ((try dsimp only at hw); go_simp; try with_reducible rfl); (try simp only [Act.put, List.setIfInBounds_toArray, List.set_cons_zero, List.set_cons_succ]))
        refine but_last rfl (by kernel_rfl) (by kernel_rfl) (fun K hK => ?_)
        go_simp
        refine hK.out _ _ ?_
        clear hK K
        obtain ⟨hS, hB, hcells⟩ := HS.out
        obtain ⟨hm, hLt, hlen, hlt⟩ := HMM.out
        obtain ⟨h1, h2, h3⟩ := HH.out
        rw [Nat.zero_add] at h3
        have hq : (ints Lt).take m = ints (s.L.take (b0 + g)) := by rw [← hLt, ← hm]; simp [ints, ← List.map_take, List.take_take]
        have hql : (s.L.take (b0 + g)).length = m := by rw [← hLt] at hlen; simp at hlen ⊢; omega
        have MSn := ms_l (q := s.L.take (b0 + g)) hS ⟨h2.os, h2.tape, h2.output, by have := h2.size; simp at this; omega⟩ (fun k hk _ => (h2.block k (by simp; omega) (by simp [Value.ownBlock]; omega)).trans (Below.heap_alloc _ _ _ hk)) (by rw [hql, ← hq]; simpa using h1) (by
          refine .inr (fun k hk => ?_)
          rcases h3 with h3 | h3
          · rw [h3] at hk; simp [Value.ownBlock] at hk; omega
          · rw [h3] at hk; simp at hk; omega)
        have F := Lib.hid (show CutRel M mb ob s xv b0 lg w g _ from ⟨by omega, _, _, MSn.1, hB.trans MSn.2⟩)
        clear hS hB hcells hm hLt hlen h1 h2 h3 hq hql MSn
        go_wp2
        go_roundg g
        case measure => omega
        case rel => exact F.out

end Go.Proofs.Ytekddnnclbnagaa
