/- Programs of the journal's laws as trees: how they lie in memory; Size, great, Ints. -/
import Derived.Test.YtekddnnclbnagaaJn
import Derived.Deep.Slices
import Derived.Deep.Strs
namespace Go.Proofs.Ytekddnnclbnagaa
set_option linter.unusedSimpArgs false
set_option linter.unusedVariables false
open Go.RowKit Go.ChangeShapes Go.WideShapes Go.ChangeAt

inductive Ops where
  | nil
  | cons (k n : Int) (kids rest : Ops)

def Ops.length : Ops → Nat
  | .nil => 0
  | .cons _ _ _ r => r.length + 1
/-- All operations, and the depth (of the lists below this one). -/
def Ops.cnt : Ops → Nat
  | .nil => 0
  | .cons _ _ k r => 1 + k.cnt + r.cnt
def Ops.dm : Ops → Nat
  | .nil => 0
  | .cons _ _ k r => max (k.dm + 1) r.dm

theorem Ops.dm_le : ∀ l : Ops, l.dm ≤ l.cnt
  | .nil => Nat.le_refl _
  | .cons _ _ k r => by have := Ops.dm_le k; have := Ops.dm_le r; simp [Ops.dm, Ops.cnt]; omega
theorem Ops.length_le : ∀ l : Ops, l.length ≤ l.cnt
  | .nil => Nat.le_refl _
  | .cons _ _ k r => by have := Ops.length_le r; simp [Ops.length, Ops.cnt]; omega

/-- The operations lie from cell off of block b on. -/
def OpsAt (w : World) : Ops → Nat → Nat → Prop
  | .nil, _, _ => True
  | .cons k n kids rest, b, off => w.cell? ⟨b, off, none⟩ = some (.int .i64 k) ∧ w.cell? ⟨b, off + 1, none⟩ = some (.int .i64 n) ∧
      (∃ a cap, w.cell? ⟨b, off + 2, none⟩ = some (.slice a kids.length cap) ∧ (0 < kids.length → ∃ b' off', a = some ⟨b', off', none⟩ ∧ b' < w.heap.size ∧ OpsAt w kids b' off')) ∧
      (Lit.int .i64 k).wf = true ∧ (Lit.int .i64 n).wf = true ∧ OpsAt w rest b (off + 3)

/-- A slice value that is these operations. -/
def SliceOps (w : World) (l : Ops) (a : Option Addr) (len : Nat) : Prop :=
  len = l.length ∧ (0 < l.length → ∃ b off, a = some ⟨b, off, none⟩ ∧ b < w.heap.size ∧ OpsAt w l b off)

theorem OpsAt.later {w w' : World} (hb : ∀ k, k < w.heap.size → w'.heap[k]? = w.heap[k]?) (hs : w.heap.size ≤ w'.heap.size) : ∀ (l : Ops) (b off : Nat), b < w.heap.size → OpsAt w l b off → OpsAt w' l b off := by
  intro l
  induction l with
  | nil => intros; trivial
  | cons k n kids rest ih1 ih2 =>
    intro b off hbl ⟨h1, h2, ⟨a, cap, h3, h4⟩, h5, h6, h7⟩
    have hc : ∀ o, w'.cell? ⟨b, o, none⟩ = w.cell? ⟨b, o, none⟩ := fun o => World.cell?_of_block (w := w) (hb b hbl)
    exact ⟨by rw [hc]; exact h1, by rw [hc]; exact h2, ⟨a, cap, by rw [hc]; exact h3, fun h0 => let ⟨b', off', e1, e2, e3⟩ := h4 h0; ⟨b', off', e1, by omega, ih1 b' off' e2 e3⟩⟩, h5, h6, ih2 b _ hbl h7⟩

theorem OpsAt.below {B : Nat} {w w' : World} (hB : Below B w w') (hBs : w.heap.size = B) {l : Ops} {b off : Nat} (hb : b < w.heap.size) (h : OpsAt w l b off) : OpsAt w' l b off :=
  OpsAt.later (fun k hk => hB.block k (by omega)) hB.size l b off hb h

theorem SliceOps.below {B : Nat} {w w' : World} (hB : Below B w w') (hBs : w.heap.size = B) {l : Ops} {a : Option Addr} {len : Nat} (h : SliceOps w l a len) : SliceOps w' l a len :=
  ⟨h.1, fun h0 => let ⟨b, off, e1, e2, e3⟩ := h.2 h0; ⟨b, off, e1, Nat.lt_of_lt_of_le e2 hB.size, e3.below hB hBs e2⟩⟩

-- THE READING OF THE ARGUMENT

theorem Try.cells55 : Try.prog.cellsOf 55 = 3 := by kernel_rfl

theorem addr_add (b off i : Nat) : (⟨b, off, none⟩ : Addr).add i = ⟨b, off + i, none⟩ := by unfold Addr.add; split <;> simp_all

theorem Try.cells3 : Try.prog.cellsOf 3 = 1 := by kernel_rfl
theorem Try.cells22 : Try.prog.cellsOf 22 = 1 := by kernel_rfl

theorem trees_open {H : Type} {enc : TypeId × Value → H} {w : World} {base : Nat} {spare : Nat → Bool} {held : Bool} : ∀ (fuel : Nat) (cs : List Value) (x : DataW H × List MemPlace),
    DataW.trod enc Try.prog w base spare held fuel 22 cs = some x → ∃ a len cap l, cs = [.slice a len cap] ∧ SliceOps w l a len ∧ len ≤ maxLen ∧ l.cnt ≤ Rows.uptoBulk x.1 := by
  intro fuel
  induction fuel using Nat.strongRecOn with
  | _ fuel ih =>
    intro cs x h
    rcases DataW.trod_slice Try.underlying22 h with ⟨rfl, rfl⟩ | ⟨a, len, cap, elems, rest, n, rfl, rfl, rfl, _, hlc, hcm, hlen, hel, _, _⟩
    · exact ⟨none, 0, 0, .nil, rfl, ⟨rfl, fun h => absurd h (Nat.lt_irrefl _)⟩, Nat.zero_le _, Nat.zero_le _⟩
    · rw [Try.cells55] at hel
      -- one operation
      have one : ∀ i, i < len → ∃ y k m kids, elems[i]? = some y ∧ a.block < w.heap.size ∧ w.cell? (a.add (i * 3)) = some (.int .i64 k) ∧ w.cell? ((a.add (i * 3)).add 1) = some (.int .i64 m) ∧
          (∃ a' cap', w.cell? ((a.add (i * 3)).add 2) = some (.slice a' (Ops.length kids) cap') ∧ (0 < kids.length → ∃ b' off', a' = some ⟨b', off', none⟩ ∧ b' < w.heap.size ∧ OpsAt w kids b' off')) ∧
          (Lit.int .i64 k).wf = true ∧ (Lit.int .i64 m).wf = true ∧ kids.cnt + 1 ≤ Rows.uptoBulk y.1 := by
        intro i hi
        have he := hel i hi
        have hsome : ∃ y, elems[i]? = some y := ⟨elems[i], List.getElem?_eq_getElem (by omega)⟩
        obtain ⟨y, hy⟩ := hsome
        rw [hy] at he
        obtain ⟨cs', hcs, htr⟩ := Option.bind_eq_some_iff.1 he
        obtain ⟨_, hl3, hc3⟩ := World.cells?_some hcs
        obtain ⟨xs, n', hn', rfl, hl, hxl, hf⟩ := DataW.trod_struct Try.underlying55 htr
        match xs, hxl with
        | [y0, y1, y2], _ =>
          match cs', hl3 with
          | [c0, c1, c2], _ =>
            have f0 := hf 0 _ rfl
            have f1 := hf 1 _ rfl
            have f2 := hf 2 _ rfl
            simp [Try.cells3, Try.cells22] at f0 f1 f2
            obtain ⟨k, e0, rfl, wk⟩ := DataW.trod_int Try.underlying3 f0
            obtain ⟨m, e1, rfl, wm⟩ := DataW.trod_int Try.underlying3 f1
            obtain ⟨a', len', cap', kids, e2, hso, _, hcnt⟩ := ih n' (by omega) _ _ f2
            simp only [List.cons.injEq, and_true] at e0 e1 e2
            subst e0 e1 e2
            have h0 := hc3 0 (by omega)
            have h1 := hc3 1 (by omega)
            have h2 := hc3 2 (by omega)
            have h0' : w.cell? (a.add (i * 3)) = some (.int .i64 k) := by simpa [Addr.add] using h0
            refine ⟨_, k, m, kids, hy, ?_, h0', by simpa using h1, ⟨a', cap', ?_, hso.2⟩, wk, wm, ?_⟩
            · have := World.block_lt_of_cell? w _ h0'
              unfold Addr.add at this; split at this <;> exact this
            · rw [← hso.1]; simpa using h2
            · simp [Rows.uptoBulk, Rows.uptoBulkAll]; omega
      -- all of them
      rcases Nat.eq_zero_or_pos len with h0 | h0
      · subst h0
        exact ⟨some a, 0, cap, .nil, rfl, ⟨rfl, fun h => absurd h (Nat.lt_irrefl _)⟩, Nat.zero_le _, Nat.zero_le _⟩
      · obtain ⟨_, _, _, _, _, hbl, hc0, _⟩ := one 0 h0
        obtain ⟨b, off, spot⟩ := a
        have hspot : spot = none := by simpa [Addr.add] using World.cell?_spot hc0
        subst hspot
        have all : ∀ d i, d + i = len → ∃ l : Ops, l.length = d ∧ OpsAt w l b (off + i * 3) ∧ l.cnt ≤ Rows.uptoBulkAll ((elems.drop i).map (·.1)) := by
          intro d
          induction d with
          | zero => intro i _; exact ⟨.nil, rfl, trivial, Nat.zero_le _⟩
          | succ d ihd =>
            intro i hi
            obtain ⟨r, hr1, hr2, hr3⟩ := ihd (i + 1) (by omega)
            obtain ⟨y, k, m, kids, hy, _, c0, c1, c2, wk, wm, hbk⟩ := one i (by omega)
            simp only [addr_add] at c0 c1 c2
            have hcons : elems.drop i = y :: elems.drop (i + 1) := by
              obtain ⟨hil, hyy⟩ := List.getElem?_eq_some_iff.1 hy
              rw [List.drop_eq_getElem_cons hil, hyy]
            have e3 : off + (i + 1) * 3 = off + i * 3 + 3 := by omega
            rw [e3] at hr2
            refine ⟨.cons k m kids r, by simp [Ops.length, hr1], ⟨c0, c1, c2, wk, wm, hr2⟩, ?_⟩
            rw [hcons]
            simp only [Ops.cnt, List.map_cons, Rows.uptoBulkAll]
            omega
        obtain ⟨l, hl1, hl2, hl3⟩ := all len 0 (by omega)
        refine ⟨_, len, cap, l, rfl, ⟨hl1.symm, fun _ => ⟨b, off, rfl, hbl, by simpa using hl2⟩⟩, by omega, ?_⟩
        simp only [List.drop_zero] at hl3
        simp only [Rows.uptoBulk]
        omega

end Go.Proofs.Ytekddnnclbnagaa
