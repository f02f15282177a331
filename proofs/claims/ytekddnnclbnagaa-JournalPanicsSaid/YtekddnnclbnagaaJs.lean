/- JournalPanics: one level, and all levels. -/
import Derived.Test.YtekddnnclbnagaaJr
namespace Go.Proofs.Ytekddnnclbnagaa
open Go.RowKit

theorem pi_pure {K : PBlk} {X : PFix} {ex : List (Nat × Value × TypeId)} {c : Nat} {w : World} (h : PI K X ex (F21 :: List.replicate c (F26 K)) w) : Vars (K.vars X c ex) w := by
  obtain ⟨c', h1, h2, h3⟩ := h
  rcases h2 with h2 | ⟨h2, _⟩
  · have := congrArg List.length h2
    simp at this
    subst this
    exact h3
  · simp at h2

/-- The recording loop of one level. -/
def PRec (B : Nat) (K : PBlk) (X : PFix) (ex : List (Nat × Value × TypeId)) (c : Nat) (W : World) (n g : Nat) (v : Value) (wr : World) : Prop :=
  ∃ q, q + g = n ∧ v = .int .i64 ((q : Nat) : Int) ∧ JAt B X.jb (F21 :: List.replicate (c + q) (F26 K)) false wr ∧ Vars (K.vars X ((c : Int) + q) ex) wr ∧ Dyn (U X.jb (VG (PKeys K ex))) W wr

theorem ubase {B jb : Nat} {us : List Value} {ks : List Nat} {w : World} (hJ : JAt B jb us false w) (hk : ∀ k ∈ ks, B ≤ k) (q : Nat) (hq : U jb (VG ks) w q) : B ≤ q :=
  hq.elim (jf_base hJ q) (hk q)

set_option maxHeartbeats 4000000 in
theorem act25 (B : Nat) (K : PBlk) (X : PFix) (W0 : World) (z : Nat → Int) (hz : BytesAt W0 X.sa X.len X.cap z) (hW0 : W0.heap.size = B) (i : Nat) (hi : i < X.len) (h5 : X.len ≤ 5) (hdown : DownSpec B K X W0 (i + 1)) (ib c : Nat) (hc : c ≤ 20 * i)
    (hK : (PKeys K [(ib, Value.int .i64 i, 3)]).Nodup) (hkb : ∀ k ∈ PKeys K [(ib, Value.int .i64 i, 3)], B ≤ k) (w : World) (hB : Below B W0 w) (hJ : JAt B X.jb (F21 :: List.replicate c (F26 K)) false w) (hV : Vars (K.vars X c [(ib, .int .i64 i, 3)]) w) :
    Calls Try.prog 25 #[.pointer (some ⟨K.r, 0, none⟩), .pointer (some ⟨ib, 0, none⟩), .pointer (some ⟨K.n, 0, none⟩), .pointer (some ⟨K.j, 0, none⟩), .pointer (some ⟨K.d, 0, none⟩)] w fun e w' =>
      Dyn (U X.jb (VG (PKeys K [(ib, Value.int .i64 i, 3)]))) w w' ∧
      ActEnds B X.jb (VG (PKeys K [(ib, Value.int .i64 i, 3)])) (c + 1) (fun _ => False) (fun _ _ => False)
        (fun v older w => v = X.val ∧ (∀ x ∈ older, x.goexit = false) ∧ JAt B X.jb (F21 :: List.replicate c (F26 K)) false w ∧ Vars (K.vars X c [(ib, .int .i64 i, 3)]) w) e w' := by
  obtain ⟨hl, hz⟩ := hz
  obtain ⟨b, off, hsa, hbl, hcs⟩ := hz (by omega)
  obtain ⟨hcj, hz1, hz2⟩ := hcs i hi
  obtain ⟨y, hy⟩ : ∃ y : Nat, z i = y := ⟨(z i).toNat, by omega⟩
  rw [hy] at hcj
  have hcell : w.cell? ⟨b, off + i, none⟩ = some (.int .u8 y) := by rw [hB.cell (by show b < _; omega)]; exact hcj
  have hy2 : y ≤ 255 := by omega
  obtain ⟨n, hn⟩ : ∃ n, n = y % 21 := ⟨_, rfl⟩
  have hn2 : n ≤ 20 := by omega
  have hnn : ((y : Int) % 21) = (n : Int) := by omega
  have cr := vcell hV K.r (.slice (some ⟨b, off, none⟩) X.len X.cap) 38 (by simp [PBlk.vars, hsa])
  have ci := vcell hV ib (.int .i64 i) 3 (by simp [PBlk.vars])
  have S0 := Lib.hid (show PRec B K X [(ib, .int .i64 i, 3)] c w n n (.int .i64 0) w from ⟨0, by omega, rfl, hJ, by simpa using hV, Dyn.refl _ _⟩)
  have hmf := makeFunc_run
  have HD := Lib.hid hdown
  have HB := Lib.hid hB
  have HK := Lib.hid hK
  have HKB := Lib.hid hkb
  have HU0 := Lib.hid (ubase hJ hkb)
  have hil : i < X.len := hi
  clear hJ hV hdown hB hz hcs hcj hz1 hz2 hy hsa hn hK hkb hi
  unfold maxLen at hl
  go_enter Try.func25, Try.ntmps25
  go_wp2
  simp only [hnn]
  go_loopg [11] n (fun g v wr => PRec B K X [(ib, .int .i64 i, 3)] c w n g v wr)
  case atStart => exact S0.out
  case round =>
    obtain ⟨q, hq, rfl, hJ, hV, hD⟩ := hrel
    have cn := vcell hV K.n (.int .i64 ((c : Int) + q)) 3 (by simp [PBlk.vars])
    have zn := vfroz hV K.n (.int .i64 ((c : Int) + q)) 3 (by simp [PBlk.vars])
    have HDy := Lib.hid hD
    by_cases h0 : gk = 0
    · subst h0
      obtain rfl : q = n := by omega
      have cd := vcell hV K.d (F24 K) 41 (by simp [PBlk.vars])
      have ci := vcell hV ib (.int .i64 i) 3 (by simp [PBlk.vars])
      have hBr := HB.out.trans (hD.below (fun k hk => by have := HB.out.size; omega) HU0.out)
      have hV0 : Vars (K.vars X ((c : Int) + q) []) wr := fun x hx => hV x (by simp [PBlk.vars] at hx ⊢; rcases hx with h | h | h | h | h <;> simp [h])
      have hib : VarAt ib (.int .i64 i) 3 wr := hV (ib, .int .i64 i, 3) (by simp [PBlk.vars])
      have hnk : ib ∉ K.keys := by
        have := HK.out
        simp only [PKeys, List.map_cons, List.map_nil] at this
        exact fun hm => (List.nodup_append.1 this).2.2 _ hm _ (by simp) rfl
      have ei : ((i + 1 : Nat) : Int) = ((i : Int) + 1) := by omega
      have ec : ((c + q : Nat) : Int) = ((c : Int) + q) := by omega
      have hD24 := HD.out wr (c + q) hBr (by omega) hJ (by rw [ec]; exact hV0)
      rw [ei] at hD24
      have D := Lib.hid hD24
      have EC := Lib.hid ec
      have HJ := Lib.hid hJ
      have HIB := Lib.hid hib
      have HNK := Lib.hid hnk
      unfold F24 at cd
      clear hJ hV hD hBr hV0 hib hnk hq hD24 ei ec
      go_wp2_with fail
      go_wp2_with (go_at_call 24; refine D.out.mono ?_)
      rintro e w2 ⟨d2, ⟨older, rfl, hold⟩, j2, v2⟩
      rw [EC.out] at v2
      obtain ⟨d3, vi⟩ := dyn_more (X := X) HIB.out rfl HJ.out d2 HNK.out
      have hv3 : Vars (K.vars X ((c : Int) + q) [(ib, .int .i64 i, 3)]) w2 := fun x hx => by
        simp only [PBlk.vars, List.mem_cons, List.not_mem_nil, or_false] at hx
        rcases hx with h | h | h | h | h | h
        · exact v2 x (by simp [PBlk.vars, h])
        · exact v2 x (by simp [PBlk.vars, h])
        · exact v2 x (by simp [PBlk.vars, h])
        · exact v2 x (by simp [PBlk.vars, h])
        · exact v2 x (by simp [PBlk.vars, h])
        · subst h; exact vi
      refine ⟨rfl, HDy.out.trans d3, .inr ⟨_, PI K X [(ib, .int .i64 i, 3)], pi_undoes B K X _ (by simp) HK.out, by simp; omega, j2, ⟨c + q, by omega, .inl rfl, by rw [EC.out]; exact hv3⟩, .inr ⟨X.val, older, rfl, fun w' j p => ?_⟩⟩⟩
      have hm : min (c + 1) (F21 :: List.replicate (c + q) (F26 K)).length = c + 1 := by simp
      have ht : (F21 :: List.replicate (c + q) (F26 K)).take (c + 1) = F21 :: List.replicate c (F26 K) := by
        rw [List.take_succ_cons, List.take_replicate]; congr 2; omega
      rw [hm, ht] at j p
      exact ⟨rfl, hold, j, pi_pure p⟩
    · obtain ⟨m, rfl⟩ : ∃ m, gk = m + 1 := ⟨gk - 1, by omega⟩
      have hvn : VarAt K.n (.int .i64 ((c : Int) + q)) 3 wr := hV (K.n, .int .i64 ((c : Int) + q), 3) (by simp [PBlk.vars])
      obtain ⟨s1, s2⟩ := vars_step (v' := .int .i64 (((c : Int) + q) + 1)) (ks := PKeys K [(ib, .int .i64 i, 3)]) hJ hvn (by decide) (by decide) (by simp [PKeys, PBlk.keys])
      have s3 := pvars_setN HK.out hV (((c : Int) + q) + 1)
      have cj := vcell s3 K.j (.pointer (some ⟨X.jb, 0, none⟩)) 26 (by simp [PBlk.vars])
      have R := Lib.hid (record_any B X.jb (.func 26) #[] #[.pointer (some ⟨K.n, 0, none⟩)] _ _ s1 (by simp; omega))
      have hlt : q < n := by omega
      have S1 := Lib.hid s1
      have S2 := Lib.hid s2
      have S3 := Lib.hid s3
      have HQ := Lib.hid hq
      clear s1 s2 s3 hJ hV hD hq hvn
      go_wp2_with (go_at_call 19; refine R.out.mono ?_)
      rintro e w2 ⟨rfl, j2, d2⟩
      obtain ⟨d3, l3⟩ := d2.left (pvars_framed _ _ _ _) S3.out ((pvars_apart _ _ _ _ (by simp)).ne S1.out S3.out)
      have H5 := Lib.hid (show PRec B K X [(ib, .int .i64 i, 3)] c w n m (.int .i64 ((q : Int) + 1)) w2 from
        ⟨q + 1, by have := HQ.out; omega, by congr 1, by
          rw [← Nat.add_assoc, List.replicate_succ', ← List.cons_append]; exact j2, by
          have e : ((c : Int) + q) + 1 = ((c : Int) + ((q + 1 : Nat) : Int)) := by omega
          rw [e] at l3; exact l3, (HDy.out.trans S2.out).trans d3⟩)
      clear j2 d2 d3 l3
      go_wp2
      go_roundg m
      case measure => omega
      case rel => exact H5.out

theorem dyn_drop {B : Nat} {us : List Value} {K : PBlk} {X : PFix} {c : Int} {iv : Value} {w w' : World} (hJ : JAt B X.jb us false w) (hV : Vars (K.vars X c []) w)
    (hd : Dyn (U X.jb (VG (PKeys K [(w.heap.size, iv, 3)]))) (w.alloc (.cells #[iv] 3)) w') : Dyn (U X.jb (VG K.keys)) w w' := by
  have hF := (jat_framed B X.jb us false).both (pvars_framed K X c [])
  have hold : ∀ k, k < w.heap.size → (w.alloc (.cells #[iv] 3)).heap[k]? = w.heap[k]? := fun k hk => Below.heap_alloc _ _ _ hk
  have hk1 : ∀ k, k < w.heap.size → U X.jb (VG (PKeys K [(w.heap.size, iv, 3)])) (w.alloc (.cells #[iv] 3)) k → U X.jb (VG K.keys) w k := by
    intro k hk h
    rcases h with h | h
    · exact .inl (((jat_framed B X.jb us false).fr w _ hJ (fun q hq => hold q ((jat_framed B X.jb us false).inn w q hJ hq))).2 k h)
    · simp only [VG, PKeys, List.map_cons, List.map_nil, List.mem_append, List.mem_singleton] at h
      rcases h with h | h
      · exact .inr h
      · omega
  refine ⟨hd.os, hd.tape, hd.output, by have := hd.size; simp at this; omega, fun k hk hn => ?_, fun k hk hf => ?_⟩
  · rw [hd.block k (by simp; omega) (fun h => hn (hk1 k hk h)), hold k hk]
  · exact hk1 k hk (hd.foot k (by simp; omega) (hf.imp id (fun h => by simp [VG, PKeys]; exact .inl h)))

set_option maxHeartbeats 4000000 in
theorem down24 (B : Nat) (K : PBlk) (X : PFix) (W0 : World) (z : Nat → Int) (hz : BytesAt W0 X.sa X.len X.cap z) (hW0 : W0.heap.size = B) (h5 : X.len ≤ 5) (hK : K.keys.Nodup) (hkb : ∀ k ∈ K.keys, B ≤ k) :
    ∀ d i, d + i = X.len → DownSpec B K X W0 i := by
  intro d
  induction d with
  | zero =>
    intro i hi w c hB hc hJ hV
    obtain rfl : i = X.len := by omega
    have cr := vcell hV K.r (.slice X.sa X.len X.cap) 38 (by simp [PBlk.vars])
    have cv := vcell hV K.v (.int .i64 X.val) 3 (by simp [PBlk.vars])
    have hl := heap_lt (hV (K.r, .slice X.sa X.len X.cap, 38) (by simp [PBlk.vars]))
    have hl2 := heap_lt (hV (K.v, .int .i64 X.val, 3) (by simp [PBlk.vars]))
    have hF := (jat_framed B X.jb (F21 :: List.replicate c (F26 K)) false).both (pvars_framed K X c [])
    have E := Lib.hid (Dyn.alloc hF ⟨hJ, hV⟩ (.cells #[.int .i64 (X.len : Int)] 3))
    dsimp only at hl hl2
    clear hJ hV hF hB hz hi
    go_enter Try.func24, Try.ntmps24
    go_wp2
    refine ⟨rfl, by have h := E.out.1; simp only [PKeys, List.map_nil, List.append_nil] at h; exact h, ⟨[], rfl, by simp⟩, E.out.2.1, E.out.2.2⟩
  | succ d ih =>
    intro i hi w c hB hc hJ hV
    have hdown := ih (i + 1) (by omega)
    have hsB := hB.size
    have hKx : (PKeys K [(w.heap.size, Value.int .i64 i, 3)]).Nodup := by
      simp only [PKeys, List.map_cons, List.map_nil]
      refine List.nodup_append.2 ⟨hK, by simp, ?_⟩
      rintro a ha b hb rfl
      simp at hb
      subst hb
      have := (pvars_framed K X c []).inn w w.heap.size hV (by simp [VG, PKeys]; exact ha)
      omega
    have hkbx : ∀ k ∈ PKeys K [(w.heap.size, Value.int .i64 i, 3)], B ≤ k := by
      intro k hk
      simp only [PKeys, List.map_cons, List.map_nil, List.mem_append, List.mem_singleton] at hk
      rcases hk with hk | hk
      · exact hkb k hk
      · omega
    have hF := (jat_framed B X.jb (F21 :: List.replicate c (F26 K)) false).both (pvars_framed K X c [])
    obtain ⟨d1, j1, v1⟩ := Dyn.alloc hF ⟨hJ, hV⟩ (.cells #[.int .i64 (i : Int)] 3)
    have v2 : Vars (K.vars X c [(w.heap.size, .int .i64 i, 3)]) (w.alloc (.cells #[.int .i64 (i : Int)] 3)) := fun x hx => by
      simp only [PBlk.vars, List.mem_cons, List.not_mem_nil, or_false] at hx
      rcases hx with h | h | h | h | h | h
      · exact v1 x (by simp [PBlk.vars, h])
      · exact v1 x (by simp [PBlk.vars, h])
      · exact v1 x (by simp [PBlk.vars, h])
      · exact v1 x (by simp [PBlk.vars, h])
      · exact v1 x (by simp [PBlk.vars, h])
      · subst h; exact heap_alloc_new _ _
    have b1 := hB.alloc (by omega) (.cells #[.int .i64 (i : Int)] 3)
    have A := Lib.hid (attempt_any B X.jb _ _ (pvars_framed K X c [(w.heap.size, .int .i64 i, 3)]) _ _ j1 v2 (by simp; omega) 25 _ (callFunc25 _) _ _ _
      (fun w1 j t dd => by
        have hlen : (F21 :: List.replicate c (F26 K)).length = c + 1 := by simp
        rw [hlen]
        exact act25 B K X W0 z hz hW0 i (by omega) h5 hdown w.heap.size c hc hKx hkbx w1 (b1.trans (dd.below (fun k hk => by simp; omega) (ubase j1 hkbx))) j t))
    have cr := vcell hV K.r (.slice X.sa X.len X.cap) 38 (by simp [PBlk.vars])
    have cj := vcell hV K.j (.pointer (some ⟨X.jb, 0, none⟩)) 26 (by simp [PBlk.vars])
    have hl := heap_lt (hV (K.r, .slice X.sa X.len X.cap, 38) (by simp [PBlk.vars]))
    have hl2 := heap_lt (hV (K.j, .pointer (some ⟨X.jb, 0, none⟩), 26) (by simp [PBlk.vars]))
    dsimp only at hl hl2
    have hlt : ((i : Int) == (X.len : Int)) = false := by simp; omega
    have hmf := makeFunc_run
    have HJ := Lib.hid hJ
    have HV := Lib.hid hV
    clear hJ hV hF hB hz d1 j1 v1 v2 b1 ih hdown hKx hkbx hi
    go_enter Try.func24, Try.ntmps24
    go_wp2_with (go_at_call 13; refine A.out.mono ?_)
    rintro e w2 ⟨d2, hatt⟩
    rcases hatt with ⟨_, F⟩ | ⟨_, _, F⟩ | ⟨v, older, rfl, rfl, ho, j3, v3⟩
    · exact F.elim
    · exact F.elim
    · refine ⟨rfl, dyn_drop HJ.out HV.out d2, ⟨_, rfl, ?_⟩, j3, fun x hx => v3 x (by simp [PBlk.vars] at hx ⊢; rcases hx with h | h | h | h | h <;> simp [h])⟩
      intro x hx
      simp only [List.mem_cons] at hx
      rcases hx with rfl | hx
      · rfl
      · exact ho x hx

end Go.Proofs.Ytekddnnclbnagaa
