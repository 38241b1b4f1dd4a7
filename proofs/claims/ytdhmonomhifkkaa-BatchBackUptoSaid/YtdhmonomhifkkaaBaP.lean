/- Layer 8: as many changes as may be, and more: the walk. -/
import Derived.Test.YtdhmonomhifkkaaBaO
namespace Go.Proofs.Ytdhmonomhifkkaa
open Go.RowKit
set_option linter.unusedVariables false
set_option linter.unusedSimpArgs false

theorem POp.grown {w w' : World} {base base' : Nat} {v : Value} {V : List (List Value)} {x : List Value} {o : OpR} (h : POp w base x o) (hg : w.grownBy w' v.ownBlock) (hv : OV w base' 28 4 v V) : POp w' base x o := by
  obtain ⟨kv, vv, hx, h1, h2, h3⟩ := h
  exact ⟨kv, vv, hx, h1.other hg (h1.apart_row hv (by decide)), h2.other hg (h2.apart_row hv (by decide)), h3⟩
theorem POp.set {w w' : World} {base b : Nat} {cs : Array Value} {fr : Nat × Nat} {x : List Value} {o : OpR} (h : POp w base x o) (hg : w.grownBy w' (some b)) (hb : w.heap[b]? = some (.cells cs 24 fr)) : POp w' base x o := by
  obtain ⟨kv, vv, hx, h1, h2, h3⟩ := h
  exact ⟨kv, vv, hx, h1.other hg (.inr (h1.ne_blk hb (by decide))), h2.other hg (.inr (h2.ne_blk hb (by decide))), h3⟩
theorem POp.below {w w' : World} {base : Nat} {x : List Value} {o : OpR} (h : POp w base x o) (hg : Below w.heap.size w w') : POp w' base x o := by
  obtain ⟨kv, vv, hx, h1, h2, h3⟩ := h
  exact ⟨kv, vv, hx, h1.below hg, h2.below hg, h3⟩
def keyM (j : Nat) : List UInt8 := [UInt8.ofNat j, UInt8.ofNat (j / 256)]
def newOp (k : List UInt8) (g : Bool) (t : Int) (v : List UInt8) : OpR := (k, g, t, v)
def opsM : Nat → List OpR
  | 0 => []
  | j + 1 => opsM j ++ [newOp (keyM j) false 0 []]
theorem opsM_len : ∀ j, (opsM j).length = j := by
  intro j
  induction j with
  | zero => rfl
  | succ j ih => rw [opsM, List.length_append, ih]; rfl
/-- What the loop holds: the batch's box, the row of its changes. -/
def Many (w : World) (s : Int) (k : Nat) (wr : World) : Prop :=
  ∃ A c V, wr.heap[w.heap.size]? = some (.cells #[.int .i64 s, .slice A k c] 24 (0, 0)) ∧ OV wr w.heap.size 28 4 (.slice A k c) V ∧ RelV noOp (POp wr w.heap.size) V (opsM k) ∧ Below w.heap.size w wr
theorem OB.lit2 (w : World) (base : Nat) (hb : base ≤ w.heap.size) (x y : UInt8) (z1 z2 : Int) (hz : z1 = x.toNat) (hz2 : z2 = y.toNat) : OB (w.alloc (.cells #[.int .u8 z1, .int .u8 z2] 5)) base (.slice (some ⟨w.heap.size, 0, none⟩) 2 2) [x, y] := by
  subst hz hz2
  exact ⟨by simp [bys], .inr ⟨w.heap.size, 2, _, rfl, hb, heap_alloc_new w _, Nat.le_refl _, by decide, rfl, by simp [bys]⟩⟩
theorem Many.step {w wr w' : World} {s : Int} {k c c' : Nat} {A B : Option Addr} {V : List (List Value)} {z1 z2 : Int} (hb : wr.heap[w.heap.size]? = some (.cells #[.int .i64 s, .slice A k c] 24 (0, 0)))
    (hv : OV wr w.heap.size 28 4 (.slice A k c) V) (hr : RelV noOp (POp wr w.heap.size) V (opsM k)) (hB : Below w.heap.size w wr)
    (h1 : z1 = (UInt8.ofNat k).toNat) (h2 : z2 = (UInt8.ofNat (k / 256)).toNat)
    (hg : (wr.alloc (.cells #[.int .u8 z1, .int .u8 z2] 5)).grownBy w' (Value.slice A k c).ownBlock)
    (hv' : OV w' w.heap.size 28 4 (.slice B (k + 1) c') (V ++ [[.slice (some ⟨wr.heap.size, 0, none⟩) 2 2, .bool false, .int .i64 0, .slice none 0 0]])) :
    Many w s (k + 1) (w'.setCell ⟨w.heap.size, 1, none⟩ (.slice B (k + 1) c')) := by
  have hsz := hB.size
  have hlit := OB.lit2 wr w.heap.size hsz _ _ z1 z2 h1 h2
  have hva : OV (wr.alloc (.cells #[.int .u8 z1, .int .u8 z2] 5)) w.heap.size 28 4 (.slice A k c) V := hv.below (below_alloc' (Below.refl _ _) _)
  have hlit' := hlit.other hg (hlit.apart_row hva (by decide))
  have hg2 : wr.grownBy w' (Value.slice A k c).ownBlock := grown_step (World.grownBy_alloc wr _ _) (AtRow.refl _ (Value.slice A k c)) hg
  have hb2 := blk_grown' hg2 hb (hv.ne_blk hb (by decide))
  have hr2 : RelV noOp (POp w' w.heap.size) (V ++ [[.slice (some ⟨wr.heap.size, 0, none⟩) 2 2, .bool false, .int .i64 0, .slice none 0 0]]) (opsM (k + 1)) :=
    (hr.mono fun x a hx => hx.grown hg2 hv).snoc ⟨_, _, rfl, hlit', OB.nil _ _, (by decide : (Lit.int .i64 0).wf = true)⟩
  have hB2 := hB.grown hg2 hsz hv.base_
  have hgs := grown_set w' w.heap.size 1 (.slice B (k + 1) c')
  refine ⟨B, c', _, heap_setCell_same w' _ 1 _ _ _ hb2, hv'.other hgs (.inr (hv'.ne_blk hb2 (by decide))), hr2.mono fun x a hx => hx.set hgs hb2, hB2.setCell (Nat.le_refl _) _⟩
theorem many_mod (z : Int) (m : Nat) (hm : 1 ≤ m ∧ m ≤ 3000) (hz : -9223372036854775808 ≤ z ∧ z ≤ 9223372036854775807) : ∃ p : Nat, p < m ∧ (wrap64 (z.tmod m + m)).tmod m = (p : Int) := by
  have h1 := Int.tmod_lt_of_pos z (show (0 : Int) < m by omega)
  have h2 := Int.lt_tmod_of_pos z (show (0 : Int) < m by omega)
  generalize z.tmod m = t at *
  have e1 : wrap64 (t + m) = t + m := by unfold wrap64; omega
  have h3 : (t + m).tmod m = (t + m) % m := Int.tmod_eq_emod_of_nonneg (by omega)
  have h4 := Int.emod_lt_of_pos (t + m) (show (0 : Int) < m by omega)
  have h5 := Int.emod_nonneg (t + m) (show (m : Int) ≠ 0 by omega)
  rw [e1, h3]
  exact ⟨((t + m) % m).toNat, by omega, by omega⟩
theorem ones4 {a b c d : Value} (ha : a.oneCell' = true) (hb : b.oneCell' = true) (hc : c.oneCell' = true) (hd : d.oneCell' = true) : ∀ u ∈ (#[a, b, c, d] : Array Value).toList, u.oneCell' = true := by
  intro u hu
  simp only [List.mem_cons, List.not_mem_nil, or_false] at hu
  rcases hu with rfl | rfl | rfl | rfl <;> assumption
theorem made_bys (k : Nat) : (madeCells #[Value.int .u8 0] k).toList = bys (List.replicate k 0) := by
  apply List.ext_getElem
  · simp [madeCells, bys]
  · intro i h1 h2
    simp [madeCells, bys, Nat.mod_one]
theorem OB.made (w : World) (base k : Nat) (hb : base ≤ w.heap.size) (hk : k ≤ 3000) : OB (w.alloc (.cells (madeCells #[.int .u8 0] k) 5)) base (.slice (some ⟨w.heap.size, 0, none⟩) k k) (List.replicate k 0) := by
  show World.ownsRow _ _ _ _ _ _ _
  rw [List.length_replicate]
  refine ⟨by simp [bys], .inr ⟨w.heap.size, k, _, rfl, hb, heap_alloc_new w _, Nat.le_refl _, by simp only [maxLen]; omega, by simp [madeCells], ?_⟩⟩
  rw [made_bys, List.take_of_length_le (by simp [bys])]
theorem blk_below {w w' : World} {b : Nat} {o : Obj} (hb : Below w.heap.size w w') (h : w.heap[b]? = some o) : w'.heap[b]? = some o := blk_grown' (below_grown hb none) h (by simp)
theorem split_last {V : List (List Value)} {p : Nat} (h : V.length = p + 1) : ∃ V0, V0.length = p ∧ V = V0 ++ [elt [] V p] := by
  refine ⟨V.take p, by simp; omega, ?_⟩
  rw [← take_succ_elt [] (by omega), List.take_of_length_le (by omega)]
/-- The last change, another one in its place. -/
theorem Many.last {w wr : World} {s : Int} {p c g : Nat} {V : List (List Value)} (kx vx : Value) (G : Bool) (til : Int) (hb : wr.heap[w.heap.size]? = some (.cells #[.int .i64 s, .slice (some ⟨g, 0, none⟩) (p + 1) c] 24 (0, 0)))
    (hv : OV wr w.heap.size 28 4 (.slice (some ⟨g, 0, none⟩) (p + 1) c) V) (hr : RelV noOp (POp wr w.heap.size) V (opsM (p + 1))) (hB : Below w.heap.size w wr) (S : World)
    (hS : S = (((wr.setCell ⟨g, p * 4, none⟩ kx).setCell ⟨g, p * 4 + 1, none⟩ (.bool G)).setCell ⟨g, p * 4 + 2, none⟩ (.int .i64 til)).setCell ⟨g, p * 4 + 3, none⟩ vx) :
    ∃ V0, S.heap[w.heap.size]? = some (.cells #[.int .i64 s, .slice (some ⟨g, 0, none⟩) (p + 1) c] 24 (0, 0)) ∧ OV S w.heap.size 28 4 (.slice (some ⟨g, 0, none⟩) (p + 1) c) (V0 ++ [[kx, .bool G, .int .i64 til, vx]]) ∧ RelV noOp (POp S w.heap.size) V0 (opsM p) ∧ Below w.heap.size w S ∧ S.heap.size = wr.heap.size := by
  have hl : V.length = p + 1 := by rw [hr.1, opsM_len]
  obtain ⟨V0, hl0, hV⟩ := split_last hl
  obtain ⟨kv, vv, hx, _, _, _⟩ := hr.2 p (by omega)
  rw [hx] at hV
  subst hV
  have hgne : g ≠ w.heap.size := fun e => hv.ne_blk hb (by decide) (by rw [e]; rfl)
  have hgb := hv.base_ g rfl
  have hg4 : wr.grownBy S (some g) := by
    rw [hS]
    have a1 := grown_set wr g (p * 4) kx
    have a2 := grown_set (wr.setCell ⟨g, p * 4, none⟩ kx) g (p * 4 + 1) (.bool G)
    have a3 := grown_set ((wr.setCell ⟨g, p * 4, none⟩ kx).setCell ⟨g, p * 4 + 1, none⟩ (.bool G)) g (p * 4 + 2) (.int .i64 til)
    have a4 := grown_set (((wr.setCell ⟨g, p * 4, none⟩ kx).setCell ⟨g, p * 4 + 1, none⟩ (.bool G)).setCell ⟨g, p * 4 + 2, none⟩ (.int .i64 til)) g (p * 4 + 3) vx
    have r : (Value.slice (some ⟨g, 0, none⟩) 0 0).ownBlock = some g := rfl
    rw [← r] at a1 a2 a3 a4 ⊢
    exact grown_step (grown_step (grown_step a1 (AtRow.refl _ _) a2) (AtRow.refl _ _) a3) (AtRow.refl _ _) a4
  have hsz : S.heap.size = wr.heap.size := by rw [hS]; simp
  refine ⟨V0, blk_grown' hg4 hb (fun e => hgne (Option.some.inj e)), ⟨?_, ?_⟩, ?_, ?_, hsz⟩
  · have h0 := hv.1
    rw [hl] at h0
    have h1 := (World.ownsRow.stored h0 (p * 4) kx).1
    have h2 := (World.ownsRow.stored h1 (p * 4 + 1) (.bool G)).1
    have h3 := (World.ownsRow.stored h2 (p * 4 + 2) (.int .i64 til)).1
    have h4 := (World.ownsRow.stored h3 (p * 4 + 3) vx).1
    rw [← hS] at h4
    have hfl : V0.flatten.length = p * 4 := by rw [flat_len V0 (fun x hx => hv.2 x (by simp [hx])), hl0]
    have e : ((((V0 ++ [[kv, .bool (opGone (elt noOp (opsM (p + 1)) p)), .int .i64 (opTil (elt noOp (opsM (p + 1)) p)), vv]]).flatten.set (p * 4) kx).set (p * 4 + 1) (.bool G)).set (p * 4 + 2) (.int .i64 til)).set (p * 4 + 3) vx = (V0 ++ [[kx, .bool G, .int .i64 til, vx]]).flatten := by
      rw [List.flatten_append, List.flatten_append, ← hfl]
      simp [List.set_append_right]
    rw [e] at h4
    have hl2 : (V0 ++ [[kx, .bool G, .int .i64 til, vx]]).length = p + 1 := by simp [hl0]
    rw [hl2]
    exact h4
  · intro x hx
    rcases List.mem_append.1 hx with hx | hx
    · exact hv.2 x (by simp [hx])
    · rw [List.mem_singleton] at hx; subst hx; rfl
  · refine ⟨by rw [hl0, opsM_len], fun j hj => ?_⟩
    obtain ⟨kv', vv', hx', a1, a2, a3⟩ := hr.2 j (by omega)
    rw [elt_left' _ _ _ hj] at hx'
    have e2 : elt noOp (opsM (p + 1)) j = elt noOp (opsM p) j := by rw [opsM, elt_left' _ _ _ (by rw [opsM_len]; omega)]
    rw [e2] at hx' a1 a2 a3
    exact ⟨kv', vv', hx', a1.other hg4 (a1.apart_row hv (by decide)), a2.other hg4 (a2.apart_row hv (by decide)), a3⟩
  · exact hB.grown hg4 hB.size (fun k hk => by cases hk; exact hgb)
theorem Many.zeros {w S W : World} {p c g k v : Nat} {V0 : List (List Value)} {kx vx : Value} {G : Bool} {til : Int} (ht : (Lit.int .i64 til).wf = true)
    (hv : OV S w.heap.size 28 4 (.slice (some ⟨g, 0, none⟩) (p + 1) c) (V0 ++ [[kx, .bool G, .int .i64 til, vx]])) (hr : RelV noOp (POp S w.heap.size) V0 (opsM p)) (hW : Below S.heap.size S W)
    (h1 : OB W w.heap.size kx (List.replicate k 0)) (h2 : OB W w.heap.size vx (List.replicate v 0)) (hp : p < 410) : ROps W (some ⟨g, 0, none⟩) (p + 1) (opsM p ++ [newOp (List.replicate k 0) G til (List.replicate v 0)]) := by
  have hl : (opsM p ++ [newOp (List.replicate k 0) G til (List.replicate v 0)]).length = p + 1 := by rw [List.length_append, opsM_len]; rfl
  obtain ⟨A, c', e, _, h⟩ := ROps_of_OV (base' := w.heap.size) (ops := opsM p ++ [newOp (List.replicate k 0) G til (List.replicate v 0)]) (hv.below hW) ((hr.mono fun x a hx => hx.below hW).snoc ⟨kx, vx, rfl, h1, h2, ht⟩) (by rw [hl]; omega)
  rw [hl] at h e
  injection e with e1 e2 e3
  rw [← e1] at h
  exact h
theorem byteM0 (j : Nat) : (j : Int) % 256 = ((UInt8.ofNat j).toNat : Int) := by rw [UInt8.toNat_ofNat']; omega
theorem byteM0' (j : Nat) : IntKind.u8.wrap (j : Int) = ((UInt8.ofNat j).toNat : Int) := by rw [IntKind.wrap_u8]; exact byteM0 j
theorem byteM1 (j : Nat) : ((j : Int) / 256) % 256 = ((UInt8.ofNat (j / 256)).toNat : Int) := by rw [UInt8.toNat_ofNat']; omega
theorem byteM1' (j : Nat) (h : j < 65536) : (j : Int) / 256 = ((UInt8.ofNat (j / 256)).toNat : Int) := by rw [UInt8.toNat_ofNat']; omega
set_option maxHeartbeats 16000000 in
set_option maxRecDepth 100000 in
theorem BatchMany_walk (zn zk zv s til : Int) (G : Bool) (w : World) (hn : (Lit.int .i64 zn).wf = true) (hk : (Lit.int .i64 zk).wf = true) (hv : (Lit.int .i64 zv).wf = true) (hs : (Lit.int .i64 s).wf = true) (ht : (Lit.int .i64 til).wf = true) :
    Calls Try.prog 3 #[.int .i64 zn, .int .i64 zk, .int .i64 zv, .int .i64 s, .int .i64 til, .bool G] w fun e w' => e = .returned (.bool true) ∧ Below w.heap.size w w' := by
  obtain ⟨n, hn1, hn2⟩ := many_mod zn 410 (by omega) (wf_i64 hn)
  obtain ⟨k, hk1, hk2⟩ := many_mod zk 600 (by omega) (wf_i64 hk)
  obtain ⟨v, hv1, hv2⟩ := many_mod zv 2100 (by omega) (wf_i64 hv)
  have hn3 : (wrap64 (zn.tmod 410 + 410)).tmod 410 = (n : Int) := hn2
  have hk3 : (wrap64 (zk.tmod 600 + 600)).tmod 600 = (k : Int) := hk2
  have hv3 : (wrap64 (zv.tmod 2100 + 2100)).tmod 2100 = (v : Int) := hv2
  have hw1 := wf_i64 hn
  have hw2 := wf_i64 hk
  have hw3 := wf_i64 hv
  have HS := hid hs
  have HT := hid ht
  have hs2 := wf_i64 hs
  clear hn2 hk2 hv2 hs ht
  go_enter Try.func3, Try.ntmps3
  go_wp2
  go_loopw [34] (fun i wr => ∃ j : Nat, j ≤ n ∧ i = .int .i64 j ∧ Many w s j wr) (fun i wr => n - (intOf i).toNat)
  case atStart => exact ⟨0, Nat.zero_le _, rfl, none, 0, [], heap_alloc_new w _, OV.nil _ _ _ _, RelV.nil, below_alloc' (Below.refl _ _) _⟩
  case round =>
    obtain ⟨j, hj, rfl, hM⟩ := hrel
    by_cases hlt : j < n
    · obtain ⟨A, c, V, hb, hv, hr, hB⟩ := hM
      have hc1 := box_at hb 1 (.slice A j c) rfl
      have hl : V.length = j := by rw [hr.1, opsM_len]
      go_wp2_with (at_builtin; go_loud (refine wpV_append1 22 28 _ 4 64 Try.underlying22 opinfo rfl (by omega) w (wr.alloc (.cells #[.int .u8 _, .int .u8 _] 5)) w.heap.size rfl (.tmp 38) (.tmp 46) rfl (.slice A j c) V rfl (hv.below (below_alloc' (Below.refl _ _) _)) #[.slice (some ⟨wr.heap.size, 0, none⟩) 2 2, .bool false, .int .i64 0, .slice none 0 0] rfl (ones4 rfl rfl rfl rfl) 1 _ (by simp) rfl (by simp only [maxLen]; omega) (by omega) (below_alloc' hB _) (below_alloc' hB _).size ?_); intro v' w' hv' hB' hgr _; obtain ⟨B, c', rfl, hc'⟩ := hv'.openN (j + 1) (by rw [List.length_append, hl]; rfl); have hb2 := blk_grown' (grown_step (World.grownBy_alloc wr _ _) (AtRow.refl _ (Value.slice A j c)) hgr) hb (hv.ne_blk hb (by decide)); have hc2 := box_at hb2 1 (.slice A j c) rfl; have hf2 := frozen_of_row w' w.heap.size 1 _ _ hb2)
      go_roundw
      case rel => exact ⟨j + 1, by omega, by go_num, Many.step hb hv hr hB (by first | rfl | exact byteM0 j | exact byteM0' j) (by first | rfl | exact byteM1 j | exact byteM1' j (by omega)) hgr hv'⟩
      case measure => simp [intOf]; omega
    · obtain rfl : j = n := by omega
      obtain ⟨A, c, V, hb, hv, hr, hB⟩ := hM
      have hc0 := box_at hb 0 (.int .i64 s) rfl
      have hc1 := box_at hb 1 (.slice A j c) rfl
      have hmk : ∀ (N : Nat) (u : World), N ≤ 3000 → (Instr.makeSlice 26 (.int .i64 (N : Int)) (.int .i64 (N : Int))).run Try.prog u = .ok (.slice (some ⟨u.heap.size, 0, none⟩) N N) (u.alloc (.cells (madeCells #[.int .u8 0] N) 5)) := fun N u hN => by
        obtain ⟨i, hi, hz0, hz1, hz2⟩ := info_parts u8info
        have h := run_make (P := Try.prog) u 26 5 i (.int .u8 0) Try.underlying26 hi hz0 .i64 .i64 (N : Int) (N : Int) (by omega) (Int.le_refl _) (by rw [hz2]; omega) (by omega)
        simpa [hz1, Value.cells] using h
      have hmkk := fun u => hmk k u (by omega)
      have hmkv := fun u => hmk v u (by omega)
      clear hmk
      rcases Nat.eq_zero_or_pos j with h0 | h0
      · have h0i : ¬ (0 : Int) < (j : Int) := by omega
        clear h0
        obtain ⟨A', c', e, _, hO⟩ := ROps_of_OV (base' := w.heap.size) hv hr (by rw [opsM_len]; omega)
        rw [opsM_len] at e hO
        injection e with e1 e2 e3
        subst e1 e3
        obtain ⟨ops, hops⟩ : ∃ o, o = opsM j := ⟨_, rfl⟩
        rw [← hops] at hO
        clear hops hn3 hk3 hv3 hw1 hw2 hw3
        have hq0 := box_at hb 0 (.int .i64 s) rfl
        have hq1 := box_at hb 1 (.slice _ j _) rfl
        obtain ⟨E, hE⟩ : ∃ E, mayE s ops = E := ⟨_, rfl⟩
        obtain ⟨X, hX⟩ : ∃ X, encB s ops = X := ⟨_, rfl⟩
        have HE := hid hE
        have HX := hid hX
        clear hE hX
        go_wp2_with (first
          | (go_at_call 7; (with_reducible refine (encode_any s _ j _ ops _ hO hs2).mono ?_); rintro e w1 ⟨v1, rfl, hown1, hb1⟩; rw [HE.out]; rw [HX.out] at hown1; have hbx1 := blk_below hb1 hb; have hq2 := box_at hbx1 0 (.int .i64 s) rfl; have hq3 := box_at hbx1 1 (.slice _ j _) rfl; have hO1 := hO.below hb1; have hB1 := below_then hB hb1)
          | (go_at_call 8; (with_reducible refine (refenc_any s _ j _ ops _ hO1 hs2).mono ?_); rintro e w2 ⟨v2, rfl, hown2, hb2⟩; rw [HE.out]; rw [HX.out] at hown2; have hbx2 := blk_below hb2 hbx1; have hO2 := hO1.below hb2; have hB2 := below_then hB1 hb2; have hown3 := hown1.below hb2))
        clear hq0 hq1 hq2 hq3 hO hO1 hb hbx1 hB hB1 hown1 hb1 hb2
        apply wp_region_txt [none, none, none, none, none, none, none, none, none, none, none, none, some 20, none, none, none, none, none, none, none, none, none, none, none, none, none, none, none, none, none, none, none, none, none, none, none, none, none, none, none, none, none, none, none, none, none, none, none, none, none, none, none, none, none, none, none, none, none, none, none, none, none, none, none, none, none, none, none, none, none, none, none, none, none, some 0, some 1, some 2, some 3, some 4, some 5, some 6, some 7, some 8, some 9, some 10, some 11, some 12, some 13, some 14, some 15, some 16, some 17, some 18, some 19] [] [] [_, _, _, _, _, _, _, _, _, _, _, _, _, _, _, _, _, _, _, _, _] [[], [], [], [], [], [], [], [], [], [], [], [], [], [], [], [], [], [], [], [], []]
        case hm => rfl
        case hs => rfl
        case hst => kernel_rfl
        case hput => exact OpsOK.cons (fun _ _ => rfl) (OpsOK.cons (fun _ _ => rfl) (OpsOK.cons (fun _ _ => rfl) (OpsOK.cons (fun _ _ => rfl) (OpsOK.cons (fun _ _ => rfl) (OpsOK.cons (fun _ _ => rfl) (OpsOK.cons (fun _ _ => rfl) (OpsOK.cons (fun _ _ => rfl) (OpsOK.cons (fun _ _ => rfl) (OpsOK.cons (fun _ _ => rfl) (OpsOK.cons (fun _ _ => rfl) (OpsOK.cons (fun _ _ => rfl) (OpsOK.cons (fun _ _ => rfl) (OpsOK.cons (fun _ _ => rfl) (OpsOK.cons (fun _ _ => rfl) (OpsOK.cons (fun _ _ => rfl) (OpsOK.cons (fun _ _ => rfl) (OpsOK.cons (fun _ _ => rfl) (OpsOK.cons (fun _ _ => rfl) (OpsOK.cons (fun _ _ => rfl) (OpsOK.cons (fun _ _ => rfl) (OpsOK.nil)))))))))))))))))))))
        case hops =>
          refine OpsOK.cons ?_ ?_
          · intro u W K hB hd hK
            replace hK := hk_val hK (by decide) (by rfl)
            clear hd
            simp only [lay, Act.put, List.setIfInBounds_toArray, List.set_cons_zero, List.set_cons_succ] at hK ⊢
            have q0 := box_at (blk_below hB hbx2) 0 (.int .i64 s) rfl
            have q1 := box_at (blk_below hB hbx2) 1 (.slice _ j _) rfl
            go_simp
            exact hK.out _ _ rfl (Below.refl _ _)
          refine OpsOK.cons ?_ ?_
          · intro u W K hB hd hK
            have h0 := fact_val (dep_of hd 0 (by kernel_rfl) (by kernel_rfl)) (by decide)
            dsimp only [nth] at h0
            replace hK := hk_val hK (by decide) (by rfl)
            clear hd
            simp only [lay, Act.put, List.setIfInBounds_toArray, List.set_cons_zero, List.set_cons_succ, h0] at hK ⊢
            go_simp
            first
              | (go_at_call 9; (with_reducible refine (may_any s _ j _ ops W (hO2.below hB) hs2).mono ?_); rintro e w1 ⟨rfl, hb⟩; rw [HE.out]; exact hK.out _ _ rfl hb)
              | (go_at_call 10; (with_reducible refine (refmay_any s _ j _ ops W (hO2.below hB) hs2).mono ?_); rintro e w1 ⟨rfl, hb⟩; rw [HE.out]; exact hK.out _ _ rfl hb)
              | (go_at_call 11; (with_reducible refine (awake_any _).mono ?_); rintro e w1 ⟨rfl, hb⟩; exact hK.out _ _ rfl hb)
          refine OpsOK.cons ?_ ?_
          · intro u W K hB hd hK
            replace hK := hk_val hK (by decide) (by rfl)
            clear hd
            simp only [lay, Act.put, List.setIfInBounds_toArray, List.set_cons_zero, List.set_cons_succ] at hK ⊢
            have q0 := box_at (blk_below hB hbx2) 0 (.int .i64 s) rfl
            have q1 := box_at (blk_below hB hbx2) 1 (.slice _ j _) rfl
            go_simp
            exact hK.out _ _ rfl (Below.refl _ _)
          refine OpsOK.cons ?_ ?_
          · intro u W K hB hd hK
            have h1 := fact_val (dep_of hd 1 (by kernel_rfl) (by kernel_rfl)) (by decide)
            dsimp only [nth] at h1
            have h2 := fact_val (dep_of hd 2 (by kernel_rfl) (by kernel_rfl)) (by decide)
            dsimp only [nth] at h2
            replace hK := hk_val hK (by decide) (by rfl)
            clear hd
            simp only [lay, Act.put, List.setIfInBounds_toArray, List.set_cons_zero, List.set_cons_succ, h1, h2] at hK ⊢
            go_simp
            first
              | (go_at_call 9; (with_reducible refine (may_any s _ j _ ops W (hO2.below hB) hs2).mono ?_); rintro e w1 ⟨rfl, hb⟩; rw [HE.out]; exact hK.out _ _ rfl hb)
              | (go_at_call 10; (with_reducible refine (refmay_any s _ j _ ops W (hO2.below hB) hs2).mono ?_); rintro e w1 ⟨rfl, hb⟩; rw [HE.out]; exact hK.out _ _ rfl hb)
              | (go_at_call 11; (with_reducible refine (awake_any _).mono ?_); rintro e w1 ⟨rfl, hb⟩; exact hK.out _ _ rfl hb)
          refine OpsOK.cons ?_ ?_
          · intro u W K hB hd hK
            have h1 := fact_val (dep_of hd 1 (by kernel_rfl) (by kernel_rfl)) (by decide)
            dsimp only [nth] at h1
            have h3 := fact_val (dep_of hd 3 (by kernel_rfl) (by kernel_rfl)) (by decide)
            dsimp only [nth] at h3
            replace hK := hk_val hK (by decide) (by rfl)
            clear hd
            simp only [lay, Act.put, List.setIfInBounds_toArray, List.set_cons_zero, List.set_cons_succ, h1, h3] at hK ⊢
            go_simp
            exact hK.out _ _ rfl (Below.refl _ _)
          refine OpsOK.cons ?_ ?_
          · intro u W K hB hd hK
            have h3 := fact_val (dep_of hd 3 (by kernel_rfl) (by kernel_rfl)) (by decide)
            dsimp only [nth] at h3
            have h4 := fact_val (dep_of hd 4 (by kernel_rfl) (by kernel_rfl)) (by decide)
            dsimp only [nth] at h4
            replace hK := hk_val hK (by decide) (by rfl)
            clear hd
            simp only [lay, Act.put, List.setIfInBounds_toArray, List.set_cons_zero, List.set_cons_succ, h3, h4] at hK ⊢
            go_simp
            exact hK.out _ _ rfl (Below.refl _ _)
          refine OpsOK.cons ?_ ?_
          · intro u W K hB hd hK
            have h5 := fact_val (dep_of hd 5 (by kernel_rfl) (by kernel_rfl)) (by decide)
            dsimp only [nth] at h5
            replace hK := hk_val hK (by decide) (by rfl)
            clear hd
            simp only [lay, Act.put, List.setIfInBounds_toArray, List.set_cons_zero, List.set_cons_succ, h5] at hK ⊢
            go_simp
            exact hK.out _ _ rfl (Below.refl _ _)
          refine OpsOK.cons ?_ ?_
          · intro u W K hB hd hK
            have h5 := fact_val (dep_of hd 5 (by kernel_rfl) (by kernel_rfl)) (by decide)
            dsimp only [nth] at h5
            have h6 := fact_val (dep_of hd 6 (by kernel_rfl) (by kernel_rfl)) (by decide)
            dsimp only [nth] at h6
            replace hK := hk_val hK (by decide) (by rfl)
            clear hd
            simp only [lay, Act.put, List.setIfInBounds_toArray, List.set_cons_zero, List.set_cons_succ, h5, h6] at hK ⊢
            have hcv := OB.conv (hown3.below hB)
            go_simp
            exact hK.out _ _ rfl (Below.refl _ _)
          refine OpsOK.cons ?_ ?_
          · intro u W K hB hd hK
            have h5 := fact_val (dep_of hd 5 (by kernel_rfl) (by kernel_rfl)) (by decide)
            dsimp only [nth] at h5
            replace hK := hk_val hK (by decide) (by rfl)
            clear hd
            simp only [lay, Act.put, List.setIfInBounds_toArray, List.set_cons_zero, List.set_cons_succ, h5] at hK ⊢
            go_simp
            exact hK.out _ _ rfl (Below.refl _ _)
          refine OpsOK.cons ?_ ?_
          · intro u W K hB hd hK
            have h5 := fact_val (dep_of hd 5 (by kernel_rfl) (by kernel_rfl)) (by decide)
            dsimp only [nth] at h5
            have h8 := fact_val (dep_of hd 8 (by kernel_rfl) (by kernel_rfl)) (by decide)
            dsimp only [nth] at h8
            replace hK := hk_val hK (by decide) (by rfl)
            clear hd
            simp only [lay, Act.put, List.setIfInBounds_toArray, List.set_cons_zero, List.set_cons_succ, h5, h8] at hK ⊢
            have hcv := OB.conv (hown2.below hB)
            go_simp
            exact hK.out _ _ rfl (Below.refl _ _)
          refine OpsOK.cons ?_ ?_
          · intro u W K hB hd hK
            have h5 := fact_val (dep_of hd 5 (by kernel_rfl) (by kernel_rfl)) (by decide)
            dsimp only [nth] at h5
            have h7 := fact_val (dep_of hd 7 (by kernel_rfl) (by kernel_rfl)) (by decide)
            dsimp only [nth] at h7
            have h9 := fact_val (dep_of hd 9 (by kernel_rfl) (by kernel_rfl)) (by decide)
            dsimp only [nth] at h9
            replace hK := hk_val hK (by decide) (by rfl)
            clear hd
            simp only [lay, Act.put, List.setIfInBounds_toArray, List.set_cons_zero, List.set_cons_succ, h5, h7, h9] at hK ⊢
            go_simp
            exact hK.out _ _ rfl (Below.refl _ _)
          refine OpsOK.cons ?_ ?_
          · intro u W K hB hd hK
            have h5 := fact_val (dep_of hd 5 (by kernel_rfl) (by kernel_rfl)) (by decide)
            dsimp only [nth] at h5
            have h10 := fact_val (dep_of hd 10 (by kernel_rfl) (by kernel_rfl)) (by decide)
            dsimp only [nth] at h10
            replace hK := hk_val hK (by decide) (by rfl)
            clear hd
            simp only [lay, Act.put, List.setIfInBounds_toArray, List.set_cons_zero, List.set_cons_succ, h5, h10] at hK ⊢
            go_simp
            exact hK.out _ _ rfl (Below.refl _ _)
          refine OpsOK.cons ?_ ?_
          · intro u W K hB hd hK
            have h5 := fact_val (dep_of hd 5 (by kernel_rfl) (by kernel_rfl)) (by decide)
            dsimp only [nth] at h5
            have h11 := fact_val (dep_of hd 11 (by kernel_rfl) (by kernel_rfl)) (by decide)
            dsimp only [nth] at h11
            replace hK := hk_val hK (by decide) (by rfl)
            clear hd
            simp only [lay, Act.put, List.setIfInBounds_toArray, List.set_cons_zero, List.set_cons_succ, h5, h11] at hK ⊢
            go_simp
            exact hK.out _ _ rfl (Below.refl _ _)
          refine OpsOK.cons ?_ ?_
          · intro u W K hB hd hK
            have h12 := fact_val (dep_of hd 12 (by kernel_rfl) (by kernel_rfl)) (by decide)
            dsimp only [nth] at h12
            replace hK := hk_val hK (by decide) (by rfl)
            clear hd
            simp only [lay, Act.put, List.setIfInBounds_toArray, List.set_cons_zero, List.set_cons_succ, h12] at hK ⊢
            go_simp
            exact hK.out _ _ rfl (Below.refl _ _)
          refine OpsOK.cons ?_ ?_
          · intro u W K hB hd hK
            have h12 := fact_val (dep_of hd 12 (by kernel_rfl) (by kernel_rfl)) (by decide)
            dsimp only [nth] at h12
            replace hK := hk_val hK (by decide) (by rfl)
            clear hd
            simp only [lay, Act.put, List.setIfInBounds_toArray, List.set_cons_zero, List.set_cons_succ, h12] at hK ⊢
            go_simp
            exact hK.out _ _ rfl (Below.refl _ _)
          refine OpsOK.cons ?_ ?_
          · intro u W K hB hd hK
            have h12 := fact_val (dep_of hd 12 (by kernel_rfl) (by kernel_rfl)) (by decide)
            dsimp only [nth] at h12
            have h13 := fact_val (dep_of hd 13 (by kernel_rfl) (by kernel_rfl)) (by decide)
            dsimp only [nth] at h13
            have h14 := fact_val (dep_of hd 14 (by kernel_rfl) (by kernel_rfl)) (by decide)
            dsimp only [nth] at h14
            replace hK := hk_val hK (by decide) (by rfl)
            clear hd
            simp only [lay, Act.put, List.setIfInBounds_toArray, List.set_cons_zero, List.set_cons_succ, h12, h13, h14] at hK ⊢
            go_simp
            exact hK.out _ _ rfl (Below.refl _ _)
          refine OpsOK.cons ?_ ?_
          · intro u W K hB hd hK
            have h12 := fact_val (dep_of hd 12 (by kernel_rfl) (by kernel_rfl)) (by decide)
            dsimp only [nth] at h12
            have h15 := fact_val (dep_of hd 15 (by kernel_rfl) (by kernel_rfl)) (by decide)
            dsimp only [nth] at h15
            replace hK := hk_val hK (by decide) (by rfl)
            clear hd
            simp only [lay, Act.put, List.setIfInBounds_toArray, List.set_cons_zero, List.set_cons_succ, h12, h15] at hK ⊢
            go_simp
            exact hK.out _ _ rfl (Below.refl _ _)
          refine OpsOK.cons ?_ ?_
          · intro u W K hB hd hK
            have h12 := fact_val (dep_of hd 12 (by kernel_rfl) (by kernel_rfl)) (by decide)
            dsimp only [nth] at h12
            have h16 := fact_val (dep_of hd 16 (by kernel_rfl) (by kernel_rfl)) (by decide)
            dsimp only [nth] at h16
            replace hK := hk_val hK (by decide) (by rfl)
            clear hd
            simp only [lay, Act.put, List.setIfInBounds_toArray, List.set_cons_zero, List.set_cons_succ, h12, h16] at hK ⊢
            go_simp
            exact hK.out _ _ rfl (Below.refl _ _)
          refine OpsOK.cons ?_ ?_
          · intro u W K hB hd hK
            have h17 := fact_val (dep_of hd 17 (by kernel_rfl) (by kernel_rfl)) (by decide)
            dsimp only [nth] at h17
            replace hK := hk_val hK (by decide) (by rfl)
            clear hd
            simp only [lay, Act.put, List.setIfInBounds_toArray, List.set_cons_zero, List.set_cons_succ, h17] at hK ⊢
            go_simp
            first
              | (go_at_call 9; (with_reducible refine (may_any s _ j _ ops W (hO2.below hB) hs2).mono ?_); rintro e w1 ⟨rfl, hb⟩; rw [HE.out]; exact hK.out _ _ rfl hb)
              | (go_at_call 10; (with_reducible refine (refmay_any s _ j _ ops W (hO2.below hB) hs2).mono ?_); rintro e w1 ⟨rfl, hb⟩; rw [HE.out]; exact hK.out _ _ rfl hb)
              | (go_at_call 11; (with_reducible refine (awake_any _).mono ?_); rintro e w1 ⟨rfl, hb⟩; exact hK.out _ _ rfl hb)
          refine OpsOK.cons ?_ ?_
          · intro u W K hB hd hK
            have h17 := fact_val (dep_of hd 17 (by kernel_rfl) (by kernel_rfl)) (by decide)
            dsimp only [nth] at h17
            have h18 := fact_val (dep_of hd 18 (by kernel_rfl) (by kernel_rfl)) (by decide)
            dsimp only [nth] at h18
            replace hK := hk_val hK (by decide) (by rfl)
            clear hd
            simp only [lay, Act.put, List.setIfInBounds_toArray, List.set_cons_zero, List.set_cons_succ, h17, h18] at hK ⊢
            go_simp
            exact hK.out _ _ rfl (Below.refl _ _)
          refine OpsOK.cons ?_ ?_
          · intro u W K hB hd hK
            have h18 := fact_val (dep_of hd 18 (by kernel_rfl) (by kernel_rfl)) (by decide)
            dsimp only [nth] at h18
            have h19 := fact_val (dep_of hd 19 (by kernel_rfl) (by kernel_rfl)) (by decide)
            dsimp only [nth] at h19
            replace hK := hk_val hK (by decide) (by rfl)
            clear hd
            simp only [lay, Act.put, List.setIfInBounds_toArray, List.set_cons_zero, List.set_cons_succ, h18, h19] at hK ⊢
            go_simp
            exact hK.out _ _ rfl (Below.refl _ _)
          exact OpsOK.nil
        intro u W hB hf
        have h0 := fact_val (hf 0 (by decide) (by decide)) (by decide)
        dsimp only [nth] at h0
        have h1 := fact_val (hf 1 (by decide) (by decide)) (by decide)
        dsimp only [nth] at h1
        have h2 := fact_val (hf 2 (by decide) (by decide)) (by decide)
        dsimp only [nth] at h2
        have h3 := fact_val (hf 3 (by decide) (by decide)) (by decide)
        dsimp only [nth] at h3
        have h4 := fact_val (hf 4 (by decide) (by decide)) (by decide)
        dsimp only [nth] at h4
        have h5 := fact_val (hf 5 (by decide) (by decide)) (by decide)
        dsimp only [nth] at h5
        have h6 := fact_val (hf 6 (by decide) (by decide)) (by decide)
        dsimp only [nth] at h6
        have h7 := fact_val (hf 7 (by decide) (by decide)) (by decide)
        dsimp only [nth] at h7
        have h8 := fact_val (hf 8 (by decide) (by decide)) (by decide)
        dsimp only [nth] at h8
        have h9 := fact_val (hf 9 (by decide) (by decide)) (by decide)
        dsimp only [nth] at h9
        have h10 := fact_val (hf 10 (by decide) (by decide)) (by decide)
        dsimp only [nth] at h10
        have h11 := fact_val (hf 11 (by decide) (by decide)) (by decide)
        dsimp only [nth] at h11
        have h12 := fact_val (hf 12 (by decide) (by decide)) (by decide)
        dsimp only [nth] at h12
        have h13 := fact_val (hf 13 (by decide) (by decide)) (by decide)
        dsimp only [nth] at h13
        have h14 := fact_val (hf 14 (by decide) (by decide)) (by decide)
        dsimp only [nth] at h14
        have h15 := fact_val (hf 15 (by decide) (by decide)) (by decide)
        dsimp only [nth] at h15
        have h16 := fact_val (hf 16 (by decide) (by decide)) (by decide)
        dsimp only [nth] at h16
        have h17 := fact_val (hf 17 (by decide) (by decide)) (by decide)
        dsimp only [nth] at h17
        have h18 := fact_val (hf 18 (by decide) (by decide)) (by decide)
        dsimp only [nth] at h18
        have h19 := fact_val (hf 19 (by decide) (by decide)) (by decide)
        dsimp only [nth] at h19
        have h20 := fact_val (hf 20 (by decide) (by decide)) (by decide)
        dsimp only [nth] at h20
        clear hf
        simp only [lay, h0, h1, h2, h3, h4, h5, h6, h7, h8, h9, h10, h11, h12, h13, h14, h15, h16, h17, h18, h19, h20]
        clear h0 h1 h2 h3 h4 h5 h6 h7 h8 h9 h10 h11 h12 h13 h14 h15 h16 h17 h18 h19 h20
        go_wp2
        go_ret
        exact ⟨rfl, below_then hB2 hB⟩
      · have h0i : (0 : Int) < (j : Int) := by omega
        obtain ⟨p, hp⟩ : ∃ p, j = p + 1 := ⟨j - 1, by omega⟩
        have hix : IntKind.i64.wrap ((j : Int) - 1) = (p : Int) := by rw [IntKind.wrap_i64]; omega
        have hpj : p < j := by omega
        have hbsz : w.heap.size < wr.heap.size := World.block_lt_of_cell? wr _ hc0
        have hl : V.length = j := by rw [hr.1, opsM_len]
        obtain ⟨g, c', e, hg1, hg2, hg3⟩ := hv.form (by omega)
        rw [hl] at e
        injection e with e1 e2 e3
        subst e1 e3
        obtain ⟨kv, vv, hx, _, _, _⟩ := hr.2 p (by omega)
        have hcell := fun i (hi : i < 4) => (OV.cell (V := V) (by rw [hl]; exact hv) (by omega : p < V.length) hi)
        rw [hx] at hcell
        have hd0 : wr.cell? ⟨g, p * 4, none⟩ = some kv := hcell 0 (by omega)
        have hd1 := hcell 1 (by omega)
        have hd2 := hcell 2 (by omega)
        have hd3 := hcell 3 (by omega)
        obtain ⟨cur, hgb⟩ := hv.blk
        have hfz := fun i => frozen_of_row wr g i _ _ hgb
        have HP := hid hp
        clear hn3 hk3 hv3 hw1 hw2 hw3 hp hcell
        go_wp2
        go_region
        · obtain ⟨S, hS⟩ : ∃ S, S = (((wr.setCell ⟨g, p * 4, none⟩ (.slice (some ⟨wr.heap.size, 0, none⟩) k k)).setCell ⟨g, p * 4 + 1, none⟩ (.bool G)).setCell ⟨g, p * 4 + 2, none⟩ (.int .i64 til)).setCell ⟨g, p * 4 + 3, none⟩ (.slice (some ⟨wr.heap.size + 1, 0, none⟩) v v) := ⟨_, rfl⟩
          obtain ⟨V0, a1, a2, a3, a4, a5⟩ := Many.last (p := p) _ _ G til (by rw [← HP.out]; exact hb) (by rw [← HP.out]; exact hv) (by rw [← HP.out]; exact hr) hB S hS
          have hk1 := (OB.made S w.heap.size k (by rw [a5]; exact hB.size) (by omega)).alloc (.cells (madeCells #[.int .u8 0] v) 5)
          have es : (S.alloc (.cells (madeCells #[.int .u8 0] k) 5)).heap.size = wr.heap.size + 1 := by simp [a5]
          have hv1 := OB.made (S.alloc (.cells (madeCells #[.int .u8 0] k) 5)) w.heap.size v (by rw [es]; omega) (by omega)
          rw [a5] at hk1
          rw [es] at hv1
          have hbel := (below_alloc' (below_alloc' (Below.refl S.heap.size S) (.cells (madeCells #[.int .u8 0] k) 5)) (.cells (madeCells #[.int .u8 0] v) 5)).drew
          have hO := Many.zeros HT.out a2 a3 hbel hk1.drew hv1.drew (by omega)
          rw [← HP.out] at hO a1
          have hb := blk_below hbel a1
          have hB := below_then a4 hbel
          rw [← hS]
          obtain ⟨ops, hops⟩ : ∃ o, o = opsM p ++ [newOp (List.replicate k 0) G til (List.replicate v 0)] := ⟨_, rfl⟩
          rw [← hops] at hO
          clear hS a1 a2 a3 a4 a5 hk1 hv1 es hbel hops
          generalize (((S.alloc (.cells (madeCells #[.int .u8 0] k) 5)).alloc (.cells (madeCells #[.int .u8 0] v) 5)).drew) = wr at *
          have hq0 := box_at hb 0 (.int .i64 s) rfl
          have hq1 := box_at hb 1 (.slice _ j _) rfl
          obtain ⟨E, hE⟩ : ∃ E, mayE s ops = E := ⟨_, rfl⟩
          obtain ⟨X, hX⟩ : ∃ X, encB s ops = X := ⟨_, rfl⟩
          have HE := hid hE
          have HX := hid hX
          clear hE hX
          go_wp2_with (first
            | (go_at_call 7; (with_reducible refine (encode_any s _ j _ ops _ hO hs2).mono ?_); rintro e w1 ⟨v1, rfl, hown1, hb1⟩; rw [HE.out]; rw [HX.out] at hown1; have hbx1 := blk_below hb1 hb; have hq2 := box_at hbx1 0 (.int .i64 s) rfl; have hq3 := box_at hbx1 1 (.slice _ j _) rfl; have hO1 := hO.below hb1; have hB1 := below_then hB hb1)
            | (go_at_call 8; (with_reducible refine (refenc_any s _ j _ ops _ hO1 hs2).mono ?_); rintro e w2 ⟨v2, rfl, hown2, hb2⟩; rw [HE.out]; rw [HX.out] at hown2; have hbx2 := blk_below hb2 hbx1; have hO2 := hO1.below hb2; have hB2 := below_then hB1 hb2; have hown3 := hown1.below hb2))
          clear hq0 hq1 hq2 hq3 hO hO1 hb hbx1 hB hB1 hown1 hb1 hb2
          apply wp_region_txt [none, none, none, none, none, none, none, none, none, none, none, none, some 20, none, none, none, none, none, none, none, none, none, none, none, none, none, none, none, none, none, none, none, none, none, none, none, none, none, none, none, none, none, none, none, none, none, none, none, none, none, none, none, none, none, none, none, none, none, none, none, none, none, none, none, none, none, none, none, none, none, none, none, none, none, some 0, some 1, some 2, some 3, some 4, some 5, some 6, some 7, some 8, some 9, some 10, some 11, some 12, some 13, some 14, some 15, some 16, some 17, some 18, some 19] [] [] [_, _, _, _, _, _, _, _, _, _, _, _, _, _, _, _, _, _, _, _, _] [[], [], [], [], [], [], [], [], [], [], [], [], [], [], [], [], [], [], [], [], []]
          case hm => rfl
          case hs => rfl
          case hst => kernel_rfl
          case hput => exact OpsOK.cons (fun _ _ => rfl) (OpsOK.cons (fun _ _ => rfl) (OpsOK.cons (fun _ _ => rfl) (OpsOK.cons (fun _ _ => rfl) (OpsOK.cons (fun _ _ => rfl) (OpsOK.cons (fun _ _ => rfl) (OpsOK.cons (fun _ _ => rfl) (OpsOK.cons (fun _ _ => rfl) (OpsOK.cons (fun _ _ => rfl) (OpsOK.cons (fun _ _ => rfl) (OpsOK.cons (fun _ _ => rfl) (OpsOK.cons (fun _ _ => rfl) (OpsOK.cons (fun _ _ => rfl) (OpsOK.cons (fun _ _ => rfl) (OpsOK.cons (fun _ _ => rfl) (OpsOK.cons (fun _ _ => rfl) (OpsOK.cons (fun _ _ => rfl) (OpsOK.cons (fun _ _ => rfl) (OpsOK.cons (fun _ _ => rfl) (OpsOK.cons (fun _ _ => rfl) (OpsOK.cons (fun _ _ => rfl) (OpsOK.nil)))))))))))))))))))))
          case hops =>
            refine OpsOK.cons ?_ ?_
            · intro u W K hB hd hK
              replace hK := hk_val hK (by decide) (by rfl)
              clear hd
              simp only [lay, Act.put, List.setIfInBounds_toArray, List.set_cons_zero, List.set_cons_succ] at hK ⊢
              have q0 := box_at (blk_below hB hbx2) 0 (.int .i64 s) rfl
              have q1 := box_at (blk_below hB hbx2) 1 (.slice _ j _) rfl
              go_simp
              exact hK.out _ _ rfl (Below.refl _ _)
            refine OpsOK.cons ?_ ?_
            · intro u W K hB hd hK
              have h0 := fact_val (dep_of hd 0 (by kernel_rfl) (by kernel_rfl)) (by decide)
              dsimp only [nth] at h0
              replace hK := hk_val hK (by decide) (by rfl)
              clear hd
              simp only [lay, Act.put, List.setIfInBounds_toArray, List.set_cons_zero, List.set_cons_succ, h0] at hK ⊢
              go_simp
              first
                | (go_at_call 9; (with_reducible refine (may_any s _ j _ ops W (hO2.below hB) hs2).mono ?_); rintro e w1 ⟨rfl, hb⟩; rw [HE.out]; exact hK.out _ _ rfl hb)
                | (go_at_call 10; (with_reducible refine (refmay_any s _ j _ ops W (hO2.below hB) hs2).mono ?_); rintro e w1 ⟨rfl, hb⟩; rw [HE.out]; exact hK.out _ _ rfl hb)
                | (go_at_call 11; (with_reducible refine (awake_any _).mono ?_); rintro e w1 ⟨rfl, hb⟩; exact hK.out _ _ rfl hb)
            refine OpsOK.cons ?_ ?_
            · intro u W K hB hd hK
              replace hK := hk_val hK (by decide) (by rfl)
              clear hd
              simp only [lay, Act.put, List.setIfInBounds_toArray, List.set_cons_zero, List.set_cons_succ] at hK ⊢
              have q0 := box_at (blk_below hB hbx2) 0 (.int .i64 s) rfl
              have q1 := box_at (blk_below hB hbx2) 1 (.slice _ j _) rfl
              go_simp
              exact hK.out _ _ rfl (Below.refl _ _)
            refine OpsOK.cons ?_ ?_
            · intro u W K hB hd hK
              have h1 := fact_val (dep_of hd 1 (by kernel_rfl) (by kernel_rfl)) (by decide)
              dsimp only [nth] at h1
              have h2 := fact_val (dep_of hd 2 (by kernel_rfl) (by kernel_rfl)) (by decide)
              dsimp only [nth] at h2
              replace hK := hk_val hK (by decide) (by rfl)
              clear hd
              simp only [lay, Act.put, List.setIfInBounds_toArray, List.set_cons_zero, List.set_cons_succ, h1, h2] at hK ⊢
              go_simp
              first
                | (go_at_call 9; (with_reducible refine (may_any s _ j _ ops W (hO2.below hB) hs2).mono ?_); rintro e w1 ⟨rfl, hb⟩; rw [HE.out]; exact hK.out _ _ rfl hb)
                | (go_at_call 10; (with_reducible refine (refmay_any s _ j _ ops W (hO2.below hB) hs2).mono ?_); rintro e w1 ⟨rfl, hb⟩; rw [HE.out]; exact hK.out _ _ rfl hb)
                | (go_at_call 11; (with_reducible refine (awake_any _).mono ?_); rintro e w1 ⟨rfl, hb⟩; exact hK.out _ _ rfl hb)
            refine OpsOK.cons ?_ ?_
            · intro u W K hB hd hK
              have h1 := fact_val (dep_of hd 1 (by kernel_rfl) (by kernel_rfl)) (by decide)
              dsimp only [nth] at h1
              have h3 := fact_val (dep_of hd 3 (by kernel_rfl) (by kernel_rfl)) (by decide)
              dsimp only [nth] at h3
              replace hK := hk_val hK (by decide) (by rfl)
              clear hd
              simp only [lay, Act.put, List.setIfInBounds_toArray, List.set_cons_zero, List.set_cons_succ, h1, h3] at hK ⊢
              go_simp
              exact hK.out _ _ rfl (Below.refl _ _)
            refine OpsOK.cons ?_ ?_
            · intro u W K hB hd hK
              have h3 := fact_val (dep_of hd 3 (by kernel_rfl) (by kernel_rfl)) (by decide)
              dsimp only [nth] at h3
              have h4 := fact_val (dep_of hd 4 (by kernel_rfl) (by kernel_rfl)) (by decide)
              dsimp only [nth] at h4
              replace hK := hk_val hK (by decide) (by rfl)
              clear hd
              simp only [lay, Act.put, List.setIfInBounds_toArray, List.set_cons_zero, List.set_cons_succ, h3, h4] at hK ⊢
              go_simp
              exact hK.out _ _ rfl (Below.refl _ _)
            refine OpsOK.cons ?_ ?_
            · intro u W K hB hd hK
              have h5 := fact_val (dep_of hd 5 (by kernel_rfl) (by kernel_rfl)) (by decide)
              dsimp only [nth] at h5
              replace hK := hk_val hK (by decide) (by rfl)
              clear hd
              simp only [lay, Act.put, List.setIfInBounds_toArray, List.set_cons_zero, List.set_cons_succ, h5] at hK ⊢
              go_simp
              exact hK.out _ _ rfl (Below.refl _ _)
            refine OpsOK.cons ?_ ?_
            · intro u W K hB hd hK
              have h5 := fact_val (dep_of hd 5 (by kernel_rfl) (by kernel_rfl)) (by decide)
              dsimp only [nth] at h5
              have h6 := fact_val (dep_of hd 6 (by kernel_rfl) (by kernel_rfl)) (by decide)
              dsimp only [nth] at h6
              replace hK := hk_val hK (by decide) (by rfl)
              clear hd
              simp only [lay, Act.put, List.setIfInBounds_toArray, List.set_cons_zero, List.set_cons_succ, h5, h6] at hK ⊢
              have hcv := OB.conv (hown3.below hB)
              go_simp
              exact hK.out _ _ rfl (Below.refl _ _)
            refine OpsOK.cons ?_ ?_
            · intro u W K hB hd hK
              have h5 := fact_val (dep_of hd 5 (by kernel_rfl) (by kernel_rfl)) (by decide)
              dsimp only [nth] at h5
              replace hK := hk_val hK (by decide) (by rfl)
              clear hd
              simp only [lay, Act.put, List.setIfInBounds_toArray, List.set_cons_zero, List.set_cons_succ, h5] at hK ⊢
              go_simp
              exact hK.out _ _ rfl (Below.refl _ _)
            refine OpsOK.cons ?_ ?_
            · intro u W K hB hd hK
              have h5 := fact_val (dep_of hd 5 (by kernel_rfl) (by kernel_rfl)) (by decide)
              dsimp only [nth] at h5
              have h8 := fact_val (dep_of hd 8 (by kernel_rfl) (by kernel_rfl)) (by decide)
              dsimp only [nth] at h8
              replace hK := hk_val hK (by decide) (by rfl)
              clear hd
              simp only [lay, Act.put, List.setIfInBounds_toArray, List.set_cons_zero, List.set_cons_succ, h5, h8] at hK ⊢
              have hcv := OB.conv (hown2.below hB)
              go_simp
              exact hK.out _ _ rfl (Below.refl _ _)
            refine OpsOK.cons ?_ ?_
            · intro u W K hB hd hK
              have h5 := fact_val (dep_of hd 5 (by kernel_rfl) (by kernel_rfl)) (by decide)
              dsimp only [nth] at h5
              have h7 := fact_val (dep_of hd 7 (by kernel_rfl) (by kernel_rfl)) (by decide)
              dsimp only [nth] at h7
              have h9 := fact_val (dep_of hd 9 (by kernel_rfl) (by kernel_rfl)) (by decide)
              dsimp only [nth] at h9
              replace hK := hk_val hK (by decide) (by rfl)
              clear hd
              simp only [lay, Act.put, List.setIfInBounds_toArray, List.set_cons_zero, List.set_cons_succ, h5, h7, h9] at hK ⊢
              go_simp
              exact hK.out _ _ rfl (Below.refl _ _)
            refine OpsOK.cons ?_ ?_
            · intro u W K hB hd hK
              have h5 := fact_val (dep_of hd 5 (by kernel_rfl) (by kernel_rfl)) (by decide)
              dsimp only [nth] at h5
              have h10 := fact_val (dep_of hd 10 (by kernel_rfl) (by kernel_rfl)) (by decide)
              dsimp only [nth] at h10
              replace hK := hk_val hK (by decide) (by rfl)
              clear hd
              simp only [lay, Act.put, List.setIfInBounds_toArray, List.set_cons_zero, List.set_cons_succ, h5, h10] at hK ⊢
              go_simp
              exact hK.out _ _ rfl (Below.refl _ _)
            refine OpsOK.cons ?_ ?_
            · intro u W K hB hd hK
              have h5 := fact_val (dep_of hd 5 (by kernel_rfl) (by kernel_rfl)) (by decide)
              dsimp only [nth] at h5
              have h11 := fact_val (dep_of hd 11 (by kernel_rfl) (by kernel_rfl)) (by decide)
              dsimp only [nth] at h11
              replace hK := hk_val hK (by decide) (by rfl)
              clear hd
              simp only [lay, Act.put, List.setIfInBounds_toArray, List.set_cons_zero, List.set_cons_succ, h5, h11] at hK ⊢
              go_simp
              exact hK.out _ _ rfl (Below.refl _ _)
            refine OpsOK.cons ?_ ?_
            · intro u W K hB hd hK
              have h12 := fact_val (dep_of hd 12 (by kernel_rfl) (by kernel_rfl)) (by decide)
              dsimp only [nth] at h12
              replace hK := hk_val hK (by decide) (by rfl)
              clear hd
              simp only [lay, Act.put, List.setIfInBounds_toArray, List.set_cons_zero, List.set_cons_succ, h12] at hK ⊢
              go_simp
              exact hK.out _ _ rfl (Below.refl _ _)
            refine OpsOK.cons ?_ ?_
            · intro u W K hB hd hK
              have h12 := fact_val (dep_of hd 12 (by kernel_rfl) (by kernel_rfl)) (by decide)
              dsimp only [nth] at h12
              replace hK := hk_val hK (by decide) (by rfl)
              clear hd
              simp only [lay, Act.put, List.setIfInBounds_toArray, List.set_cons_zero, List.set_cons_succ, h12] at hK ⊢
              go_simp
              exact hK.out _ _ rfl (Below.refl _ _)
            refine OpsOK.cons ?_ ?_
            · intro u W K hB hd hK
              have h12 := fact_val (dep_of hd 12 (by kernel_rfl) (by kernel_rfl)) (by decide)
              dsimp only [nth] at h12
              have h13 := fact_val (dep_of hd 13 (by kernel_rfl) (by kernel_rfl)) (by decide)
              dsimp only [nth] at h13
              have h14 := fact_val (dep_of hd 14 (by kernel_rfl) (by kernel_rfl)) (by decide)
              dsimp only [nth] at h14
              replace hK := hk_val hK (by decide) (by rfl)
              clear hd
              simp only [lay, Act.put, List.setIfInBounds_toArray, List.set_cons_zero, List.set_cons_succ, h12, h13, h14] at hK ⊢
              go_simp
              exact hK.out _ _ rfl (Below.refl _ _)
            refine OpsOK.cons ?_ ?_
            · intro u W K hB hd hK
              have h12 := fact_val (dep_of hd 12 (by kernel_rfl) (by kernel_rfl)) (by decide)
              dsimp only [nth] at h12
              have h15 := fact_val (dep_of hd 15 (by kernel_rfl) (by kernel_rfl)) (by decide)
              dsimp only [nth] at h15
              replace hK := hk_val hK (by decide) (by rfl)
              clear hd
              simp only [lay, Act.put, List.setIfInBounds_toArray, List.set_cons_zero, List.set_cons_succ, h12, h15] at hK ⊢
              go_simp
              exact hK.out _ _ rfl (Below.refl _ _)
            refine OpsOK.cons ?_ ?_
            · intro u W K hB hd hK
              have h12 := fact_val (dep_of hd 12 (by kernel_rfl) (by kernel_rfl)) (by decide)
              dsimp only [nth] at h12
              have h16 := fact_val (dep_of hd 16 (by kernel_rfl) (by kernel_rfl)) (by decide)
              dsimp only [nth] at h16
              replace hK := hk_val hK (by decide) (by rfl)
              clear hd
              simp only [lay, Act.put, List.setIfInBounds_toArray, List.set_cons_zero, List.set_cons_succ, h12, h16] at hK ⊢
              go_simp
              exact hK.out _ _ rfl (Below.refl _ _)
            refine OpsOK.cons ?_ ?_
            · intro u W K hB hd hK
              have h17 := fact_val (dep_of hd 17 (by kernel_rfl) (by kernel_rfl)) (by decide)
              dsimp only [nth] at h17
              replace hK := hk_val hK (by decide) (by rfl)
              clear hd
              simp only [lay, Act.put, List.setIfInBounds_toArray, List.set_cons_zero, List.set_cons_succ, h17] at hK ⊢
              go_simp
              first
                | (go_at_call 9; (with_reducible refine (may_any s _ j _ ops W (hO2.below hB) hs2).mono ?_); rintro e w1 ⟨rfl, hb⟩; rw [HE.out]; exact hK.out _ _ rfl hb)
                | (go_at_call 10; (with_reducible refine (refmay_any s _ j _ ops W (hO2.below hB) hs2).mono ?_); rintro e w1 ⟨rfl, hb⟩; rw [HE.out]; exact hK.out _ _ rfl hb)
                | (go_at_call 11; (with_reducible refine (awake_any _).mono ?_); rintro e w1 ⟨rfl, hb⟩; exact hK.out _ _ rfl hb)
            refine OpsOK.cons ?_ ?_
            · intro u W K hB hd hK
              have h17 := fact_val (dep_of hd 17 (by kernel_rfl) (by kernel_rfl)) (by decide)
              dsimp only [nth] at h17
              have h18 := fact_val (dep_of hd 18 (by kernel_rfl) (by kernel_rfl)) (by decide)
              dsimp only [nth] at h18
              replace hK := hk_val hK (by decide) (by rfl)
              clear hd
              simp only [lay, Act.put, List.setIfInBounds_toArray, List.set_cons_zero, List.set_cons_succ, h17, h18] at hK ⊢
              go_simp
              exact hK.out _ _ rfl (Below.refl _ _)
            refine OpsOK.cons ?_ ?_
            · intro u W K hB hd hK
              have h18 := fact_val (dep_of hd 18 (by kernel_rfl) (by kernel_rfl)) (by decide)
              dsimp only [nth] at h18
              have h19 := fact_val (dep_of hd 19 (by kernel_rfl) (by kernel_rfl)) (by decide)
              dsimp only [nth] at h19
              replace hK := hk_val hK (by decide) (by rfl)
              clear hd
              simp only [lay, Act.put, List.setIfInBounds_toArray, List.set_cons_zero, List.set_cons_succ, h18, h19] at hK ⊢
              go_simp
              exact hK.out _ _ rfl (Below.refl _ _)
            exact OpsOK.nil
          intro u W hB hf
          have h0 := fact_val (hf 0 (by decide) (by decide)) (by decide)
          dsimp only [nth] at h0
          have h1 := fact_val (hf 1 (by decide) (by decide)) (by decide)
          dsimp only [nth] at h1
          have h2 := fact_val (hf 2 (by decide) (by decide)) (by decide)
          dsimp only [nth] at h2
          have h3 := fact_val (hf 3 (by decide) (by decide)) (by decide)
          dsimp only [nth] at h3
          have h4 := fact_val (hf 4 (by decide) (by decide)) (by decide)
          dsimp only [nth] at h4
          have h5 := fact_val (hf 5 (by decide) (by decide)) (by decide)
          dsimp only [nth] at h5
          have h6 := fact_val (hf 6 (by decide) (by decide)) (by decide)
          dsimp only [nth] at h6
          have h7 := fact_val (hf 7 (by decide) (by decide)) (by decide)
          dsimp only [nth] at h7
          have h8 := fact_val (hf 8 (by decide) (by decide)) (by decide)
          dsimp only [nth] at h8
          have h9 := fact_val (hf 9 (by decide) (by decide)) (by decide)
          dsimp only [nth] at h9
          have h10 := fact_val (hf 10 (by decide) (by decide)) (by decide)
          dsimp only [nth] at h10
          have h11 := fact_val (hf 11 (by decide) (by decide)) (by decide)
          dsimp only [nth] at h11
          have h12 := fact_val (hf 12 (by decide) (by decide)) (by decide)
          dsimp only [nth] at h12
          have h13 := fact_val (hf 13 (by decide) (by decide)) (by decide)
          dsimp only [nth] at h13
          have h14 := fact_val (hf 14 (by decide) (by decide)) (by decide)
          dsimp only [nth] at h14
          have h15 := fact_val (hf 15 (by decide) (by decide)) (by decide)
          dsimp only [nth] at h15
          have h16 := fact_val (hf 16 (by decide) (by decide)) (by decide)
          dsimp only [nth] at h16
          have h17 := fact_val (hf 17 (by decide) (by decide)) (by decide)
          dsimp only [nth] at h17
          have h18 := fact_val (hf 18 (by decide) (by decide)) (by decide)
          dsimp only [nth] at h18
          have h19 := fact_val (hf 19 (by decide) (by decide)) (by decide)
          dsimp only [nth] at h19
          have h20 := fact_val (hf 20 (by decide) (by decide)) (by decide)
          dsimp only [nth] at h20
          clear hf
          simp only [lay, h0, h1, h2, h3, h4, h5, h6, h7, h8, h9, h10, h11, h12, h13, h14, h15, h16, h17, h18, h19, h20]
          clear h0 h1 h2 h3 h4 h5 h6 h7 h8 h9 h10 h11 h12 h13 h14 h15 h16 h17 h18 h19 h20
          go_wp2
          go_ret
          exact ⟨rfl, below_then hB2 hB⟩
        · obtain ⟨S, hS⟩ : ∃ S, S = (((wr.setCell ⟨g, p * 4, none⟩ (.slice (some ⟨wr.heap.size + 1, 0, none⟩) k k)).setCell ⟨g, p * 4 + 1, none⟩ (.bool G)).setCell ⟨g, p * 4 + 2, none⟩ (.int .i64 til)).setCell ⟨g, p * 4 + 3, none⟩ (.slice (some ⟨wr.heap.size, 0, none⟩) v v) := ⟨_, rfl⟩
          obtain ⟨V0, a1, a2, a3, a4, a5⟩ := Many.last (p := p) _ _ G til (by rw [← HP.out]; exact hb) (by rw [← HP.out]; exact hv) (by rw [← HP.out]; exact hr) hB S hS
          have hv1 := (OB.made S w.heap.size v (by rw [a5]; exact hB.size) (by omega)).alloc (.cells (madeCells #[.int .u8 0] k) 5)
          have es : (S.alloc (.cells (madeCells #[.int .u8 0] v) 5)).heap.size = wr.heap.size + 1 := by simp [a5]
          have hk1 := OB.made (S.alloc (.cells (madeCells #[.int .u8 0] v) 5)) w.heap.size k (by rw [es]; omega) (by omega)
          rw [a5] at hv1
          rw [es] at hk1
          have hbel := (below_alloc' (below_alloc' (Below.refl S.heap.size S) (.cells (madeCells #[.int .u8 0] v) 5)) (.cells (madeCells #[.int .u8 0] k) 5)).drew
          have hO := Many.zeros HT.out a2 a3 hbel hk1.drew hv1.drew (by omega)
          rw [← HP.out] at hO a1
          have hb := blk_below hbel a1
          have hB := below_then a4 hbel
          rw [← hS]
          obtain ⟨ops, hops⟩ : ∃ o, o = opsM p ++ [newOp (List.replicate k 0) G til (List.replicate v 0)] := ⟨_, rfl⟩
          rw [← hops] at hO
          clear hS a1 a2 a3 a4 a5 hv1 hk1 es hbel hops
          generalize (((S.alloc (.cells (madeCells #[.int .u8 0] v) 5)).alloc (.cells (madeCells #[.int .u8 0] k) 5)).drew) = wr at *
          have hq0 := box_at hb 0 (.int .i64 s) rfl
          have hq1 := box_at hb 1 (.slice _ j _) rfl
          obtain ⟨E, hE⟩ : ∃ E, mayE s ops = E := ⟨_, rfl⟩
          obtain ⟨X, hX⟩ : ∃ X, encB s ops = X := ⟨_, rfl⟩
          have HE := hid hE
          have HX := hid hX
          clear hE hX
          go_wp2_with (first
            | (go_at_call 7; (with_reducible refine (encode_any s _ j _ ops _ hO hs2).mono ?_); rintro e w1 ⟨v1, rfl, hown1, hb1⟩; rw [HE.out]; rw [HX.out] at hown1; have hbx1 := blk_below hb1 hb; have hq2 := box_at hbx1 0 (.int .i64 s) rfl; have hq3 := box_at hbx1 1 (.slice _ j _) rfl; have hO1 := hO.below hb1; have hB1 := below_then hB hb1)
            | (go_at_call 8; (with_reducible refine (refenc_any s _ j _ ops _ hO1 hs2).mono ?_); rintro e w2 ⟨v2, rfl, hown2, hb2⟩; rw [HE.out]; rw [HX.out] at hown2; have hbx2 := blk_below hb2 hbx1; have hO2 := hO1.below hb2; have hB2 := below_then hB1 hb2; have hown3 := hown1.below hb2))
          clear hq0 hq1 hq2 hq3 hO hO1 hb hbx1 hB hB1 hown1 hb1 hb2
          apply wp_region_txt [none, none, none, none, none, none, none, none, none, none, none, none, some 20, none, none, none, none, none, none, none, none, none, none, none, none, none, none, none, none, none, none, none, none, none, none, none, none, none, none, none, none, none, none, none, none, none, none, none, none, none, none, none, none, none, none, none, none, none, none, none, none, none, none, none, none, none, none, none, none, none, none, none, none, none, some 0, some 1, some 2, some 3, some 4, some 5, some 6, some 7, some 8, some 9, some 10, some 11, some 12, some 13, some 14, some 15, some 16, some 17, some 18, some 19] [] [] [_, _, _, _, _, _, _, _, _, _, _, _, _, _, _, _, _, _, _, _, _] [[], [], [], [], [], [], [], [], [], [], [], [], [], [], [], [], [], [], [], [], []]
          case hm => rfl
          case hs => rfl
          case hst => kernel_rfl
          case hput => exact OpsOK.cons (fun _ _ => rfl) (OpsOK.cons (fun _ _ => rfl) (OpsOK.cons (fun _ _ => rfl) (OpsOK.cons (fun _ _ => rfl) (OpsOK.cons (fun _ _ => rfl) (OpsOK.cons (fun _ _ => rfl) (OpsOK.cons (fun _ _ => rfl) (OpsOK.cons (fun _ _ => rfl) (OpsOK.cons (fun _ _ => rfl) (OpsOK.cons (fun _ _ => rfl) (OpsOK.cons (fun _ _ => rfl) (OpsOK.cons (fun _ _ => rfl) (OpsOK.cons (fun _ _ => rfl) (OpsOK.cons (fun _ _ => rfl) (OpsOK.cons (fun _ _ => rfl) (OpsOK.cons (fun _ _ => rfl) (OpsOK.cons (fun _ _ => rfl) (OpsOK.cons (fun _ _ => rfl) (OpsOK.cons (fun _ _ => rfl) (OpsOK.cons (fun _ _ => rfl) (OpsOK.cons (fun _ _ => rfl) (OpsOK.nil)))))))))))))))))))))
          case hops =>
            refine OpsOK.cons ?_ ?_
            · intro u W K hB hd hK
              replace hK := hk_val hK (by decide) (by rfl)
              clear hd
              simp only [lay, Act.put, List.setIfInBounds_toArray, List.set_cons_zero, List.set_cons_succ] at hK ⊢
              have q0 := box_at (blk_below hB hbx2) 0 (.int .i64 s) rfl
              have q1 := box_at (blk_below hB hbx2) 1 (.slice _ j _) rfl
              go_simp
              exact hK.out _ _ rfl (Below.refl _ _)
            refine OpsOK.cons ?_ ?_
            · intro u W K hB hd hK
              have h0 := fact_val (dep_of hd 0 (by kernel_rfl) (by kernel_rfl)) (by decide)
              dsimp only [nth] at h0
              replace hK := hk_val hK (by decide) (by rfl)
              clear hd
              simp only [lay, Act.put, List.setIfInBounds_toArray, List.set_cons_zero, List.set_cons_succ, h0] at hK ⊢
              go_simp
              first
                | (go_at_call 9; (with_reducible refine (may_any s _ j _ ops W (hO2.below hB) hs2).mono ?_); rintro e w1 ⟨rfl, hb⟩; rw [HE.out]; exact hK.out _ _ rfl hb)
                | (go_at_call 10; (with_reducible refine (refmay_any s _ j _ ops W (hO2.below hB) hs2).mono ?_); rintro e w1 ⟨rfl, hb⟩; rw [HE.out]; exact hK.out _ _ rfl hb)
                | (go_at_call 11; (with_reducible refine (awake_any _).mono ?_); rintro e w1 ⟨rfl, hb⟩; exact hK.out _ _ rfl hb)
            refine OpsOK.cons ?_ ?_
            · intro u W K hB hd hK
              replace hK := hk_val hK (by decide) (by rfl)
              clear hd
              simp only [lay, Act.put, List.setIfInBounds_toArray, List.set_cons_zero, List.set_cons_succ] at hK ⊢
              have q0 := box_at (blk_below hB hbx2) 0 (.int .i64 s) rfl
              have q1 := box_at (blk_below hB hbx2) 1 (.slice _ j _) rfl
              go_simp
              exact hK.out _ _ rfl (Below.refl _ _)
            refine OpsOK.cons ?_ ?_
            · intro u W K hB hd hK
              have h1 := fact_val (dep_of hd 1 (by kernel_rfl) (by kernel_rfl)) (by decide)
              dsimp only [nth] at h1
              have h2 := fact_val (dep_of hd 2 (by kernel_rfl) (by kernel_rfl)) (by decide)
              dsimp only [nth] at h2
              replace hK := hk_val hK (by decide) (by rfl)
              clear hd
              simp only [lay, Act.put, List.setIfInBounds_toArray, List.set_cons_zero, List.set_cons_succ, h1, h2] at hK ⊢
              go_simp
              first
                | (go_at_call 9; (with_reducible refine (may_any s _ j _ ops W (hO2.below hB) hs2).mono ?_); rintro e w1 ⟨rfl, hb⟩; rw [HE.out]; exact hK.out _ _ rfl hb)
                | (go_at_call 10; (with_reducible refine (refmay_any s _ j _ ops W (hO2.below hB) hs2).mono ?_); rintro e w1 ⟨rfl, hb⟩; rw [HE.out]; exact hK.out _ _ rfl hb)
                | (go_at_call 11; (with_reducible refine (awake_any _).mono ?_); rintro e w1 ⟨rfl, hb⟩; exact hK.out _ _ rfl hb)
            refine OpsOK.cons ?_ ?_
            · intro u W K hB hd hK
              have h1 := fact_val (dep_of hd 1 (by kernel_rfl) (by kernel_rfl)) (by decide)
              dsimp only [nth] at h1
              have h3 := fact_val (dep_of hd 3 (by kernel_rfl) (by kernel_rfl)) (by decide)
              dsimp only [nth] at h3
              replace hK := hk_val hK (by decide) (by rfl)
              clear hd
              simp only [lay, Act.put, List.setIfInBounds_toArray, List.set_cons_zero, List.set_cons_succ, h1, h3] at hK ⊢
              go_simp
              exact hK.out _ _ rfl (Below.refl _ _)
            refine OpsOK.cons ?_ ?_
            · intro u W K hB hd hK
              have h3 := fact_val (dep_of hd 3 (by kernel_rfl) (by kernel_rfl)) (by decide)
              dsimp only [nth] at h3
              have h4 := fact_val (dep_of hd 4 (by kernel_rfl) (by kernel_rfl)) (by decide)
              dsimp only [nth] at h4
              replace hK := hk_val hK (by decide) (by rfl)
              clear hd
              simp only [lay, Act.put, List.setIfInBounds_toArray, List.set_cons_zero, List.set_cons_succ, h3, h4] at hK ⊢
              go_simp
              exact hK.out _ _ rfl (Below.refl _ _)
            refine OpsOK.cons ?_ ?_
            · intro u W K hB hd hK
              have h5 := fact_val (dep_of hd 5 (by kernel_rfl) (by kernel_rfl)) (by decide)
              dsimp only [nth] at h5
              replace hK := hk_val hK (by decide) (by rfl)
              clear hd
              simp only [lay, Act.put, List.setIfInBounds_toArray, List.set_cons_zero, List.set_cons_succ, h5] at hK ⊢
              go_simp
              exact hK.out _ _ rfl (Below.refl _ _)
            refine OpsOK.cons ?_ ?_
            · intro u W K hB hd hK
              have h5 := fact_val (dep_of hd 5 (by kernel_rfl) (by kernel_rfl)) (by decide)
              dsimp only [nth] at h5
              have h6 := fact_val (dep_of hd 6 (by kernel_rfl) (by kernel_rfl)) (by decide)
              dsimp only [nth] at h6
              replace hK := hk_val hK (by decide) (by rfl)
              clear hd
              simp only [lay, Act.put, List.setIfInBounds_toArray, List.set_cons_zero, List.set_cons_succ, h5, h6] at hK ⊢
              have hcv := OB.conv (hown3.below hB)
              go_simp
              exact hK.out _ _ rfl (Below.refl _ _)
            refine OpsOK.cons ?_ ?_
            · intro u W K hB hd hK
              have h5 := fact_val (dep_of hd 5 (by kernel_rfl) (by kernel_rfl)) (by decide)
              dsimp only [nth] at h5
              replace hK := hk_val hK (by decide) (by rfl)
              clear hd
              simp only [lay, Act.put, List.setIfInBounds_toArray, List.set_cons_zero, List.set_cons_succ, h5] at hK ⊢
              go_simp
              exact hK.out _ _ rfl (Below.refl _ _)
            refine OpsOK.cons ?_ ?_
            · intro u W K hB hd hK
              have h5 := fact_val (dep_of hd 5 (by kernel_rfl) (by kernel_rfl)) (by decide)
              dsimp only [nth] at h5
              have h8 := fact_val (dep_of hd 8 (by kernel_rfl) (by kernel_rfl)) (by decide)
              dsimp only [nth] at h8
              replace hK := hk_val hK (by decide) (by rfl)
              clear hd
              simp only [lay, Act.put, List.setIfInBounds_toArray, List.set_cons_zero, List.set_cons_succ, h5, h8] at hK ⊢
              have hcv := OB.conv (hown2.below hB)
              go_simp
              exact hK.out _ _ rfl (Below.refl _ _)
            refine OpsOK.cons ?_ ?_
            · intro u W K hB hd hK
              have h5 := fact_val (dep_of hd 5 (by kernel_rfl) (by kernel_rfl)) (by decide)
              dsimp only [nth] at h5
              have h7 := fact_val (dep_of hd 7 (by kernel_rfl) (by kernel_rfl)) (by decide)
              dsimp only [nth] at h7
              have h9 := fact_val (dep_of hd 9 (by kernel_rfl) (by kernel_rfl)) (by decide)
              dsimp only [nth] at h9
              replace hK := hk_val hK (by decide) (by rfl)
              clear hd
              simp only [lay, Act.put, List.setIfInBounds_toArray, List.set_cons_zero, List.set_cons_succ, h5, h7, h9] at hK ⊢
              go_simp
              exact hK.out _ _ rfl (Below.refl _ _)
            refine OpsOK.cons ?_ ?_
            · intro u W K hB hd hK
              have h5 := fact_val (dep_of hd 5 (by kernel_rfl) (by kernel_rfl)) (by decide)
              dsimp only [nth] at h5
              have h10 := fact_val (dep_of hd 10 (by kernel_rfl) (by kernel_rfl)) (by decide)
              dsimp only [nth] at h10
              replace hK := hk_val hK (by decide) (by rfl)
              clear hd
              simp only [lay, Act.put, List.setIfInBounds_toArray, List.set_cons_zero, List.set_cons_succ, h5, h10] at hK ⊢
              go_simp
              exact hK.out _ _ rfl (Below.refl _ _)
            refine OpsOK.cons ?_ ?_
            · intro u W K hB hd hK
              have h5 := fact_val (dep_of hd 5 (by kernel_rfl) (by kernel_rfl)) (by decide)
              dsimp only [nth] at h5
              have h11 := fact_val (dep_of hd 11 (by kernel_rfl) (by kernel_rfl)) (by decide)
              dsimp only [nth] at h11
              replace hK := hk_val hK (by decide) (by rfl)
              clear hd
              simp only [lay, Act.put, List.setIfInBounds_toArray, List.set_cons_zero, List.set_cons_succ, h5, h11] at hK ⊢
              go_simp
              exact hK.out _ _ rfl (Below.refl _ _)
            refine OpsOK.cons ?_ ?_
            · intro u W K hB hd hK
              have h12 := fact_val (dep_of hd 12 (by kernel_rfl) (by kernel_rfl)) (by decide)
              dsimp only [nth] at h12
              replace hK := hk_val hK (by decide) (by rfl)
              clear hd
              simp only [lay, Act.put, List.setIfInBounds_toArray, List.set_cons_zero, List.set_cons_succ, h12] at hK ⊢
              go_simp
              exact hK.out _ _ rfl (Below.refl _ _)
            refine OpsOK.cons ?_ ?_
            · intro u W K hB hd hK
              have h12 := fact_val (dep_of hd 12 (by kernel_rfl) (by kernel_rfl)) (by decide)
              dsimp only [nth] at h12
              replace hK := hk_val hK (by decide) (by rfl)
              clear hd
              simp only [lay, Act.put, List.setIfInBounds_toArray, List.set_cons_zero, List.set_cons_succ, h12] at hK ⊢
              go_simp
              exact hK.out _ _ rfl (Below.refl _ _)
            refine OpsOK.cons ?_ ?_
            · intro u W K hB hd hK
              have h12 := fact_val (dep_of hd 12 (by kernel_rfl) (by kernel_rfl)) (by decide)
              dsimp only [nth] at h12
              have h13 := fact_val (dep_of hd 13 (by kernel_rfl) (by kernel_rfl)) (by decide)
              dsimp only [nth] at h13
              have h14 := fact_val (dep_of hd 14 (by kernel_rfl) (by kernel_rfl)) (by decide)
              dsimp only [nth] at h14
              replace hK := hk_val hK (by decide) (by rfl)
              clear hd
              simp only [lay, Act.put, List.setIfInBounds_toArray, List.set_cons_zero, List.set_cons_succ, h12, h13, h14] at hK ⊢
              go_simp
              exact hK.out _ _ rfl (Below.refl _ _)
            refine OpsOK.cons ?_ ?_
            · intro u W K hB hd hK
              have h12 := fact_val (dep_of hd 12 (by kernel_rfl) (by kernel_rfl)) (by decide)
              dsimp only [nth] at h12
              have h15 := fact_val (dep_of hd 15 (by kernel_rfl) (by kernel_rfl)) (by decide)
              dsimp only [nth] at h15
              replace hK := hk_val hK (by decide) (by rfl)
              clear hd
              simp only [lay, Act.put, List.setIfInBounds_toArray, List.set_cons_zero, List.set_cons_succ, h12, h15] at hK ⊢
              go_simp
              exact hK.out _ _ rfl (Below.refl _ _)
            refine OpsOK.cons ?_ ?_
            · intro u W K hB hd hK
              have h12 := fact_val (dep_of hd 12 (by kernel_rfl) (by kernel_rfl)) (by decide)
              dsimp only [nth] at h12
              have h16 := fact_val (dep_of hd 16 (by kernel_rfl) (by kernel_rfl)) (by decide)
              dsimp only [nth] at h16
              replace hK := hk_val hK (by decide) (by rfl)
              clear hd
              simp only [lay, Act.put, List.setIfInBounds_toArray, List.set_cons_zero, List.set_cons_succ, h12, h16] at hK ⊢
              go_simp
              exact hK.out _ _ rfl (Below.refl _ _)
            refine OpsOK.cons ?_ ?_
            · intro u W K hB hd hK
              have h17 := fact_val (dep_of hd 17 (by kernel_rfl) (by kernel_rfl)) (by decide)
              dsimp only [nth] at h17
              replace hK := hk_val hK (by decide) (by rfl)
              clear hd
              simp only [lay, Act.put, List.setIfInBounds_toArray, List.set_cons_zero, List.set_cons_succ, h17] at hK ⊢
              go_simp
              first
                | (go_at_call 9; (with_reducible refine (may_any s _ j _ ops W (hO2.below hB) hs2).mono ?_); rintro e w1 ⟨rfl, hb⟩; rw [HE.out]; exact hK.out _ _ rfl hb)
                | (go_at_call 10; (with_reducible refine (refmay_any s _ j _ ops W (hO2.below hB) hs2).mono ?_); rintro e w1 ⟨rfl, hb⟩; rw [HE.out]; exact hK.out _ _ rfl hb)
                | (go_at_call 11; (with_reducible refine (awake_any _).mono ?_); rintro e w1 ⟨rfl, hb⟩; exact hK.out _ _ rfl hb)
            refine OpsOK.cons ?_ ?_
            · intro u W K hB hd hK
              have h17 := fact_val (dep_of hd 17 (by kernel_rfl) (by kernel_rfl)) (by decide)
              dsimp only [nth] at h17
              have h18 := fact_val (dep_of hd 18 (by kernel_rfl) (by kernel_rfl)) (by decide)
              dsimp only [nth] at h18
              replace hK := hk_val hK (by decide) (by rfl)
              clear hd
              simp only [lay, Act.put, List.setIfInBounds_toArray, List.set_cons_zero, List.set_cons_succ, h17, h18] at hK ⊢
              go_simp
              exact hK.out _ _ rfl (Below.refl _ _)
            refine OpsOK.cons ?_ ?_
            · intro u W K hB hd hK
              have h18 := fact_val (dep_of hd 18 (by kernel_rfl) (by kernel_rfl)) (by decide)
              dsimp only [nth] at h18
              have h19 := fact_val (dep_of hd 19 (by kernel_rfl) (by kernel_rfl)) (by decide)
              dsimp only [nth] at h19
              replace hK := hk_val hK (by decide) (by rfl)
              clear hd
              simp only [lay, Act.put, List.setIfInBounds_toArray, List.set_cons_zero, List.set_cons_succ, h18, h19] at hK ⊢
              go_simp
              exact hK.out _ _ rfl (Below.refl _ _)
            exact OpsOK.nil
          intro u W hB hf
          have h0 := fact_val (hf 0 (by decide) (by decide)) (by decide)
          dsimp only [nth] at h0
          have h1 := fact_val (hf 1 (by decide) (by decide)) (by decide)
          dsimp only [nth] at h1
          have h2 := fact_val (hf 2 (by decide) (by decide)) (by decide)
          dsimp only [nth] at h2
          have h3 := fact_val (hf 3 (by decide) (by decide)) (by decide)
          dsimp only [nth] at h3
          have h4 := fact_val (hf 4 (by decide) (by decide)) (by decide)
          dsimp only [nth] at h4
          have h5 := fact_val (hf 5 (by decide) (by decide)) (by decide)
          dsimp only [nth] at h5
          have h6 := fact_val (hf 6 (by decide) (by decide)) (by decide)
          dsimp only [nth] at h6
          have h7 := fact_val (hf 7 (by decide) (by decide)) (by decide)
          dsimp only [nth] at h7
          have h8 := fact_val (hf 8 (by decide) (by decide)) (by decide)
          dsimp only [nth] at h8
          have h9 := fact_val (hf 9 (by decide) (by decide)) (by decide)
          dsimp only [nth] at h9
          have h10 := fact_val (hf 10 (by decide) (by decide)) (by decide)
          dsimp only [nth] at h10
          have h11 := fact_val (hf 11 (by decide) (by decide)) (by decide)
          dsimp only [nth] at h11
          have h12 := fact_val (hf 12 (by decide) (by decide)) (by decide)
          dsimp only [nth] at h12
          have h13 := fact_val (hf 13 (by decide) (by decide)) (by decide)
          dsimp only [nth] at h13
          have h14 := fact_val (hf 14 (by decide) (by decide)) (by decide)
          dsimp only [nth] at h14
          have h15 := fact_val (hf 15 (by decide) (by decide)) (by decide)
          dsimp only [nth] at h15
          have h16 := fact_val (hf 16 (by decide) (by decide)) (by decide)
          dsimp only [nth] at h16
          have h17 := fact_val (hf 17 (by decide) (by decide)) (by decide)
          dsimp only [nth] at h17
          have h18 := fact_val (hf 18 (by decide) (by decide)) (by decide)
          dsimp only [nth] at h18
          have h19 := fact_val (hf 19 (by decide) (by decide)) (by decide)
          dsimp only [nth] at h19
          have h20 := fact_val (hf 20 (by decide) (by decide)) (by decide)
          dsimp only [nth] at h20
          clear hf
          simp only [lay, h0, h1, h2, h3, h4, h5, h6, h7, h8, h9, h10, h11, h12, h13, h14, h15, h16, h17, h18, h19, h20]
          clear h0 h1 h2 h3 h4 h5 h6 h7 h8 h9 h10 h11 h12 h13 h14 h15 h16 h17 h18 h19 h20
          go_wp2
          go_ret
          exact ⟨rfl, below_then hB2 hB⟩
end Go.Proofs.Ytdhmonomhifkkaa
