/- Layer 14: as many lines and numbers as may be, and more: the walk of the statement. -/
import Derived.Test.YthiolcccgiibhaaEdBk
namespace Go.Proofs.Ythiolcccgiibhaa
open Go.RowKit
set_option linter.unusedVariables false
set_option linter.unusedSimpArgs false

def tabsM : Nat → List TabR
  | 0 => []
  | k + 1 => tabsM k ++ [mkTab ((k : Int) + 1) 0 1 [97] [98]]
def numsM : Nat → List Int
  | 0 => []
  | k + 1 => numsM k ++ [(k : Int) + 1]
theorem tabsM_len : ∀ k, (tabsM k).length = k := by
  intro k
  induction k with
  | zero => rfl
  | succ k ih => rw [tabsM, List.length_append, ih]; rfl
theorem numsM_len : ∀ k, (numsM k).length = k := by
  intro k
  induction k with
  | zero => rfl
  | succ k ih => rw [numsM, List.length_append, ih]; rfl
/-- A byte that stands in the program's text, as a slice. -/
def LB (w : World) (v : Value) (x : UInt8) : Prop := ∃ g, v = .slice (some ⟨g, 0, none⟩) 1 1 ∧ w.heap[g]? = some (.cells #[.int .u8 (x.toNat : Int)] 5 (1, 2))
theorem LB.below {w w' : World} {v : Value} {x : UInt8} (h : LB w v x) (hb : Below w.heap.size w w') : LB w' v x := by
  obtain ⟨g, e, hg⟩ := h
  exact ⟨g, e, blk_below hb hg⟩
theorem LB.grown {w w' : World} {v u : Value} {x : UInt8} {base size : Nat} {e : TypeId} {V : List (List Value)} (h : LB w v x) (hg : w.grownBy w' u.ownBlock) (hu : OV w base e size u V) (he : 5 ≠ e) : LB w' v x := by
  obtain ⟨g, e1, hb⟩ := h
  exact ⟨g, e1, blk_grown' hg hb (hu.ne_blk hb he)⟩
theorem LB.setT {w w' : World} {v : Value} {x : UInt8} {b : Nat} {cs : Array Value} {T : TypeId} {fr : Nat × Nat} (h : LB w v x) (hg : w.grownBy w' (some b)) (hb : w.heap[b]? = some (.cells cs T fr)) (hT : T ≠ 5) : LB w' v x := by
  obtain ⟨g, e1, hh⟩ := h
  exact ⟨g, e1, blk_grown' hg hh (fun e => blk_ne hb hh hT (Option.some.inj e))⟩
theorem LB.rb {w : World} {v : Value} {x : UInt8} (h : LB w v x) : ∃ A, v = .slice A 1 1 ∧ RB w A 1 [x] := by
  obtain ⟨g, e1, hh⟩ := h
  refine ⟨_, e1, RB.blk hh (fun j hj => ?_) (by simp)⟩
  obtain rfl : j = 0 := by simpa using hj
  rfl
def PTL (w : World) (x : List Value) (t : TabR) : Prop :=
  ∃ lv mv a b, x = [.int .i64 (tNum t), .int .i64 (tLev t), .int .i64 (tSize t), lv, mv] ∧ LB w lv a ∧ LB w mv b ∧ tLeast t = [a] ∧ tMost t = [b] ∧ (Lit.int .i64 (tNum t)).wf = true ∧ (Lit.int .i64 (tLev t)).wf = true ∧ (Lit.int .i64 (tSize t)).wf = true
theorem PTL.grown {w w' : World} {base size : Nat} {e : TypeId} {v : Value} {V : List (List Value)} {x : List Value} {t : TabR} (h : PTL w x t) (hg : w.grownBy w' v.ownBlock) (hv : OV w base e size v V) (he : 5 ≠ e) : PTL w' x t := by
  obtain ⟨lv, mv, a, b, hx, h1, h2, h3⟩ := h
  exact ⟨lv, mv, a, b, hx, h1.grown hg hv he, h2.grown hg hv he, h3⟩
theorem PTL.setT {w w' : World} {b : Nat} {cs : Array Value} {T : TypeId} {fr : Nat × Nat} {x : List Value} {t : TabR} (h : PTL w x t) (hg : w.grownBy w' (some b)) (hb : w.heap[b]? = some (.cells cs T fr)) (hT : T ≠ 5) : PTL w' x t := by
  obtain ⟨lv, mv, a, b, hx, h1, h2, h3⟩ := h
  exact ⟨lv, mv, a, b, hx, h1.setT hg hb hT, h2.setT hg hb hT, h3⟩
theorem PTL.below {w w' : World} {x : List Value} {t : TabR} (h : PTL w x t) (hg : Below w.heap.size w w') : PTL w' x t := by
  obtain ⟨lv, mv, a, b, hx, h1, h2, h3⟩ := h
  exact ⟨lv, mv, a, b, hx, h1.below hg, h2.below hg, h3⟩
theorem RTabsL_of_OV {w : World} {base : Nat} {v : Value} {V : List (List Value)} {ts : List TabR} (h : OV w base 24 5 v V) (hr : RelV noTab (PTL w) V ts) (hm : ts.length ≤ 9223372036854775807) :
    ∃ A c, v = .slice A ts.length c ∧ ts.length ≤ c ∧ RTabs w A ts.length ts := by
  have hl := hr.1
  rcases Nat.eq_zero_or_pos V.length with h0 | h0
  · obtain ⟨A, c, rfl, hc⟩ := h.open_
    rw [hl] at hc ⊢
    exact ⟨A, c, rfl, hc, rfl, hm, fun hn => absurd hn (by omega)⟩
  · obtain ⟨g, c, rfl, _, _, hc⟩ := h.form h0
    rw [hl] at hc
    refine ⟨_, c, by rw [hl], hc, rfl, hm, fun hn => ⟨_, rfl, fun j hj => ?_⟩⟩
    obtain ⟨lv, mv, a, b, hx, h1, h2, e1, e2, w1, w2, w3⟩ := hr.2 j (by omega)
    obtain ⟨Ak, rfl, hrk⟩ := h1.rb
    obtain ⟨Av, rfl, hrv⟩ := h2.rb
    have hc4 := fun i hi => h.cell (j := j) (i := i) (by omega) hi
    rw [add_plain, Nat.zero_add]
    refine ⟨Ak, 1, 1, Av, 1, 1, ?_, ?_, ?_, ?_, ?_, by rw [e1]; exact hrk, Nat.le_refl _, by rw [e2]; exact hrv, Nat.le_refl _, w1, w2, w3⟩
    · have := hc4 0 (by omega); rw [hx] at this; exact this
    · have := hc4 1 (by omega); rw [hx] at this; exact this
    · have := hc4 2 (by omega); rw [hx] at this; exact this
    · have := hc4 3 (by omega); rw [hx] at this; exact this
    · have := hc4 4 (by omega); rw [hx] at this; exact this
/-- What the making of the edit holds: its box, its rows. -/
def ME (w wr : World) (ts : List TabR) (zs : List Int) (n m : Nat) (A : Option Addr) (c : Nat) (V : List (List Value)) (Az : Option Addr) (cz : Nat) : Prop :=
  wr.heap[w.heap.size]? = some (.cells #[.int .i64 0, .int .i64 0, .int .i64 0, .slice A n c, .slice Az m cz] 30 (0, 0)) ∧ (OV wr w.heap.size 24 5 (.slice A n c) V ∧ RelV noTab (PTL wr) V ts ∧ ts.length = n) ∧
    (OV wr w.heap.size 2 1 (.slice Az m cz) (zcells zs) ∧ zs.length = m ∧ ∀ j, j < zs.length → (Lit.int .i64 (elt 0 zs j)).wf = true) ∧ Below w.heap.size w wr
def MEx (w wr : World) (ts : List TabR) (zs : List Int) (n m : Nat) : Prop := ∃ A c V Az cz, ME w wr ts zs n m A c V Az cz
section
variable {w wr w1 : World} {ts : List TabR} {zs : List Int} {n m : Nat} {A : Option Addr} {c : Nat} {V : List (List Value)} {Az : Option Addr} {cz : Nat}
theorem ME.start : ME w (w.alloc (.cells #[.int .i64 0, .int .i64 0, .int .i64 0, .slice none 0 0, .slice none 0 0] 30)) [] [] 0 0 none 0 [] none 0 :=
  ⟨heap_alloc_new w _, ⟨OV.nil _ _ _ _, RelV.nil, rfl⟩, ⟨OV.nil _ _ _ _, rfl, fun j h => absurd h (by simp)⟩, below_alloc' (Below.refl _ _) _⟩
theorem ME.below (h : ME w wr ts zs n m A c V Az cz) (hb : Below wr.heap.size wr w1) : ME w w1 ts zs n m A c V Az cz := by
  obtain ⟨h1, ⟨h2, h3, h4⟩, ⟨h5, h6, h7⟩, h8⟩ := h
  exact ⟨blk_below hb h1, ⟨h2.below hb, h3.mono fun x a hx => hx.below hb, h4⟩, ⟨h5.below hb, h6, h7⟩, below_then h8 hb⟩
theorem ME.pushT {B : Option Addr} {c' : Nat} {t : TabR} {lv mv : Value} {a b : UInt8} (h : ME w wr ts zs n m A c V Az cz) (hg : wr.grownBy w1 (Value.slice A n c).ownBlock)
    (hv' : OV w1 w.heap.size 24 5 (.slice B (n + 1) c') (V ++ [[.int .i64 (tNum t), .int .i64 (tLev t), .int .i64 (tSize t), lv, mv]])) (hl : LB wr lv a) (hm : LB wr mv b) (hla : tLeast t = [a]) (hmb : tMost t = [b]) (hw1 : (Lit.int .i64 (tNum t)).wf = true) (hw2 : (Lit.int .i64 (tLev t)).wf = true) (hw3 : (Lit.int .i64 (tSize t)).wf = true) :
    MEx w (w1.setCell ⟨w.heap.size, 3, none⟩ (.slice B (n + 1) c')) (ts ++ [t]) zs (n + 1) m := by
  obtain ⟨hb2, ⟨hv, hrel, hn⟩, ⟨hzv, hzl, hzw⟩, hB⟩ := h
  have hB1 := hB.grown hg hB.size hv.base_
  have hb21 := blk_grown' hg hb2 (hv.ne_blk hb2 (by decide))
  have hzv1 := hzv.other hg (own_type_ne hzv.1 hv.1 (by decide))
  have hrel1 : RelV noTab (PTL w1) (V ++ [[.int .i64 (tNum t), .int .i64 (tLev t), .int .i64 (tSize t), lv, mv]]) (ts ++ [t]) :=
    (hrel.mono fun x a hx => hx.grown hg hv (by decide)).snoc ⟨_, _, _, _, rfl, hl.grown hg hv (by decide), hm.grown hg hv (by decide), hla, hmb, hw1, hw2, hw3⟩
  have hgs := grown_set w1 w.heap.size 3 (.slice B (n + 1) c')
  exact ⟨B, c', _, Az, cz, heap_setCell_same w1 _ 3 _ _ _ hb21, ⟨hv'.other hgs (.inr (hv'.ne_blk hb21 (by decide))), hrel1.mono fun x a hx => hx.setT hgs hb21 (by decide), by simp [hn]⟩, ⟨hzv1.other hgs (.inr (hzv1.ne_blk hb21 (by decide))), hzl, hzw⟩, hB1.setCell (Nat.le_refl _) _⟩
theorem ME.pushZ {B : Option Addr} {c' : Nat} {z : Int} (h : ME w wr ts zs n m A c V Az cz) (hg : wr.grownBy w1 (Value.slice Az m cz).ownBlock)
    (hv' : OV w1 w.heap.size 2 1 (.slice B (m + 1) c') (zcells zs ++ [[.int .i64 z]])) (hw1 : (Lit.int .i64 z).wf = true) :
    MEx w (w1.setCell ⟨w.heap.size, 4, none⟩ (.slice B (m + 1) c')) ts (zs ++ [z]) n (m + 1) := by
  obtain ⟨hb2, ⟨hv, hrel, hn⟩, ⟨hzv, hzl, hzw⟩, hB⟩ := h
  have hB1 := hB.grown hg hB.size hzv.base_
  have hb21 := blk_grown' hg hb2 (hzv.ne_blk hb2 (by decide))
  have hv1 := hv.other hg (own_type_ne hv.1 hzv.1 (by decide))
  have hrel1 := hrel.mono fun x a hx => PTL.grown hx hg hzv (by decide)
  have hgs := grown_set w1 w.heap.size 4 (.slice B (m + 1) c')
  rw [zcells_snoc] at hv'
  refine ⟨A, c, V, B, c', heap_setCell_same w1 _ 4 _ _ _ hb21, ⟨hv1.other hgs (.inr (hv1.ne_blk hb21 (by decide))), hrel1.mono fun x a hx => hx.setT hgs hb21 (by decide), hn⟩, ⟨hv'.other hgs (.inr (hv'.ne_blk hb21 (by decide))), by simp [hzl], fun j hj => ?_⟩, hB1.setCell (Nat.le_refl _) _⟩
  by_cases hj2 : j < zs.length
  · rw [elt_left' _ _ _ hj2]; exact hzw j hj2
  · rw [List.length_append, List.length_singleton] at hj
    rw [elt_right' _ _ _ (by omega), show j - zs.length = 0 by omega]; exact hw1
theorem split_lastV {V : List (List Value)} {p : Nat} (h : V.length = p + 1) : ∃ V0, V0.length = p ∧ V = V0 ++ [elt [] V p] := by
  refine ⟨V.take p, by simp; omega, ?_⟩
  rw [← take_succ_elt [] (by omega), List.take_of_length_le (by omega)]
/-- The last line with another number. -/
theorem ME.lastT {g p : Nat} (h : ME w wr ts zs (p + 1) m (some ⟨g, 0, none⟩) c V Az cz) (z : Int) (hz : (Lit.int .i64 z).wf = true) : ∃ V', ∃ t : TabR, ME w (wr.setCell ⟨g, p * 5, none⟩ (.int .i64 z)) (ts.take p ++ [t]) zs (p + 1) m (some ⟨g, 0, none⟩) c V' Az cz := by
  obtain ⟨hb2, ⟨hv, hrel, hn⟩, ⟨hzv, hzl, hzw⟩, hB⟩ := h
  have hl : V.length = p + 1 := by rw [hrel.1, hn]
  obtain ⟨V0, hl0, hV⟩ := split_lastV hl
  obtain ⟨lv, mv, a, b, hx, k1, k2, e1, e2, w1, w2, w3⟩ := hrel.2 p (by omega)
  rw [hx] at hV
  subst hV
  generalize elt noTab ts p = t at *
  have hgs := grown_set wr g (p * 5) (.int .i64 z)
  obtain ⟨cur, hblk⟩ := hv.blk
  have hgb := hv.base_ g rfl
  have hne : g ≠ w.heap.size := blk_ne hblk hb2 (by decide)
  refine ⟨V0 ++ [[.int .i64 z, .int .i64 (tLev t), .int .i64 (tSize t), lv, mv]], mkTab z (tLev t) (tSize t) (tLeast t) (tMost t), blk_grown' hgs hb2 (fun e => hne (Option.some.inj e)), ⟨⟨?_, ?_⟩, ?_, ?_⟩, ⟨hzv.other hgs (.inr (hzv.ne_blk hblk (by decide))), hzl, hzw⟩, hB.grown hgs hB.size (fun k hk => by cases hk; exact hgb)⟩
  · have h0 := hv.1
    rw [hl] at h0
    have h1 := (World.ownsRow.stored h0 (p * 5) (.int .i64 z)).1
    have hfl : V0.flatten.length = p * 5 := by rw [flat_len V0 (fun x hx => hv.2 x (by simp [hx])), hl0]
    have e : ((V0 ++ [[.int .i64 (tNum t), .int .i64 (tLev t), .int .i64 (tSize t), lv, mv]]).flatten.set (p * 5) (.int .i64 z)) = (V0 ++ [[.int .i64 z, .int .i64 (tLev t), .int .i64 (tSize t), lv, mv]]).flatten := by
      rw [List.flatten_append, List.flatten_append, ← hfl]
      simp [List.set_append_right]
    rw [e] at h1
    have hl2 : (V0 ++ [[Value.int .i64 z, .int .i64 (tLev t), .int .i64 (tSize t), lv, mv]]).length = p + 1 := by simp [hl0]
    rw [hl2]
    exact h1
  · intro x hx
    rcases List.mem_append.1 hx with hx | hx
    · exact hv.2 x (by simp [hx])
    · rw [List.mem_singleton] at hx; subst hx; rfl
  · have hr0 : RelV noTab (PTL (wr.setCell ⟨g, p * 5, none⟩ (.int .i64 z))) V0 (ts.take p) := by
      refine ⟨by rw [hl0, List.length_take]; omega, fun j hj => ?_⟩
      have := (hrel.2 j (by rw [List.length_append]; omega)).setT hgs hblk (by decide)
      rw [elt_left' _ _ _ hj] at this
      have e2 : elt noTab (ts.take p) j = elt noTab ts j := by
        unfold elt
        simp [List.getElem?_take, show j < p by omega]
      rw [e2]
      exact this
    exact hr0.snoc ⟨lv, mv, a, b, rfl, k1.setT hgs hblk (by decide), k2.setT hgs hblk (by decide), e1, e2, hz, w2, w3⟩
  · simp [hn]
/-- The last number, another one. -/
theorem ME.lastZ {g p : Nat} (h : ME w wr ts zs n (p + 1) A c V (some ⟨g, 0, none⟩) cz) (z : Int) (hz : (Lit.int .i64 z).wf = true) : ME w (wr.setCell ⟨g, p, none⟩ (.int .i64 z)) ts (zs.take p ++ [z]) n (p + 1) A c V (some ⟨g, 0, none⟩) cz := by
  obtain ⟨hb2, ⟨hv, hrel, hn⟩, ⟨hzv, hzl, hzw⟩, hB⟩ := h
  have hgs := grown_set wr g p (.int .i64 z)
  obtain ⟨cur, hblk⟩ := hzv.blk
  have hgb := hzv.base_ g rfl
  have hne : g ≠ w.heap.size := blk_ne hblk hb2 (by decide)
  refine ⟨blk_grown' hgs hb2 (fun e => hne (Option.some.inj e)), ⟨hv.other hgs (.inr (hv.ne_blk hblk (by decide))), hrel.mono fun x a hx => hx.setT hgs hblk (by decide), hn⟩, ⟨⟨?_, ?_⟩, by simp [hzl], fun j hj => ?_⟩, hB.grown hgs hB.size (fun k hk => by cases hk; exact hgb)⟩
  · have h0 := hzv.1
    have hl : (zcells zs).length = p + 1 := by rw [zcells_len, hzl]
    rw [hl] at h0
    have h1 := (World.ownsRow.stored h0 p (.int .i64 z)).1
    have hf : ∀ l : List Int, (zcells l).flatten = l.map fun y => Value.int .i64 y := by
      intro l
      induction l with
      | nil => rfl
      | cons a l ih => simp only [zcells, List.map_cons, List.flatten_cons] at ih ⊢; rw [ih]; rfl
    have hl2 : (zcells (zs.take p ++ [z])).length = p + 1 := by rw [zcells_len]; simp [hzl]
    rw [hl2, hf]
    rw [hf] at h1
    have e : (zs.map fun y => Value.int .i64 y).set p (.int .i64 z) = (zs.take p ++ [z]).map fun y => Value.int .i64 y := by
      apply List.ext_getElem?
      intro i
      rw [List.getElem?_set]
      simp only [List.length_map, List.map_append, List.map_cons, List.map_nil, List.getElem?_append, List.length_take, hzl, List.getElem?_map, List.getElem?_take]
      by_cases h1 : i = p
      · subst h1; simp
      · by_cases h2 : i < p
        · simp [h1, h2, Ne.symm h1, show min p (p + 1) = p by omega]
        · have h3 : zs[i]? = none := List.getElem?_eq_none (by omega)
          have h4 : i - p ≠ 0 := by omega
          simp [Ne.symm h1, h2, h3, show min p (p + 1) = p by omega, h4]
    rw [e] at h1
    exact h1
  · intro x hx
    simp only [zcells, List.mem_map] at hx
    obtain ⟨y, _, rfl⟩ := hx
    rfl
  · rw [List.length_append, List.length_take, List.length_singleton, hzl, show min p (p + 1) = p by omega] at hj
    by_cases h1 : j < p
    · rw [elt_left' _ _ _ (by rw [List.length_take]; omega)]
      have e2 : elt 0 (zs.take p) j = elt 0 zs j := by unfold elt; simp [List.getElem?_take, h1]
      rw [e2]
      exact hzw j (by omega)
    · rw [elt_right' _ _ _ (by rw [List.length_take]; omega), List.length_take, hzl, show j - min p (p + 1) = 0 by omega]
      exact hz
theorem ME.ops (h : ME w wr ts zs n m A c V Az cz) (hn : n ≤ 1000) (hm : m ≤ 1000) : RTabs wr A n ts ∧ n ≤ c ∧ RN .i64 wr Az m zs ∧ m ≤ cz := by
  obtain ⟨hb2, ⟨hv, hrel, hl⟩, ⟨hzv, hzl, hzw⟩, hB⟩ := h
  subst hl hzl
  obtain ⟨A, c, e, hc, hr⟩ := RTabsL_of_OV hv hrel (by omega)
  injection e with e1 e2 e3
  subst e1 e3
  obtain ⟨A, c, e, hc2, hr2⟩ := RN_of_OV hzv hzw (by omega)
  injection e with e1 e2 e3
  subst e1 e3
  exact ⟨hr, hc, hr2, hc2⟩
end
end Go.Proofs.Ythiolcccgiibhaa
