/- Layer 16: rows of rows of one's own; the rows that MergeMany makes. -/
import Derived.Test.YtnjhiiakpndnnaaMgK
namespace Go.Proofs.Ytnjhiiakpndnnaa
open Go.RowKit
set_option linter.unusedVariables false
set_option linter.unusedSimpArgs false

theorem rowinfo : (Try.prog.info? 27).map (fun i => (i.zero, i.size, i.bytes)) = some (some (.slice none 0 0), 1, 24) := by kernel_rfl
theorem OV.apart_row {w : World} {base base' size size' : Nat} {e e' : TypeId} {u v : Value} {U V : List (List Value)} (h : OV w base' e' size' u U) (h2 : OV w base e size v V) (he : e ≠ e') : u.ownBlock = none ∨ u.ownBlock ≠ v.ownBlock := by
  rcases h2.1.2 with ⟨rfl, _⟩ | ⟨g, cap, cur, rfl, _, hh, _⟩
  · cases hu : u.ownBlock with
    | none => exact .inl rfl
    | some k => exact .inr (by intro e; cases e)
  · exact .inr (h.ne_blk hh he)
/-- A row of entries of one's own, as a cell. -/
def PRow (w : World) (base : Nat) (x : List Value) (es : List EntR) : Prop := ∃ A n c, x = [.slice A n c] ∧ ROw w base (.slice A n c) es
theorem PRow.below {w w' : World} {base : Nat} {x : List Value} {es : List EntR} (h : PRow w base x es) (hb : Below w.heap.size w w') : PRow w' base x es := by
  obtain ⟨A, n, c, hx, hr⟩ := h
  exact ⟨A, n, c, hx, hr.below hb⟩
theorem ROw.other {w w' : World} {base base' : Nat} {u v : Value} {es : List EntR} {V : List (List Value)} (h : ROw w base u es) (hg : w.grownBy w' v.ownBlock) (hv : OV w base' 27 1 v V) : ROw w' base u es := by
  obtain ⟨U, h1, h2⟩ := h
  exact ⟨U, h1.other hg (h1.apart_row hv (by decide)), h2.mono fun x a ⟨kv, vv, e, o1, o2⟩ => ⟨kv, vv, e, o1.other hg (o1.apart_row hv (by decide)), o2.other hg (o2.apart_row hv (by decide))⟩⟩
theorem ROw.mono {w : World} {base base' : Nat} {v : Value} {es : List EntR} (h : ROw w base v es) (hb : base' ≤ base) : ROw w base' v es := by
  obtain ⟨U, h1, h2⟩ := h
  exact ⟨U, ⟨⟨h1.1.1, h1.1.2.elim .inl (fun ⟨g, cap, cur, hv, hg, r⟩ => .inr ⟨g, cap, cur, hv, Nat.le_trans hb hg, r⟩)⟩, h1.2⟩, h2.mono fun x a hx => hx.mono hb⟩
theorem PRow.other {w w' : World} {base base' : Nat} {x : List Value} {v : Value} {es : List EntR} {V : List (List Value)} (h : PRow w base x es) (hg : w.grownBy w' v.ownBlock) (hv : OV w base' 27 1 v V) : PRow w' base x es := by
  obtain ⟨A, n, c, hx, hr⟩ := h
  exact ⟨A, n, c, hx, hr.other hg hv⟩
/-- Rows of rows, all of it one's own. -/
def RRow (w : World) (base : Nat) (v : Value) (R : List (List EntR)) : Prop := ∃ V, OV w base 27 1 v V ∧ RelV [] (PRow w base) V R
theorem RRow.nil (w : World) (base : Nat) : RRow w base (.slice none 0 0) [] := ⟨[], OV.nil _ _ _ _, RelV.nil⟩
theorem RRow.below {w w' : World} {base : Nat} {v : Value} {R : List (List EntR)} (h : RRow w base v R) (hb : Below w.heap.size w w') : RRow w' base v R := by
  obtain ⟨V, h1, h2⟩ := h
  exact ⟨V, h1.below hb, h2.mono fun x a hx => hx.below hb⟩
theorem RRow.step {w w' : World} {base : Nat} {v v' : Value} {V : List (List Value)} {R : List (List EntR)} {A : Option Addr} {n c : Nat} {es : List EntR} (hv : OV w base 27 1 v V) (hr : RelV [] (PRow w base) V R) (hx : ROw w base (.slice A n c) es) (hg : w.grownBy w' v.ownBlock) (hv' : OV w' base 27 1 v' (V ++ [[.slice A n c]])) : RRow w' base v' (R ++ [es]) :=
  ⟨_, hv', (hr.mono fun x a h => h.other hg hv).snoc ⟨A, n, c, rfl, hx.other hg hv⟩⟩
theorem RRow.reads {w : World} {base : Nat} {v : Value} {R : List (List EntR)} (h : RRow w base v R) (hm : R.length ≤ 9223372036854775807) (hs : ∀ es ∈ R, es.length ≤ 9223372036854775807) : ∃ A c, v = .slice A R.length c ∧ REnss w A R.length R := by
  obtain ⟨V, h1, h2⟩ := h
  have hl := h2.1
  rcases Nat.eq_zero_or_pos V.length with h0 | h0
  · obtain ⟨A, c, rfl, hc⟩ := h1.open_
    exact ⟨A, c, by rw [hl], rfl, hm, fun hn => absurd hn (by omega)⟩
  · obtain ⟨g, c, rfl, _, _, hc⟩ := h1.form h0
    refine ⟨_, c, by rw [hl], rfl, hm, fun _ => ⟨_, rfl, fun j hj => ?_⟩⟩
    obtain ⟨A, n, d, hx, hr⟩ := h2.2 j (by omega)
    have hce := h1.cell (j := j) (i := 0) (by omega) (by omega)
    rw [hx] at hce
    obtain ⟨A', c', e, hc', hr'⟩ := hr.len (hs _ (by rw [elt_get [] (by omega)]; exact List.getElem_mem _))
    injection e with e1 e2 e3
    subst e1 e2 e3
    refine ⟨A, _, d, ?_, hr', hc'⟩
    rw [add_plain, Nat.zero_add]
    simpa using hce
/-! ## What MergeMany makes -/
def manyE (i k : Nat) : EntR := mkEnt [UInt8.ofNat (k / 256), UInt8.ofNat k] ((i : Int) + 1) false 0 []
def manyR (i e : Nat) : List EntR := (List.range e).map (manyE i)
def manyS (e n : Nat) : List (List EntR) := (List.range n).map (fun i => manyR i e)
theorem manyR_succ (i e : Nat) : manyR i (e + 1) = manyR i e ++ [manyE i e] := by simp [manyR, List.range_succ]
theorem manyS_succ (e n : Nat) : manyS e (n + 1) = manyS e n ++ [manyR n e] := by simp [manyS, List.range_succ]
theorem manyR_len (i e : Nat) : (manyR i e).length = e := by simp [manyR]
theorem manyS_len (e n : Nat) : (manyS e n).length = n := by simp [manyS]
theorem manyR_elt {i e k : Nat} (h : k < e) : elt noEnt (manyR i e) k = manyE i k := by rw [elt_get noEnt (by rw [manyR_len]; exact h)]; simp [manyR]
theorem manyS_er {e n r : Nat} (h : r < n) : er (manyS e n) r = manyR r e := by rw [er, elt_get [] (by rw [manyS_len]; exact h)]; simp [manyS]
theorem manyS_tot (e : Nat) : ∀ n, totR (manyS e n) = n * e := by
  intro n
  induction n with
  | zero => simp [manyS, totR]
  | succ n ih => rw [manyS_succ, totR_app, ih, Nat.succ_mul]; simp [totR, manyR_len]
theorem many_cmp : ∀ k, k < 700 → cmpB [UInt8.ofNat (k / 256), UInt8.ofNat k] [UInt8.ofNat ((k + 1) / 256), UInt8.ofNat (k + 1)] < 0 := by decide +kernel
theorem manyR_srt {i e : Nat} (he : e < 700) : Srt (manyR i e) := by
  refine ordN_Srt fun k h1 h2 => ?_
  rw [manyR_len] at h2
  rw [manyR_elt (by omega), manyR_elt h2]
  have := many_cmp (k - 1) (by omega)
  rw [Nat.sub_add_cancel h1] at this
  unfold aheadE aheadK
  rw [decide_eq_true_iff]
  exact .inl this
theorem many_first {e n : Nat} {out : List EntR} (he : 0 < e) (hn : 0 < n) (hn2 : n ≤ 64) (h : MRel (manyS e n) out) : 0 < out.length ∧ eSeq (elt noEnt out 0) = (n : Int) := by
  have her : ∀ r, r < n → er (manyS e n) r ≠ [] := fun r hr h0 => by
    rw [manyS_er hr] at h0
    have := congrArg List.length h0
    rw [manyR_len] at this
    simp at this
    omega
  cases out with
  | nil => exact absurd (h 0 (by rw [manyS_len]; exact hn)) (her 0 hn)
  | cons x out =>
    obtain ⟨b, h1, h2, h3, h4, h5⟩ := h
    rw [manyS_len] at h1
    have hx : x = manyE b 0 := by rw [h3, manyS_er h1, manyR_elt he]
    refine ⟨by simp, ?_⟩
    show eSeq x = _
    rw [hx]
    show (b : Int) + 1 = _
    by_cases hb : b = n - 1
    · omega
    · have hl := h4 (n - 1) (by rw [manyS_len]; omega) (her _ (by omega)) (fun e => hb e.symm)
      have e1 : hE (mkHd (er (manyS e n) b) b) = manyE b 0 := by show elt noEnt (er (manyS e n) b) 0 = _; rw [manyS_er h1, manyR_elt he]
      have e2 : hE (mkHd (er (manyS e n) (n - 1)) (n - 1)) = manyE (n - 1) 0 := by show elt noEnt (er (manyS e n) (n - 1)) 0 = _; rw [manyS_er (by omega), manyR_elt he]
      rcases hl with hl | ⟨⟨_, hl⟩, _⟩
      · rw [e1, e2] at hl
        unfold aheadE aheadK at hl
        rw [decide_eq_true_iff] at hl
        rcases hl with hl | ⟨_, hl⟩
        · exact absurd hl (by show ¬ cmpB [UInt8.ofNat (0 / 256), UInt8.ofNat 0] [UInt8.ofNat (0 / 256), UInt8.ofNat 0] < 0; decide)
        · have : ((n - 1 : Nat) : Int) + 1 < (b : Int) + 1 := hl
          omega
      · rw [e1, e2] at hl
        have : (b : Int) + 1 = ((n - 1 : Nat) : Int) + 1 := hl
        omega
theorem many_small (e n : Nat) : SmallR (manyS e n) := by
  intro r hr x hx
  rw [manyS_len] at hr
  rw [manyS_er hr] at hx
  obtain ⟨k, _, rfl⟩ := List.mem_map.1 hx
  exact ⟨by show 2 ≤ _; omega, by show 0 ≤ _; omega⟩
theorem OB.lit2 (w : World) (base : Nat) (hb : base ≤ w.heap.size) (x y : UInt8) (z1 z2 : Int) (hz : z1 = x.toNat) (hz2 : z2 = y.toNat) : OB (w.alloc (.cells #[.int .u8 z1, .int .u8 z2] 5)) base (.slice (some ⟨w.heap.size, 0, none⟩) 2 2) [x, y] := by
  subst hz hz2
  exact ⟨by simp [bys], .inr ⟨w.heap.size, 2, _, rfl, hb, heap_alloc_new w _, Nat.le_refl _, by decide, rfl, by simp [bys]⟩⟩
theorem byteM0 (j : Nat) : (j : Int) % 256 = ((UInt8.ofNat j).toNat : Int) := by rw [UInt8.toNat_ofNat']; omega
theorem byteM0' (j : Nat) : IntKind.u8.wrap (j : Int) = ((UInt8.ofNat j).toNat : Int) := by rw [IntKind.wrap_u8]; exact byteM0 j
theorem byteM1 (j : Nat) : ((j : Int) / 256) % 256 = ((UInt8.ofNat (j / 256)).toNat : Int) := by rw [UInt8.toNat_ofNat']; omega
theorem byteM1' (j : Nat) (h : j < 65536) : (j : Int) / 256 = ((UInt8.ofNat (j / 256)).toNat : Int) := by rw [UInt8.toNat_ofNat']; omega
theorem many_step {w w' : World} {base i k : Nat} {v v' : Value} {V : List (List Value)} {z1 z2 : Int} (hv : OV w base 35 5 v V) (hr : RelV noEnt (PEo w base) V (manyR i k)) (hb : base ≤ w.heap.size)
    (h1 : z1 = (UInt8.ofNat (k / 256)).toNat) (h2 : z2 = (UInt8.ofNat k).toNat) (hg : (w.alloc (.cells #[.int .u8 z1, .int .u8 z2] 5)).grownBy w' v.ownBlock)
    (hv' : OV w' base 35 5 v' (V ++ [[.slice (some ⟨w.heap.size, 0, none⟩) 2 2, .int .i64 ((i : Int) + 1), .bool false, .int .i64 0, .slice none 0 0]])) : ROw w' base v' (manyR i (k + 1)) := by
  rw [manyR_succ]
  exact ⟨_, hv', row_step (e := manyE i k) (below_alloc' (Below.refl _ _) _) hv hr hb (OB.lit2 w w.heap.size (Nat.le_refl _) _ _ z1 z2 h1 h2) (OB.nil _ _) hg⟩
theorem many_mod (z : Int) (m : Nat) (hm : 1 ≤ m ∧ m ≤ 3000) (hz : -9223372036854775808 ≤ z ∧ z ≤ 9223372036854775807) : ∃ p : Nat, p < m ∧ (wrap64 (z.tmod m + m)).tmod m = (p : Int) := by
  have h1 := Int.tmod_lt_of_pos z (show (0 : Int) < m by omega)
  have h2 := Int.lt_tmod_of_pos z (show (0 : Int) < m by omega)
  generalize z.tmod m = t at *
  have e1 : wrap64 (t + m) = t + m := by unfold wrap64; omega
  have h3 : (t + m).tmod m = (t + m) % m := Int.tmod_eq_emod_of_nonneg (by omega)
  have h4 := Int.emod_lt_of_pos (t + m) (show (0 : Int) < m by omega)
  have h5 := Int.emod_nonneg (t + m) (show (m : Int) ≠ 0 by omega)
  rw [e1, h3]
  exact ⟨((t + m) % m).toNat, by omega, by omega⟩
end Go.Proofs.Ytnjhiiakpndnnaa
