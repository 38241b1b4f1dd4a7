/- Layer 8: Decode: what its loop and its rounds hold. -/
import Derived.Test.YtdhmonomhifkkaaBaV
import Derived.Test.YtdhmonomhifkkaaBaY
import Derived.Test.YtdhmonomhifkkaaBaP
namespace Go.Proofs.Ytdhmonomhifkkaa
open Go.RowKit
set_option linter.unusedVariables false
set_option linter.unusedSimpArgs false

theorem numR_er {most : Nat} {xs : List UInt8} {er : Nat} (h : er ≤ 100) : (numR most xs er).2.2 ≤ 100 ∧ (numR most xs er).1 ≤ most := by
  have := (takeU_lt xs).2.2.2
  unfold numR
  split
  · exact ⟨h, Nat.zero_le _⟩
  · split
    · exact ⟨by show (takeU xs).2.2 ≤ 100; omega, Nat.zero_le _⟩
    · split
      · exact ⟨show 3 ≤ 100 by decide, Nat.zero_le _⟩
      · exact ⟨by show 0 ≤ 100; omega, by show (takeU xs).1 ≤ most; omega⟩
theorem goneR_er {xs : List UInt8} {er : Nat} (h : er ≤ 100) : (goneR xs er).2.2 ≤ 100 := by
  unfold goneR
  split
  · exact h
  · split
    · exact show 5 ≤ 100 by decide
    · split
      · exact show 3 ≤ 100 by decide
      · exact show 0 ≤ 100 by decide
theorem takeB_er (l : List UInt8) (most : Int) : (takeB l most).2.2 ≤ 5 := by
  have := (takeU_lt l).2.2.2
  unfold takeB
  split
  · exact this
  · split
    · exact show 2 ≤ 5 by decide
    · split
      · exact show 5 ≤ 5 by decide
      · exact show 0 ≤ 5 by decide
theorem bytesR_er {most : Int} {xs : List UInt8} {er : Nat} (h : er ≤ 100) : (bytesR most xs er).2.2 ≤ 100 := by
  have := takeB_er xs most
  unfold bytesR
  split
  · exact h
  · show (takeB xs most).2.2 ≤ 100
    omega
theorem Rd.below {w w' : World} {b : Nat} {A : Option Addr} {n c : Nat} {xs : List UInt8} {er : Nat} (h : Rd w b A n c xs er) (hb : Below w.heap.size w w') : Rd w' b A n c xs er := ⟨blk_grown' (below_grown hb none) h.1 (by simp), h.2.1.below hb, h.2.2⟩
theorem number_lit (b : Nat) (A : Option Addr) (n c : Nat) (xs : List UInt8) (er most : Nat) (m : Int) (hmm : m = (most : Int)) (w : World) (h : Rd w b A n c xs er) (her : er ≤ 100) (hm : most < 18446744073709551616) :
    Calls Try.prog 25 #[.pointer (some ⟨b, 0, none⟩), .int .u64 m] w fun e w' => e = .returned (.int .u64 ((numR most xs er).1 : Nat)) ∧ RdC w w' b A n xs (numR most xs er).2.1 (numR most xs er).2.2 := by
  subst hmm
  exact number_any b A n c xs er most w h her hm
theorem oneR_er {xs : List UInt8} {er : Nat} (h : er ≤ 100) : (oneR xs er).2.2 ≤ 100 := by
  have h1 := bytesR_er (most := 512) (xs := (goneR xs er).2.1) (goneR_er (xs := xs) h)
  unfold oneR
  simp only
  split
  · exact h1
  · exact bytesR_er (numR_er h1).1
theorem blk_ne {w : World} {b b' : Nat} {cs cs' : Array Value} {T T' : TypeId} {fr fr' : Nat × Nat} (h : w.heap[b]? = some (.cells cs T fr)) (h' : w.heap[b']? = some (.cells cs' T' fr')) (hT : T ≠ T') : b ≠ b' := by
  intro e
  rw [e, h'] at h
  injection h with h
  injection h with _ h _
  exact hT h.symm
theorem blk_lt {w : World} {b : Nat} {o : Obj} (h : w.heap[b]? = some o) : b < w.heap.size := by
  rcases Nat.lt_or_ge b w.heap.size with h1 | h1
  · exact h1
  · rw [Array.getElem?_eq_none h1] at h; cases h
theorem POp.setT {w w' : World} {base b : Nat} {cs : Array Value} {T : TypeId} {fr : Nat × Nat} {x : List Value} {o : OpR} (h : POp w base x o) (hg : w.grownBy w' (some b)) (hb : w.heap[b]? = some (.cells cs T fr)) (hT : T ≠ 5) : POp w' base x o := by
  obtain ⟨kv, vv, hx, h1, h2, h3⟩ := h
  exact ⟨kv, vv, hx, h1.other hg (.inr (h1.ne_blk hb hT)), h2.other hg (.inr (h2.ne_blk hb hT)), h3⟩
/-- What Decode's loop holds, with the rows told. -/
def DecP (w wr : World) (b1 b2 : Nat) (s : Int) (acc : List OpR) (xs : List UInt8) (er : Nat) (Ab : Option Addr) (nb cb : Nat) (Ar : Option Addr) (cr : Nat) (V : List (List Value)) : Prop :=
  Rd wr b1 Ab nb cb xs er ∧ RB w Ab nb xs ∧ wr.heap[b2]? = some (.cells #[.int .i64 s, .slice Ar acc.length cr] 24 (0, 0)) ∧ OV wr w.heap.size 28 4 (.slice Ar acc.length cr) V ∧ RelV noOp (POp wr w.heap.size) V acc ∧
    wr.heap[w.heap.size]? = some (.cells #[.int .i64 0, .slice none 0 0] 24 (0, 0)) ∧ Below w.heap.size w wr ∧ w.heap.size < b1 ∧ w.heap.size < b2
/-- What Decode's loop holds. -/
def DecL (w : World) (b1 b2 : Nat) (s : Int) (acc : List OpR) (xs : List UInt8) (er : Nat) (wr : World) : Prop :=
  ∃ Ab nb cb Ar cr V, DecP w wr b1 b2 s acc xs er Ab nb cb Ar cr V
/-- What a round of it holds: the change's box besides. -/
def DecO (w wr : World) (b1 b2 b3 : Nat) (s : Int) (acc : List OpR) (xs : List UInt8) (er : Nat) (Ab : Option Addr) (nb cb : Nat) (Ar : Option Addr) (cr : Nat) (V : List (List Value)) (o : OpR) (kv vv : Value) : Prop :=
  DecP w wr b1 b2 s acc xs er Ab nb cb Ar cr V ∧ (Value.slice Ar acc.length cr).ownBlock ≠ some b3 ∧ w.heap.size < b3 ∧ wr.heap[b3]? = some (.cells #[kv, .bool (opGone o), .int .i64 (opTil o), vv] 28 (0, 0)) ∧ OB wr w.heap.size kv (opKey o) ∧ OB wr w.heap.size vv (opVal o)
section
variable {w wr w1 : World} {b1 b2 b3 : Nat} {s : Int} {acc : List OpR} {xs ys : List UInt8} {er e2 : Nat} {Ab : Option Addr} {nb cb : Nat} {Ar : Option Addr} {cr : Nat} {V : List (List Value)} {o : OpR} {kv vv : Value}
theorem DecP.l (h : DecP w wr b1 b2 s acc xs er Ab nb cb Ar cr V) : DecL w b1 b2 s acc xs er wr := ⟨_, _, _, _, _, _, h⟩
theorem DecP.rd (h : DecP w wr b1 b2 s acc xs er Ab nb cb Ar cr V) : Rd wr b1 Ab nb cb xs er := h.1
theorem DecP.out (h : DecP w wr b1 b2 s acc xs er Ab nb cb Ar cr V) : wr.heap[b2]? = some (.cells #[.int .i64 s, .slice Ar acc.length cr] 24 (0, 0)) := h.2.2.1
theorem DecP.below (h : DecP w wr b1 b2 s acc xs er Ab nb cb Ar cr V) : Below w.heap.size w wr := h.2.2.2.2.2.2.1
/-- A change elsewhere. -/
theorem DecP.step {b : Nat} {cs : Array Value} {T : TypeId} {fr : Nat × Nat} (h : DecP w wr b1 b2 s acc xs er Ab nb cb Ar cr V) (hg : wr.grownBy w1 (some b)) (hb : wr.heap[b]? = some (.cells cs T fr)) (hT : T ≠ 5) (hrow : (Value.slice Ar acc.length cr).ownBlock ≠ some b) (h1 : b ≠ b1) (h2 : b ≠ b2) (h0 : w.heap.size < b) : DecP w w1 b1 b2 s acc xs er Ab nb cb Ar cr V := by
  obtain ⟨hR, hrb, hb2, hv, hrel, hz, hB, p1, p2⟩ := h
  have hB1 := hB.grown hg hB.size (fun k hk => by cases hk; omega)
  exact ⟨⟨blk_grown' hg hR.1 (fun e => h1 (Option.some.inj e)), hrb.below hB1, hR.2.2⟩, hrb, blk_grown' hg hb2 (fun e => h2 (Option.some.inj e)), hv.other hg (.inr hrow), hrel.mono fun x a hx => hx.setT hg hb hT, blk_grown' hg hz (fun e => by have := Option.some.inj e; omega), hB1, p1, p2⟩
/-- A new block. -/
theorem DecP.more (h : DecP w wr b1 b2 s acc xs er Ab nb cb Ar cr V) (hb : Below wr.heap.size wr w1) : DecP w w1 b1 b2 s acc xs er Ab nb cb Ar cr V := by
  obtain ⟨hR, hrb, hb2, hv, hrel, hz, hB, p1, p2⟩ := h
  have hB1 := below_then hB hb
  exact ⟨⟨blk_below hb hR.1, hrb.below hB1, hR.2.2⟩, hrb, blk_below hb hb2, hv.below hb, hrel.mono fun x a hx => hx.below hb, blk_below hb hz, hB1, p1, p2⟩
/-- The reader has gone on: all else stays. -/
theorem DecP.read (h : DecP w wr b1 b2 s acc xs er Ab nb cb Ar cr V) (hr : RdC wr w1 b1 Ab nb xs ys e2) : ∃ Ab' nb' cb', DecP w w1 b1 b2 s acc ys e2 Ab' nb' cb' Ar cr V := by
  obtain ⟨hR, hrb, hb2, hv, hrel, hz, hB, p1, p2⟩ := h
  obtain ⟨⟨A', n', c', hR', hrb'⟩, hg⟩ := hr
  have hblk := hR.1
  have hB1 := hB.grown hg hB.size (fun k hk => by cases hk; omega)
  have h12 : b1 ≠ b2 := blk_ne hblk hb2 (by decide)
  exact ⟨A', n', c', hR', hrb' _ hrb, blk_grown' hg hb2 (fun e => h12 (Option.some.inj e)), hv.other hg (.inr (hv.ne_blk hblk (by decide))), hrel.mono fun x a hx => hx.setT hg hblk (by decide), blk_grown' hg hz (fun e => by have := Option.some.inj e; omega), hB1, p1, p2⟩
theorem DecL.read' (h : DecP w wr b1 b2 s acc xs er Ab nb cb Ar cr V) (hr : RdC wr w1 b1 Ab nb xs ys e2) : DecL w b1 b2 s acc ys e2 w1 := by
  obtain ⟨_, _, _, h⟩ := h.read hr
  exact h.l
theorem DecO.start (h : DecP w wr b1 b2 s acc xs er Ab nb cb Ar cr V) (G : Bool) : DecO w (wr.alloc (.cells #[.slice none 0 0, .bool G, .int .i64 0, .slice none 0 0] 28)) b1 b2 wr.heap.size s acc xs er Ab nb cb Ar cr V (mkOp [] G 0 []) (.slice none 0 0) (.slice none 0 0) := by
  refine ⟨h.more (below_alloc' (Below.refl _ _) _), ?_, ?_, heap_alloc_new wr _, OB.nil _ _, OB.nil _ _⟩
  · intro e
    have := (World.ownsRow.lt h.2.2.2.1.1 _ e).2
    omega
  · exact blk_lt h.2.2.2.2.2.1
theorem DecO.read (h : DecO w wr b1 b2 b3 s acc xs er Ab nb cb Ar cr V o kv vv) (hr : RdC wr w1 b1 Ab nb xs ys e2) : ∃ Ab' nb' cb', DecO w w1 b1 b2 b3 s acc ys e2 Ab' nb' cb' Ar cr V o kv vv := by
  obtain ⟨hP, hrow, hlt, hb3, hk, hv⟩ := h
  obtain ⟨A', n', c', hP'⟩ := hP.read hr
  have hblk := hP.1.1
  have hg := hr.2
  exact ⟨A', n', c', hP', hrow, hlt, blk_grown' hg hb3 (fun e => blk_ne hblk hb3 (by decide) (Option.some.inj e)), hk.other hg (.inr (hk.ne_blk hblk (by decide))), hv.other hg (.inr (hv.ne_blk hblk (by decide)))⟩
theorem DecO.set {i : Nat} {v : Value} {o' : OpR} {kv' vv' : Value} (h : DecO w wr b1 b2 b3 s acc xs er Ab nb cb Ar cr V o kv vv)
    (hi : (#[kv, .bool (opGone o), .int .i64 (opTil o), vv] : Array Value).setIfInBounds i v = #[kv', .bool (opGone o'), .int .i64 (opTil o'), vv']) (hk : OB wr w.heap.size kv' (opKey o')) (hv : OB wr w.heap.size vv' (opVal o')) :
    DecO w (wr.setCell ⟨b3, i, none⟩ v) b1 b2 b3 s acc xs er Ab nb cb Ar cr V o' kv' vv' := by
  obtain ⟨hP, hrow, hlt, hb3, _, _⟩ := h
  have hg := grown_set wr b3 i v
  have hs := heap_setCell_same wr b3 i _ _ v hb3
  rw [hi] at hs
  refine ⟨hP.step hg hb3 (by decide) hrow (blk_ne hb3 hP.1.1 (by decide)) (blk_ne hb3 hP.out (by decide)) hlt, hrow, hlt, hs, hk.other hg (.inr (hk.ne_blk hb3 (by decide))), hv.other hg (.inr (hv.ne_blk hb3 (by decide)))⟩
theorem DecO.push {B : Option Addr} {c' : Nat} (h : DecO w wr b1 b2 b3 s acc xs er Ab nb cb Ar cr V o kv vv) (hg : wr.grownBy w1 (Value.slice Ar acc.length cr).ownBlock)
    (hv' : OV w1 w.heap.size 28 4 (.slice B (acc.length + 1) c') (V ++ [[kv, .bool (opGone o), .int .i64 (opTil o), vv]])) (hw : (Lit.int .i64 (opTil o)).wf = true) :
    DecL w b1 b2 s (acc ++ [o]) xs er (w1.setCell ⟨b2, 1, none⟩ (.slice B (acc.length + 1) c')) := by
  obtain ⟨⟨hR, hrb, hb2, hv, hrel, hz, hB, p1, p2⟩, hrow, hlt, hb3, hk, hvv⟩ := h
  have hB1 := hB.grown hg hB.size hv.base_
  have hb21 := blk_grown' hg hb2 (hv.ne_blk hb2 (by decide))
  have hz1 := blk_grown' hg hz (hv.ne_blk hz (by decide))
  have hR1 := blk_grown' hg hR.1 (hv.ne_blk hR.1 (by decide))
  have hrel1 : RelV noOp (POp w1 w.heap.size) (V ++ [[kv, .bool (opGone o), .int .i64 (opTil o), vv]]) (acc ++ [o]) :=
    (hrel.mono fun x a hx => hx.grown hg hv).snoc ⟨_, _, rfl, hk.other hg (hk.apart_row hv (by decide)), hvv.other hg (hvv.apart_row hv (by decide)), hw⟩
  have hgs := grown_set w1 b2 1 (.slice B (acc.length + 1) c')
  have hB2 := hB1.grown hgs hB1.size (fun k hk => by cases hk; omega)
  have hl : (acc ++ [o]).length = acc.length + 1 := by simp
  have e12 := blk_ne hR.1 hb2 (by decide)
  refine ⟨Ab, nb, cb, B, c', V ++ [[kv, .bool (opGone o), .int .i64 (opTil o), vv]], ?_⟩
  unfold DecP
  rw [hl]
  exact ⟨⟨blk_grown' hgs hR1 (fun e => e12 (Option.some.inj e).symm), hrb.below hB2, hR.2.2⟩, hrb, heap_setCell_same w1 b2 1 _ _ _ hb21, hv'.other hgs (.inr (hv'.ne_blk hb21 (by decide))), hrel1.mono fun x a hx => hx.setT hgs hb21 (by decide), blk_grown' hgs hz1 (fun e => by have := Option.some.inj e; omega), hB2, p1, p2⟩
end
end Go.Proofs.Ytdhmonomhifkkaa
