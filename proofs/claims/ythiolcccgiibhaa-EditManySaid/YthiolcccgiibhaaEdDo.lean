/- Layer 14: Decode: what its loops and rounds hold. -/
import Derived.Test.YthiolcccgiibhaaEdW
namespace Go.Proofs.Ythiolcccgiibhaa
open Go.RowKit
set_option linter.unusedVariables false
set_option linter.unusedSimpArgs false

theorem numR_er {most : Nat} {xs : List UInt8} {er : Nat} (h : er ≤ 100) : (numR most xs er).2.2 ≤ 100 ∧ (numR most xs er).1 ≤ most := by
  have := (takeU_lt xs).2.2.2
  unfold numR
  split
  · exact ⟨h, Nat.zero_le _⟩
  · split
    · exact ⟨by show (takeU xs).2.2 ≤ 100; omega, Nat.zero_le _⟩
    · split
      · exact ⟨show 3 ≤ 100 by decide, Nat.zero_le _⟩
      · exact ⟨by show 0 ≤ 100; omega, by show (takeU xs).1 ≤ most; omega⟩
theorem takeB_er (l : List UInt8) (most : Int) : (takeB l most).2.2 ≤ 5 := by
  have := (takeU_lt l).2.2.2
  unfold takeB
  split
  · exact this
  · split
    · exact show 2 ≤ 5 by decide
    · split
      · exact show 5 ≤ 5 by decide
      · exact show 0 ≤ 5 by decide
theorem bytesR_er {most : Int} {xs : List UInt8} {er : Nat} (h : er ≤ 100) : (bytesR most xs er).2.2 ≤ 100 := by
  have := takeB_er xs most
  unfold bytesR
  split
  · exact h
  · show (takeB xs most).2.2 ≤ 100
    omega
theorem number_lit (b : Nat) (A : Option Addr) (n c : Nat) (xs : List UInt8) (er most : Nat) (m : Int) (hmm : m = (most : Int)) (w : World) (h : Rd w b A n c xs er) (her : er ≤ 100) (hm : most < 9223372036854775808) :
    Calls Try.prog 24 #[.pointer (some ⟨b, 0, none⟩), .int .u64 m] w fun e w' => e = .returned (.int .i64 ((numR most xs er).1 : Nat)) ∧ RdC w w' b A n xs (numR most xs er).2.1 (numR most xs er).2.2 := by
  subst hmm
  exact number_any b A n c xs er most w h her hm
theorem tabinfo : (Try.prog.info? 24).map (fun i => (i.zero, i.size, i.bytes)) = some (some (.agg #[.int .i64 0, .int .i64 0, .int .i64 0, .slice none 0 0, .slice none 0 0]), 5, 72) := by kernel_rfl
theorem i64info : (Try.prog.info? 2).map (fun i => (i.zero, i.size, i.bytes)) = some (some (.int .i64 0), 1, 8) := by kernel_rfl
theorem edit5 : (Try.prog.info? 30).map (·.size) = some 5 := by kernel_rfl
theorem ones5 {a b c d f : Value} (ha : a.oneCell' = true) (hb : b.oneCell' = true) (hc : c.oneCell' = true) (hd : d.oneCell' = true) (hf : f.oneCell' = true) : ∀ u ∈ (#[a, b, c, d, f] : Array Value).toList, u.oneCell' = true := by
  intro u hu
  simp only [List.mem_cons, List.not_mem_nil, or_false] at hu
  rcases hu with rfl | rfl | rfl | rfl | rfl <;> assumption
theorem ones1 {a : Value} (ha : a.oneCell' = true) : ∀ u ∈ (#[a] : Array Value).toList, u.oneCell' = true := by
  intro u hu
  simp only [List.mem_cons, List.not_mem_nil, or_false] at hu
  rcases hu with rfl
  assumption
theorem wf_of_i64 {z : Int} (h1 : -9223372036854775808 ≤ z) (h2 : z ≤ 9223372036854775807) : (Lit.int .i64 z).wf = true := by
  have m : IntKind.i64.min = -9223372036854775808 := rfl
  have M : IntKind.i64.max = 9223372036854775807 := rfl
  simp [Lit.wf]
  omega
/-- append of one record, inside a region that draws its order. -/
theorem stepV_append1 {ops : Array Oper} {o : Oper} {a : Act} {K : Act → World → Prop} {Q : Exit → Act → World → Prop} {E : Prop} (t e : TypeId) (z : Value) (size bytes : Nat) (ht : Try.prog.underlying t = some (.slice e))
    (hinfo : (Try.prog.info? e).map (fun i => (i.zero, i.size, i.bytes)) = some (some z, size, bytes)) (hzs : z.cells.size = size) (hsz : 0 < size) (w : World) (base : Nat) (hwant : Region.wanted o (yielded ops a.tmps) = true) (s x : Operand)
    (ho : o.op = .call { callee := .builtin .append, args := #[s, x], argTypes := #[t, t] })
    (v : Value) (V : List (List Value)) (hs : a.eval s = v) (hown : OV w base e size v V) (cs : Array Value) (hcs : cs.size = size) (hu : ∀ u ∈ cs.toList, u.oneCell' = true) (c2 g : Nat) (hg : g = w.heap.size) (hx : a.eval x = .slice (some ⟨g, 0, none⟩) 1 c2)
    (hmax : V.length + 1 ≤ maxLen) (hbytes : (V.length + 1) * bytes ≤ 140737488355328) (hbase : base ≤ w.heap.size)
    (h : ∀ v' w', OV w' base e size v' (V ++ [cs.toList]) → w.grownBy w' v.ownBlock → K (a.put o.dst v') w') : if Region.wanted o (yielded ops a.tmps) = true then Oper.wp Try.prog o a (w.alloc (.cells cs e)) K Q else E := by
  subst hg
  refine step_append_any _ rfl hwant s x _ ho base e z size bytes ht hinfo hzs hsz v V.length V.flatten hs (World.ownsRow.alloc hown.1 _) _ 1 c2 cs.toList hx (Reads.block (heap_alloc_new w _) (by rw [hcs, Nat.one_mul])) hu hmax hbytes (by simp; omega) ?_
  intro v' w' h2 h3 h4
  refine h v' w' ⟨?_, ?_⟩ (grown_step (v0 := v) (World.grownBy_alloc w _ _) (AtRow.refl _ v) h3)
  · rw [List.length_append, List.flatten_append]
    simpa using h2
  · intro y hy
    rcases List.mem_append.1 hy with hy | hy
    · exact hown.2 y hy
    · rw [List.mem_singleton] at hy
      subst hy
      simpa using hcs
def PTab (w : World) (base : Nat) (x : List Value) (t : TabR) : Prop :=
  ∃ lv mv, x = [.int .i64 (tNum t), .int .i64 (tLev t), .int .i64 (tSize t), lv, mv] ∧ OB w base lv (tLeast t) ∧ OB w base mv (tMost t) ∧ (Lit.int .i64 (tNum t)).wf = true ∧ (Lit.int .i64 (tLev t)).wf = true ∧ (Lit.int .i64 (tSize t)).wf = true
theorem PTab.grown {w w' : World} {base base' size : Nat} {e : TypeId} {v : Value} {V : List (List Value)} {x : List Value} {t : TabR} (h : PTab w base x t) (hg : w.grownBy w' v.ownBlock) (hv : OV w base' e size v V) (he : e ≠ 5) : PTab w' base x t := by
  obtain ⟨lv, mv, hx, h1, h2, h3⟩ := h
  exact ⟨lv, mv, hx, h1.other hg (h1.apart_row hv he), h2.other hg (h2.apart_row hv he), h3⟩
theorem PTab.setT {w w' : World} {base b : Nat} {cs : Array Value} {T : TypeId} {fr : Nat × Nat} {x : List Value} {t : TabR} (h : PTab w base x t) (hg : w.grownBy w' (some b)) (hb : w.heap[b]? = some (.cells cs T fr)) (hT : T ≠ 5) : PTab w' base x t := by
  obtain ⟨lv, mv, hx, h1, h2, h3⟩ := h
  exact ⟨lv, mv, hx, h1.other hg (.inr (h1.ne_blk hb hT)), h2.other hg (.inr (h2.ne_blk hb hT)), h3⟩
theorem PTab.below {w w' : World} {base : Nat} {x : List Value} {t : TabR} (h : PTab w base x t) (hg : Below w.heap.size w w') : PTab w' base x t := by
  obtain ⟨lv, mv, hx, h1, h2, h3⟩ := h
  exact ⟨lv, mv, hx, h1.below hg, h2.below hg, h3⟩
theorem RTabs_of_OV {w : World} {base base' : Nat} {v : Value} {V : List (List Value)} {ts : List TabR} (h : OV w base 24 5 v V) (hr : RelV noTab (PTab w base') V ts) (hm : ts.length ≤ 9223372036854775807) :
    ∃ A c, v = .slice A ts.length c ∧ ts.length ≤ c ∧ RTabs w A ts.length ts := by
  have hl := hr.1
  rcases Nat.eq_zero_or_pos V.length with h0 | h0
  · obtain ⟨A, c, rfl, hc⟩ := h.open_
    rw [hl] at hc ⊢
    exact ⟨A, c, rfl, hc, rfl, hm, fun hn => absurd hn (by omega)⟩
  · obtain ⟨g, c, rfl, _, _, hc⟩ := h.form h0
    rw [hl] at hc
    refine ⟨_, c, by rw [hl], hc, rfl, hm, fun hn => ⟨_, rfl, fun j hj => ?_⟩⟩
    obtain ⟨lv, mv, hx, h1, h2, w1, w2, w3⟩ := hr.2 j (by omega)
    obtain ⟨Ak, ck, rfl, hrk, hck⟩ := h1.open_
    obtain ⟨Av, cv, rfl, hrv, hcv⟩ := h2.open_
    have hc4 := fun i hi => h.cell (j := j) (i := i) (by omega) hi
    rw [add_plain, Nat.zero_add]
    refine ⟨Ak, _, ck, Av, _, cv, ?_, ?_, ?_, ?_, ?_, hrk, hck, hrv, hcv, w1, w2, w3⟩
    · have := hc4 0 (by omega); rw [hx] at this; exact this
    · have := hc4 1 (by omega); rw [hx] at this; exact this
    · have := hc4 2 (by omega); rw [hx] at this; exact this
    · have := hc4 3 (by omega); rw [hx] at this; exact this
    · have := hc4 4 (by omega); rw [hx] at this; exact this
/-- Numbers as records of one cell. -/
def zcells (zs : List Int) : List (List Value) := zs.map fun z => [.int .i64 z]
theorem zcells_len (zs : List Int) : (zcells zs).length = zs.length := by simp [zcells]
theorem zcells_snoc (zs : List Int) (z : Int) : zcells zs ++ [[.int .i64 z]] = zcells (zs ++ [z]) := by simp [zcells]
theorem RN_of_OV {w : World} {base : Nat} {v : Value} {zs : List Int} (h : OV w base 2 1 v (zcells zs)) (hw : ∀ j, j < zs.length → (Lit.int .i64 (elt 0 zs j)).wf = true) (hm : zs.length ≤ 9223372036854775807) :
    ∃ A c, v = .slice A zs.length c ∧ zs.length ≤ c ∧ RN .i64 w A zs.length zs := by
  have hl := zcells_len zs
  rcases Nat.eq_zero_or_pos (zcells zs).length with h0 | h0
  · obtain ⟨A, c, rfl, hc⟩ := h.open_
    rw [hl] at hc ⊢
    exact ⟨A, c, rfl, hc, rfl, hm, hw, fun hn => absurd hn (by omega)⟩
  · obtain ⟨g, c, rfl, _, _, hc⟩ := h.form h0
    rw [hl] at hc
    refine ⟨_, c, by rw [hl], hc, rfl, hm, hw, fun hn => ⟨_, rfl, fun j hj => ?_⟩⟩
    have := h.cell (j := j) (i := 0) (by omega) (by omega)
    rw [add_plain, Nat.zero_add]
    rw [Nat.mul_one, Nat.add_zero] at this
    rw [this]
    simp [zcells, elt, hj]
/-- What Decode's loops hold, with the rows told. -/
def DecP (w wr : World) (b1 b2 : Nat) (l x s : Int) (acc : List TabR) (zacc : List Int) (xs : List UInt8) (er : Nat) (Ab : Option Addr) (nb cb : Nat) (Ar : Option Addr) (cr : Nat) (V : List (List Value)) (Az : Option Addr) (cz : Nat) : Prop :=
  Rd wr b1 Ab nb cb xs er ∧ RB w Ab nb xs ∧ wr.heap[b2]? = some (.cells #[.int .i64 l, .int .i64 x, .int .i64 s, .slice Ar acc.length cr, .slice Az zacc.length cz] 30 (0, 0)) ∧ (OV wr w.heap.size 24 5 (.slice Ar acc.length cr) V ∧ RelV noTab (PTab wr w.heap.size) V acc) ∧
    (OV wr w.heap.size 2 1 (.slice Az zacc.length cz) (zcells zacc) ∧ ∀ j, j < zacc.length → (Lit.int .i64 (elt 0 zacc j)).wf = true) ∧
    wr.heap[w.heap.size]? = some (.cells #[.int .i64 0, .int .i64 0, .int .i64 0, .slice none 0 0, .slice none 0 0] 30 (0, 0)) ∧ Below w.heap.size w wr ∧ w.heap.size < b1 ∧ w.heap.size < b2
def DecL (w : World) (b1 b2 : Nat) (l x s : Int) (acc : List TabR) (zacc : List Int) (xs : List UInt8) (er : Nat) (wr : World) : Prop :=
  ∃ Ab nb cb Ar cr V Az cz, DecP w wr b1 b2 l x s acc zacc xs er Ab nb cb Ar cr V Az cz
/-- What a round of the first loop holds: the line's box besides. -/
def DecO (w wr : World) (b1 b2 b3 : Nat) (l x s : Int) (acc : List TabR) (zacc : List Int) (xs : List UInt8) (er : Nat) (Ab : Option Addr) (nb cb : Nat) (Ar : Option Addr) (cr : Nat) (V : List (List Value)) (Az : Option Addr) (cz : Nat) (t : TabR) (lv mv : Value) : Prop :=
  DecP w wr b1 b2 l x s acc zacc xs er Ab nb cb Ar cr V Az cz ∧ (Value.slice Ar acc.length cr).ownBlock ≠ some b3 ∧ w.heap.size < b3 ∧ wr.heap[b3]? = some (.cells #[.int .i64 (tNum t), .int .i64 (tLev t), .int .i64 (tSize t), lv, mv] 24 (0, 0)) ∧ OB wr w.heap.size lv (tLeast t) ∧ OB wr w.heap.size mv (tMost t)
section
variable {w wr w1 : World} {b1 b2 b3 : Nat} {l x s : Int} {acc : List TabR} {zacc : List Int} {xs ys : List UInt8} {er e2 : Nat} {Ab : Option Addr} {nb cb : Nat} {Ar : Option Addr} {cr : Nat} {V : List (List Value)} {Az : Option Addr} {cz : Nat} {t : TabR} {lv mv : Value}
theorem DecP.l_ (h : DecP w wr b1 b2 l x s acc zacc xs er Ab nb cb Ar cr V Az cz) : DecL w b1 b2 l x s acc zacc xs er wr := ⟨_, _, _, _, _, _, _, _, h⟩
theorem DecP.rd (h : DecP w wr b1 b2 l x s acc zacc xs er Ab nb cb Ar cr V Az cz) : Rd wr b1 Ab nb cb xs er := h.1
theorem DecP.out (h : DecP w wr b1 b2 l x s acc zacc xs er Ab nb cb Ar cr V Az cz) : wr.heap[b2]? = some (.cells #[.int .i64 l, .int .i64 x, .int .i64 s, .slice Ar acc.length cr, .slice Az zacc.length cz] 30 (0, 0)) := h.2.2.1
theorem DecP.row (h : DecP w wr b1 b2 l x s acc zacc xs er Ab nb cb Ar cr V Az cz) : OV wr w.heap.size 24 5 (.slice Ar acc.length cr) V := h.2.2.2.1.1
theorem DecP.rel (h : DecP w wr b1 b2 l x s acc zacc xs er Ab nb cb Ar cr V Az cz) : RelV noTab (PTab wr w.heap.size) V acc := h.2.2.2.1.2
theorem DecP.zrow (h : DecP w wr b1 b2 l x s acc zacc xs er Ab nb cb Ar cr V Az cz) : OV wr w.heap.size 2 1 (.slice Az zacc.length cz) (zcells zacc) := h.2.2.2.2.1.1
theorem DecP.zero (h : DecP w wr b1 b2 l x s acc zacc xs er Ab nb cb Ar cr V Az cz) : wr.heap[w.heap.size]? = some (.cells #[.int .i64 0, .int .i64 0, .int .i64 0, .slice none 0 0, .slice none 0 0] 30 (0, 0)) := h.2.2.2.2.2.1
theorem DecP.below (h : DecP w wr b1 b2 l x s acc zacc xs er Ab nb cb Ar cr V Az cz) : Below w.heap.size w wr := h.2.2.2.2.2.2.1
/-- A change elsewhere. -/
theorem DecP.step {b : Nat} {cs : Array Value} {T : TypeId} {fr : Nat × Nat} (h : DecP w wr b1 b2 l x s acc zacc xs er Ab nb cb Ar cr V Az cz) (hg : wr.grownBy w1 (some b)) (hb : wr.heap[b]? = some (.cells cs T fr)) (hT : T ≠ 5) (hrow : (Value.slice Ar acc.length cr).ownBlock ≠ some b) (hz : (Value.slice Az zacc.length cz).ownBlock ≠ some b) (h1 : b ≠ b1) (h2 : b ≠ b2) (h0 : w.heap.size < b) : DecP w w1 b1 b2 l x s acc zacc xs er Ab nb cb Ar cr V Az cz := by
  obtain ⟨hR, hrb, hb2, ⟨hv, hrel⟩, ⟨hzv, hzw⟩, hzz, hB, p1, p2⟩ := h
  have hB1 := hB.grown hg hB.size (fun k hk => by cases hk; omega)
  exact ⟨⟨blk_grown' hg hR.1 (fun e => h1 (Option.some.inj e)), hrb.below hB1, hR.2.2⟩, hrb, blk_grown' hg hb2 (fun e => h2 (Option.some.inj e)), ⟨hv.other hg (.inr hrow), hrel.mono fun x a hx => hx.setT hg hb hT⟩, ⟨hzv.other hg (.inr hz), hzw⟩, blk_grown' hg hzz (fun e => by have := Option.some.inj e; omega), hB1, p1, p2⟩
theorem DecP.more (h : DecP w wr b1 b2 l x s acc zacc xs er Ab nb cb Ar cr V Az cz) (hb : Below wr.heap.size wr w1) : DecP w w1 b1 b2 l x s acc zacc xs er Ab nb cb Ar cr V Az cz := by
  obtain ⟨hR, hrb, hb2, ⟨hv, hrel⟩, ⟨hzv, hzw⟩, hzz, hB, p1, p2⟩ := h
  have hB1 := below_then hB hb
  exact ⟨⟨blk_below hb hR.1, hrb.below hB1, hR.2.2⟩, hrb, blk_below hb hb2, ⟨hv.below hb, hrel.mono fun x a hx => hx.below hb⟩, ⟨hzv.below hb, hzw⟩, blk_below hb hzz, hB1, p1, p2⟩
/-- The reader has gone on: all else stays. -/
theorem DecP.read (h : DecP w wr b1 b2 l x s acc zacc xs er Ab nb cb Ar cr V Az cz) (hr : RdC wr w1 b1 Ab nb xs ys e2) : ∃ Ab' nb' cb', DecP w w1 b1 b2 l x s acc zacc ys e2 Ab' nb' cb' Ar cr V Az cz := by
  obtain ⟨hR, hrb, hb2, ⟨hv, hrel⟩, ⟨hzv, hzw⟩, hzz, hB, p1, p2⟩ := h
  obtain ⟨⟨A', n', c', hR', hrb'⟩, hg⟩ := hr
  have hblk := hR.1
  have hB1 := hB.grown hg hB.size (fun k hk => by cases hk; omega)
  have h12 : b1 ≠ b2 := blk_ne hblk hb2 (by decide)
  exact ⟨A', n', c', hR', hrb' _ hrb, blk_grown' hg hb2 (fun e => h12 (Option.some.inj e)), ⟨hv.other hg (.inr (hv.ne_blk hblk (by decide))), hrel.mono fun x a hx => hx.setT hg hblk (by decide)⟩, ⟨hzv.other hg (.inr (hzv.ne_blk hblk (by decide))), hzw⟩, blk_grown' hg hzz (fun e => by have := Option.some.inj e; omega), hB1, p1, p2⟩
theorem DecO.start (h : DecP w wr b1 b2 l x s acc zacc xs er Ab nb cb Ar cr V Az cz) (a b c : Int) : DecO w (wr.alloc (.cells #[.int .i64 a, .int .i64 b, .int .i64 c, .slice none 0 0, .slice none 0 0] 24)) b1 b2 wr.heap.size l x s acc zacc xs er Ab nb cb Ar cr V Az cz (mkTab a b c [] []) (.slice none 0 0) (.slice none 0 0) := by
  refine ⟨h.more (below_alloc' (Below.refl _ _) _), ?_, ?_, heap_alloc_new wr _, OB.nil _ _, OB.nil _ _⟩
  · intro e
    have := (World.ownsRow.lt h.row.1 _ e).2
    omega
  · exact blk_lt h.zero
theorem DecO.read (h : DecO w wr b1 b2 b3 l x s acc zacc xs er Ab nb cb Ar cr V Az cz t lv mv) (hr : RdC wr w1 b1 Ab nb xs ys e2) : ∃ Ab' nb' cb', DecO w w1 b1 b2 b3 l x s acc zacc ys e2 Ab' nb' cb' Ar cr V Az cz t lv mv := by
  obtain ⟨hP, hrow, hlt, hb3, hk, hv⟩ := h
  obtain ⟨A', n', c', hP'⟩ := hP.read hr
  have hblk := hP.1.1
  have hg := hr.2
  exact ⟨A', n', c', hP', hrow, hlt, blk_grown' hg hb3 (fun e => blk_ne hblk hb3 (by decide) (Option.some.inj e)), hk.other hg (.inr (hk.ne_blk hblk (by decide))), hv.other hg (.inr (hv.ne_blk hblk (by decide)))⟩
theorem DecO.set {i : Nat} {v : Value} {t' : TabR} {lv' mv' : Value} (h : DecO w wr b1 b2 b3 l x s acc zacc xs er Ab nb cb Ar cr V Az cz t lv mv)
    (hi : (#[.int .i64 (tNum t), .int .i64 (tLev t), .int .i64 (tSize t), lv, mv] : Array Value).setIfInBounds i v = #[.int .i64 (tNum t'), .int .i64 (tLev t'), .int .i64 (tSize t'), lv', mv']) (hk : OB wr w.heap.size lv' (tLeast t')) (hv : OB wr w.heap.size mv' (tMost t')) :
    DecO w (wr.setCell ⟨b3, i, none⟩ v) b1 b2 b3 l x s acc zacc xs er Ab nb cb Ar cr V Az cz t' lv' mv' := by
  obtain ⟨hP, hrow, hlt, hb3, _, _⟩ := h
  have hg := grown_set wr b3 i v
  have hs := heap_setCell_same wr b3 i _ _ v hb3
  rw [hi] at hs
  exact ⟨hP.step hg hb3 (by decide) hrow (hP.zrow.ne_blk hb3 (by decide)) (blk_ne hb3 hP.1.1 (by decide)) (blk_ne hb3 hP.out (by decide)) hlt, hrow, hlt, hs, hk.other hg (.inr (hk.ne_blk hb3 (by decide))), hv.other hg (.inr (hv.ne_blk hb3 (by decide)))⟩
theorem DecO.push {B : Option Addr} {c' : Nat} (h : DecO w wr b1 b2 b3 l x s acc zacc xs er Ab nb cb Ar cr V Az cz t lv mv) (hg : wr.grownBy w1 (Value.slice Ar acc.length cr).ownBlock)
    (hv' : OV w1 w.heap.size 24 5 (.slice B (acc.length + 1) c') (V ++ [[.int .i64 (tNum t), .int .i64 (tLev t), .int .i64 (tSize t), lv, mv]])) (hw1 : (Lit.int .i64 (tNum t)).wf = true) (hw2 : (Lit.int .i64 (tLev t)).wf = true) (hw3 : (Lit.int .i64 (tSize t)).wf = true) :
    DecL w b1 b2 l x s (acc ++ [t]) zacc xs er (w1.setCell ⟨b2, 3, none⟩ (.slice B (acc.length + 1) c')) := by
  obtain ⟨⟨hR, hrb, hb2, ⟨hv, hrel⟩, ⟨hzv, hzw⟩, hzz, hB, p1, p2⟩, hrow, hlt, hb3, hk, hvv⟩ := h
  have hB1 := hB.grown hg hB.size hv.base_
  have hb21 := blk_grown' hg hb2 (hv.ne_blk hb2 (by decide))
  have hz1 := blk_grown' hg hzz (hv.ne_blk hzz (by decide))
  have hR1 := blk_grown' hg hR.1 (hv.ne_blk hR.1 (by decide))
  have hzv1 := hzv.other hg (own_type_ne hzv.1 hv.1 (by decide))
  have hrel1 : RelV noTab (PTab w1 w.heap.size) (V ++ [[.int .i64 (tNum t), .int .i64 (tLev t), .int .i64 (tSize t), lv, mv]]) (acc ++ [t]) :=
    (hrel.mono fun x a hx => hx.grown hg hv (by decide)).snoc ⟨_, _, rfl, hk.other hg (hk.apart_row hv (by decide)), hvv.other hg (hvv.apart_row hv (by decide)), hw1, hw2, hw3⟩
  have hgs := grown_set w1 b2 3 (.slice B (acc.length + 1) c')
  have hB2 := hB1.grown hgs hB1.size (fun k hk => by cases hk; omega)
  have hl : (acc ++ [t]).length = acc.length + 1 := by simp
  have e12 := blk_ne hR.1 hb2 (by decide)
  refine ⟨Ab, nb, cb, B, c', V ++ [[.int .i64 (tNum t), .int .i64 (tLev t), .int .i64 (tSize t), lv, mv]], Az, cz, ?_⟩
  unfold DecP
  rw [hl]
  exact ⟨⟨blk_grown' hgs hR1 (fun e => e12 (Option.some.inj e).symm), hrb.below hB2, hR.2.2⟩, hrb, heap_setCell_same w1 b2 3 _ _ _ hb21, ⟨hv'.other hgs (.inr (hv'.ne_blk hb21 (by decide))), hrel1.mono fun x a hx => hx.setT hgs hb21 (by decide)⟩, ⟨hzv1.other hgs (.inr (hzv1.ne_blk hb21 (by decide))), hzw⟩, blk_grown' hgs hz1 (fun e => by have := Option.some.inj e; omega), hB2, p1, p2⟩
theorem DecP.pushZ {B : Option Addr} {c' : Nat} {z : Int} (h : DecP w wr b1 b2 l x s acc zacc xs er Ab nb cb Ar cr V Az cz) (hg : wr.grownBy w1 (Value.slice Az zacc.length cz).ownBlock)
    (hv' : OV w1 w.heap.size 2 1 (.slice B (zacc.length + 1) c') (zcells zacc ++ [[.int .i64 z]])) (hw1 : (Lit.int .i64 z).wf = true) :
    DecL w b1 b2 l x s acc (zacc ++ [z]) xs er (w1.setCell ⟨b2, 4, none⟩ (.slice B (zacc.length + 1) c')) := by
  obtain ⟨hR, hrb, hb2, ⟨hv, hrel⟩, ⟨hzv, hzw⟩, hzz, hB, p1, p2⟩ := h
  have hB1 := hB.grown hg hB.size hzv.base_
  have hb21 := blk_grown' hg hb2 (hzv.ne_blk hb2 (by decide))
  have hz1 := blk_grown' hg hzz (hzv.ne_blk hzz (by decide))
  have hR1 := blk_grown' hg hR.1 (hzv.ne_blk hR.1 (by decide))
  have hv1 := hv.other hg (own_type_ne hv.1 hzv.1 (by decide))
  have hrel1 := hrel.mono fun x a hx => PTab.grown hx hg hzv (by decide)
  have hgs := grown_set w1 b2 4 (.slice B (zacc.length + 1) c')
  have hB2 := hB1.grown hgs hB1.size (fun k hk => by cases hk; omega)
  have hl : (zacc ++ [z]).length = zacc.length + 1 := by simp
  have e12 := blk_ne hR.1 hb2 (by decide)
  rw [zcells_snoc] at hv'
  refine ⟨Ab, nb, cb, Ar, cr, V, B, c', ?_⟩
  unfold DecP
  rw [hl]
  refine ⟨⟨blk_grown' hgs hR1 (fun e => e12 (Option.some.inj e).symm), hrb.below hB2, hR.2.2⟩, hrb, heap_setCell_same w1 b2 4 _ _ _ hb21, ⟨hv1.other hgs (.inr (hv1.ne_blk hb21 (by decide))), hrel1.mono fun x a hx => hx.setT hgs hb21 (by decide)⟩, ⟨hv'.other hgs (.inr (hv'.ne_blk hb21 (by decide))), fun j hj => ?_⟩, blk_grown' hgs hz1 (fun e => by have := Option.some.inj e; omega), hB2, p1, p2⟩
  by_cases hj2 : j < zacc.length
  · rw [elt_left' _ _ _ hj2]; exact hzw j hj2
  · rw [elt_right' _ _ _ (by omega), show j - zacc.length = 0 by omega]; exact hw1
theorem DecP.ops (h : DecP w wr b1 b2 l x s acc zacc xs er Ab nb cb Ar cr V Az cz) (hm : acc.length ≤ 9223372036854775807) (hm2 : zacc.length ≤ 9223372036854775807) : RTabs wr Ar acc.length acc ∧ acc.length ≤ cr ∧ RN .i64 wr Az zacc.length zacc ∧ zacc.length ≤ cz := by
  obtain ⟨A, c, e, hc, hr⟩ := RTabs_of_OV h.row h.rel hm
  injection e with e1 e2 e3
  subst e1 e3
  obtain ⟨A, c, e, hc2, hr2⟩ := RN_of_OV h.zrow h.2.2.2.2.1.2 hm2
  injection e with e1 e2 e3
  subst e1 e3
  exact ⟨hr, hc, hr2, hc2⟩
theorem grown_setRow (w : World) (g : Nat) (cs : Array Value) : w.grownBy (w.setRow g cs) (some g) := ⟨rfl, rfl, rfl, by simp, fun k _ hne => setRow_other w g k cs (fun e => hne (congrArg some e))⟩
theorem stepRow {ops : Array Oper} {o : Oper} {a : Act} {w : World} {K : Act → World → Prop} {Q : Exit → Act → World → Prop} {E : Prop} (hwant : Region.wanted o (yielded ops a.tmps) = true) (ty : TypeId) (x y : Operand) (ho : o.op = .store ty x y)
    (g : Nat) (cells : Array Value) (hx : a.eval x = .pointer (some ⟨g, 0, none⟩)) (hy : a.eval y = .agg cells)
    (t : TypeId) (old : Array Value) (hg : w.heap[g]? = some (.cells old t (0, 0))) (hi : (Try.prog.info? ty).map (·.size) = some cells.size)
    (hold : old.size = cells.size) (h1 : cells.all (·.oneCell') = true)
    (h : K (a.put o.dst undef) (w.setRow g cells)) : if Region.wanted o (yielded ops a.tmps) = true then Oper.wp Try.prog o a w K Q else E := by
  rw [if_pos hwant]
  exact wp_store_row ty x y ho g cells hx hy t old hg hi hold h1 h
theorem set5 {b : Nat} {a0 a1 a2 a3 a4 : Value} {T : TypeId} (c0 c1 c2 c3 c4 : Value) (h : wr.heap[b]? = some (.cells #[a0, a1, a2, a3, a4] T (0, 0))) : (((((wr.setCell ⟨b, 0, none⟩ c0).setCell ⟨b, 1, none⟩ c1).setCell ⟨b, 2, none⟩ c2).setCell ⟨b, 3, none⟩ c3).setCell ⟨b, 4, none⟩ c4).heap[b]? = some (.cells #[c0, c1, c2, c3, c4] T (0, 0)) := by
  have h1 := heap_setCell_same wr b 0 _ _ c0 h
  have h2 := heap_setCell_same _ b 1 _ _ c1 h1
  have h3 := heap_setCell_same _ b 2 _ _ c2 h2
  have h4 := heap_setCell_same _ b 3 _ _ c3 h3
  have h5 := heap_setCell_same _ b 4 _ _ c4 h4
  exact h5
theorem grown_set5 (b : Nat) (c0 c1 c2 c3 c4 : Value) : wr.grownBy (((((wr.setCell ⟨b, 0, none⟩ c0).setCell ⟨b, 1, none⟩ c1).setCell ⟨b, 2, none⟩ c2).setCell ⟨b, 3, none⟩ c3).setCell ⟨b, 4, none⟩ c4) (some b) :=
  grown_trans (grown_trans (grown_trans (grown_trans (grown_set _ _ _ _) (grown_set _ _ _ _)) (grown_set _ _ _ _)) (grown_set _ _ _ _)) (grown_set _ _ _ _)
theorem DecP.ans (h : DecP w wr b1 b2 l x s acc zacc xs er Ab nb cb Ar cr V Az cz) (c0 c1 c2 c3 c4 : Value) :
    (((((wr.setCell ⟨w.heap.size, 0, none⟩ c0).setCell ⟨w.heap.size, 1, none⟩ c1).setCell ⟨w.heap.size, 2, none⟩ c2).setCell ⟨w.heap.size, 3, none⟩ c3).setCell ⟨w.heap.size, 4, none⟩ c4).heap[w.heap.size]? = some (.cells #[c0, c1, c2, c3, c4] 30 (0, 0)) ∧
    Below w.heap.size w (((((wr.setCell ⟨w.heap.size, 0, none⟩ c0).setCell ⟨w.heap.size, 1, none⟩ c1).setCell ⟨w.heap.size, 2, none⟩ c2).setCell ⟨w.heap.size, 3, none⟩ c3).setCell ⟨w.heap.size, 4, none⟩ c4) ∧
    (acc.length ≤ 9223372036854775807 → zacc.length ≤ 9223372036854775807 → RTabs (((((wr.setCell ⟨w.heap.size, 0, none⟩ c0).setCell ⟨w.heap.size, 1, none⟩ c1).setCell ⟨w.heap.size, 2, none⟩ c2).setCell ⟨w.heap.size, 3, none⟩ c3).setCell ⟨w.heap.size, 4, none⟩ c4) Ar acc.length acc ∧ acc.length ≤ cr ∧ RN .i64 (((((wr.setCell ⟨w.heap.size, 0, none⟩ c0).setCell ⟨w.heap.size, 1, none⟩ c1).setCell ⟨w.heap.size, 2, none⟩ c2).setCell ⟨w.heap.size, 3, none⟩ c3).setCell ⟨w.heap.size, 4, none⟩ c4) Az zacc.length zacc ∧ zacc.length ≤ cz) := by
  have hz := h.zero
  have hg := grown_set5 (wr := wr) w.heap.size c0 c1 c2 c3 c4
  refine ⟨set5 c0 c1 c2 c3 c4 hz, h.below.grown hg h.below.size (fun k hk => by cases hk; exact Nat.le_refl _), fun hm hm2 => ?_⟩
  have v2 := h.row.other hg (.inr (h.row.ne_blk hz (by decide)))
  have r2 := h.rel.mono fun x a hx => hx.setT hg hz (by decide)
  have z2 := h.zrow.other hg (.inr (h.zrow.ne_blk hz (by decide)))
  obtain ⟨A, c, e, hc, hr⟩ := RTabs_of_OV v2 r2 hm
  injection e with e1 e2 e3
  subst e1 e3
  obtain ⟨A, c, e, hc2, hr2⟩ := RN_of_OV z2 h.2.2.2.2.1.2 hm2
  injection e with e1 e2 e3
  subst e1 e3
  exact ⟨hr, hc, hr2, hc2⟩
end
end Go.Proofs.Ythiolcccgiibhaa
