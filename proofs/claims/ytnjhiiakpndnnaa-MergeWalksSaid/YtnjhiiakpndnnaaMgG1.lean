/- Layer 16: what Merge holds. -/
import Derived.Test.YtnjhiiakpndnnaaMgF
namespace Go.Proofs.Ytnjhiiakpndnnaa
open Go.RowKit
set_option linter.unusedVariables false
set_option linter.unusedSimpArgs false

/-- The row that is made. -/
def OutJ (w wr : World) (v : Value) (out : List EntR) : Prop := ∃ V, OV wr w.heap.size 35 5 v V ∧ RelV noEnt (PEo wr w.heap.size) V out
theorem OutJ.below {w wr w' : World} {v : Value} {out : List EntR} (h : OutJ w wr v out) (hb : Below wr.heap.size wr w') : OutJ w w' v out := by
  obtain ⟨V, h1, h2⟩ := h
  exact ⟨V, h1.below hb, h2.mono fun x a hx => hx.below hb⟩
theorem OutJ.other {w wr w' : World} {v : Value} {out : List EntR} {g : Nat} {cs : Array Value} {T : TypeId} {fr : Nat × Nat} (h : OutJ w wr v out) (hg : wr.grownBy w' (some g)) (hb : wr.heap[g]? = some (.cells cs T fr)) (h1 : T ≠ 35) (h2 : T ≠ 5) : OutJ w w' v out := by
  obtain ⟨V, k1, k2⟩ := h
  refine ⟨V, k1.other hg (.inr (k1.ne_blk hb h1)), k2.mono fun x a hx => ?_⟩
  obtain ⟨kv, vv, e, o1, o2⟩ := hx
  exact ⟨kv, vv, e, o1.other hg (.inr (o1.ne_blk hb h2)), o2.other hg (.inr (o2.ne_blk hb h2))⟩
/-- The heap of heads. -/
def HpS (w wr : World) (bh : Nat) (H : List HeadR) : Prop :=
  (H = [] ∧ ∃ A c, wr.heap[bh]? = some (.cells #[.slice A 0 c] 59 (0, 0))) ∨ (∃ g n c L, 0 < n ∧ n ≤ 64 ∧ HJ w wr w.heap.size bh g n c L H ∧ HF H 0)
/-- Keys and values that may be copied. -/
def SmallR (R : List (List EntR)) : Prop := ∀ r, r < R.length → ∀ e ∈ er R r, (eKey e).length ≤ 100000 ∧ (eVal e).length ≤ 100000
theorem SmallR.tail {R : List (List EntR)} (h : SmallR R) {b : Nat} (hb : b < R.length) {l : List EntR} (hl : er R b = l) : SmallR (R.set b l.tail) := by
  intro r hr e he
  rw [List.length_set] at hr
  rw [er_set hb] at he
  by_cases hrb : r = b
  · rw [if_pos hrb, ← hl] at he
    exact h b hb e (List.mem_of_mem_tail he)
  · rw [if_neg hrb] at he
    exact h r hr e he
/-- Where Merge's loop stands. -/
structure MrgJ (w wr : World) (ess : List (List EntR)) (bh : Nat) (R : List (List EntR)) (H : List HeadR) (out : List EntR) (v : Value) (m : Nat) : Prop where
  out_ : OutJ w wr v out
  hp : HpS w wr bh H
  rep : HdRep H R
  rel : ∀ rest, MRel R rest → MRel ess (out ++ rest)
  tot : out.length + totR R = totR ess
  few : totR ess ≤ 40000
  m_ : m = totR R
  bel : Below w.heap.size w wr
  base_ : w.heap.size ≤ bh
  small : SmallR R
theorem er_len {R : List (List EntR)} {b : Nat} (hb : b < R.length) : (er R b).length ≤ totR R := by
  have := totR_set hb []
  simp at this
  omega
/-- One entry more. -/
theorem MrgJ.step {w wr w' : World} {ess R : List (List EntR)} {bh m : Nat} {h : HeadR} {T H' : List HeadR} {out : List EntR} {v v' : Value} (hJ : MrgJ w wr ess bh R (h :: T) out v m) (ht : HF (h :: T) 0) (ho : OutJ w w' v' (out ++ [hE h])) (hp : HpS w w' bh H') (hrep : HdRep H' (R.set (hRow h) (hL h).tail)) (hb : Below w.heap.size w w') :
    ∃ m', m' < m ∧ MrgJ w w' ess bh (R.set (hRow h) (hL h).tail) H' (out ++ [hE h]) v' m' := by
  obtain ⟨h1, h2, h3⟩ := hJ.rep.is h (by simp)
  have hlen : (er R (hRow h)).length = (hL h).tail.length + 1 := by
    rw [← h2]
    cases hq : hL h with
    | nil => exact absurd hq h3
    | cons a l => simp
  have hts := totR_set h1 (hL h).tail
  have htot := hJ.tot
  refine ⟨totR (R.set (hRow h) (hL h).tail), by rw [hJ.m_]; omega, ho, hp, hrep, fun rest hr => ?_, by simp; omega, hJ.few, rfl, hb, hJ.base_, hJ.small.tail h1 h2.symm⟩
  have := hJ.rel (hE h :: rest) (MRel.step hJ.rep (by simp) (fun x hx => ?_) hr)
  · simpa using this
  · obtain ⟨k, hk, rfl⟩ := List.getElem_of_mem hx
    have := ht.top k hk
    rw [eh, elt_get noHd hk] at this
    exact this
/-- What Merge leaves where rows may be merged. -/
def MergeC (w w' : World) (ess : List (List EntR)) (r : Ending) : Prop := ∃ v out, r = .returned (.tuple #[v, .int .i64 0]) ∧ MRel ess out ∧ out.length = totR ess ∧ ROw w' w.heap.size v out ∧ Below w.heap.size w w'
theorem tot_take {R : List (List EntR)} {k : Nat} (h : k < R.length) : totR (R.take (k + 1)) = totR (R.take k) + (er R k).length := by
  rw [take_succ_elt [] h, totR_app]
  simp [totR, er]
theorem hdsK_nil {R : List (List EntR)} {k : Nat} (h : er R k = []) : hdsK R (k + 1) = hdsK R k := by rw [hdsK, if_pos h]
theorem hdsK_cons {R : List (List EntR)} {k : Nat} (h : er R k ≠ []) : hdsK R (k + 1) = hdsK R k ++ [mkHd (er R k) k] := by rw [hdsK, if_neg h]
/-- Heads so far, and their box. -/
def HbJ (w wr : World) (bh : Nat) (H : List HeadR) : Prop := ∃ v L, OV wr w.heap.size 61 2 v L ∧ RelV noHd (PHd w) L H ∧ wr.heap[bh]? = some (.cells #[v] 59 (0, 0)) ∧ Below w.heap.size w wr
theorem HbJ.hp {w wr : World} {bh : Nat} {H : List HeadR} (h : HbJ w wr bh H) : (H = [] ∧ ∃ A c, wr.heap[bh]? = some (.cells #[.slice A 0 c] 59 (0, 0))) ∨ (∃ g c L, 0 < H.length ∧ HJ w wr w.heap.size bh g H.length c L H) := by
  obtain ⟨v, L, h1, h2, h3, h4⟩ := h
  rcases Nat.eq_zero_or_pos L.length with h0 | h0
  · obtain ⟨A, c, rfl, _⟩ := h1.openN 0 h0
    exact .inl ⟨List.eq_nil_of_length_eq_zero (by rw [← h2.1]; exact h0), A, c, h3⟩
  · obtain ⟨g, c, rfl, _, _, _⟩ := h1.form h0
    rw [h2.1] at h1 h3 h0
    exact .inr ⟨g, c, L, h0, h1, h2, rfl, h3, h4⟩
/-- What the label finds. -/
def MJ (w : World) (A : Option Addr) (n c : Nat) (ess : List (List EntR)) (m : Nat) (a' : Act) (w' : World) : Prop := ∃ (bh : Nat) (vout : Value) (R : List (List EntR)) (Hh : List HeadR) (out : List EntR) (u1 u2 u3 u4 u5 u6 u8 u9 u11 u12 u13 u14 u15 u16 u17 u18 u19 u20 u21 u22 u23 u24 u25 u26 u27 u28 u29 u30 u31 u32 u33 u34 u35 u36 u37 u38 u39 u40 u41 u42 u43 u44 u45 u46 u47 u48 u49 u50 u51 u52 u53 u54 u55 u56 u57 u58 u59 u60 u61 u62 u63 u64 u65 u66 u67 u68 u69 u70 u71 u72 u73 u74 u75 u76 u77 u78 u79 u80 u81 u82 u83 u84 u85 u86 u87 u88 u89 u90 u91 u92 u93 u94 u95 u96 u97 u98 : Value), a' = { tmps := #[.slice A n c, u1, u2, u3, u4, u5, u6, .pointer (some ⟨bh, 0, none⟩), u8, u9, vout, u11, u12, u13, u14, u15, u16, u17, u18, u19, u20, u21, u22, u23, u24, u25, u26, u27, u28, u29, u30, u31, u32, u33, u34, u35, u36, u37, u38, u39, u40, u41, u42, u43, u44, u45, u46, u47, u48, u49, u50, u51, u52, u53, u54, u55, u56, u57, u58, u59, u60, u61, u62, u63, u64, u65, u66, u67, u68, u69, u70, u71, u72, u73, u74, u75, u76, u77, u78, u79, u80, u81, u82, u83, u84, u85, u86, u87, u88, u89, u90, u91, u92, u93, u94, u95, u96, u97, u98], defers := [] } ∧ MrgJ w w' ess bh R Hh out vout m
theorem HJ.other {w W W' : World} {base bh g n c : Nat} {L : List (List Value)} {H : List HeadR} {row : Option Nat} (h : HJ w W base bh g n c L H) (hg : W.grownBy W' row) (h1 : row ≠ some g) (h2 : row ≠ some bh) (hb : Below w.heap.size w W') : HJ w W' base bh g n c L H :=
  ⟨h.ov.other hg (.inr (fun e => h1 (e.symm))), h.rel, h.len, blk_grown' hg h.box h2, hb⟩
/-- The first head's row is written. -/
theorem HJ.rec0 {w W : World} {base bh g n c : Nat} {L : List (List Value)} {hd : HeadR} {T : List HeadR} (h : HJ w W base bh g n c L (hd :: T)) (hb : w.heap.size ≤ base) (u : Value) (hu : u.oneCell' = true) :
    OV (W.setCell ⟨g, 0, none⟩ u) base 61 2 (.slice (some ⟨g, 0, none⟩) n c) (L.set 0 [u, .int .i64 (hRow hd : Int)]) ∧ (W.setCell ⟨g, 0, none⟩ u).heap[bh]? = some (.cells #[.slice (some ⟨g, 0, none⟩) n c] 59 (0, 0)) ∧ Below w.heap.size w (W.setCell ⟨g, 0, none⟩ u) := by
  have hn : 0 < n := by have := h.len; simp at this; omega
  obtain ⟨A, m, d, _, _, _, _, _, hx⟩ := h.cells hn
  have hl := h.llen
  obtain ⟨cur, hcur⟩ := h.ov.blk
  have hne : g ≠ bh := blk_ne hcur h.box (by decide)
  have hx' : L[0]? = some [.slice A m d, .int .i64 (hRow hd : Int)] := by rw [List.getElem?_eq_getElem (by omega), ← elt_get [] (by omega)]; exact congrArg some hx
  have h1 := h.ov.set1 hl hx' (k := 0) (by omega) u hu
  have hgr := grown_set W g 0 u
  have hgb : base ≤ g := h.ov.base_ g rfl
  refine ⟨by simpa using h1, blk_grown' hgr h.box (fun e => hne (Option.some.inj e)), h.bel.grown hgr h.bel.size (fun k hk => by cases hk; omega)⟩
theorem PHd.intro {w : World} {A : Option Addr} {n c : Nat} {l : List EntR} {r : Nat} (h : REnts w A n l) (hc : n ≤ c) (h0 : 0 < n) : PHd w [.slice A n c, .int .i64 (r : Int)] (mkHd l r) := ⟨A, n, c, rfl, h, hc, h0⟩
theorem RelV.set0 {w : World} {L : List (List Value)} {H : List HeadR} (h : RelV noHd (PHd w) L H) {x : List Value} {y : HeadR} (hx : PHd w x y) : RelV noHd (PHd w) (L.set 0 x) (H.set 0 y) := by
  refine ⟨by rw [List.length_set, List.length_set]; exact h.1, fun k hk => ?_⟩
  rw [List.length_set] at hk
  have hl := h.1
  rw [elt_set [] L 0 k x (by omega), elt_set noHd H 0 k y (by omega)]
  by_cases e : k = 0
  · rw [if_pos e, if_pos e]; exact hx
  · rw [if_neg e, if_neg e]; exact h.2 k hk
/-- The first head, behind the store of what is left of its row. -/
structure StA (w W : World) (bh g n c : Nat) (L : List (List Value)) (hd : HeadR) (m : Nat) (A2 : Option Addr) (d2 : Nat) : Prop where
  ov : OV W w.heap.size 61 2 (.slice (some ⟨g, 0, none⟩) n c) (L.set 0 [.slice A2 m d2, .int .i64 (hRow hd : Int)])
  box : W.heap[bh]? = some (.cells #[.slice (some ⟨g, 0, none⟩) n c] 59 (0, 0))
  bel : Below w.heap.size w W
  ents : REnts w A2 m (hL hd).tail
  cap : m ≤ d2
theorem StA.below {w W W' : World} {bh g n c m d2 : Nat} {A2 : Option Addr} {L : List (List Value)} {hd : HeadR} (h : StA w W bh g n c L hd m A2 d2) (hb : Below W.heap.size W W') : StA w W' bh g n c L hd m A2 d2 := ⟨h.ov.below hb, blk_below hb h.box, below_then h.bel hb, h.ents, h.cap⟩
theorem StA.cells {w W : World} {bh g n c m d2 : Nat} {A2 : Option Addr} {L : List (List Value)} {hd : HeadR} (h : StA w W bh g n c L hd m A2 d2) (hn : L.length = n) (h0 : 0 < n) : W.cell? ⟨g, 0, none⟩ = some (.slice A2 m d2) ∧ W.cell? ⟨g, 1, none⟩ = some (.int .i64 (hRow hd : Int)) ∧ W.cell? ⟨bh, 0, none⟩ = some (.slice (some ⟨g, 0, none⟩) n c) ∧ ∃ cur, W.heap[g]? = some (.cells cur 61 (0, 0)) := by
  have ho := h.ov
  have hl : (L.set 0 [.slice A2 m d2, .int .i64 (hRow hd : Int)]).length = n := by rw [List.length_set, hn]
  have hx : elt [] (L.set 0 [.slice A2 m d2, .int .i64 (hRow hd : Int)]) 0 = [.slice A2 m d2, .int .i64 (hRow hd : Int)] := by rw [elt_set [] L 0 0 _ (by omega), if_pos rfl]
  rw [← hl] at ho
  have hc := fun i (hi : i < 2) => ho.cell (j := 0) (i := i) (by omega) hi
  rw [hx] at hc
  exact ⟨by simpa using hc 0 (by omega), by simpa using hc 1 (by omega), box_at h.box 0 _ rfl, h.ov.blk⟩
theorem StA.cellq {w W : World} {bh g q c m d2 : Nat} {A2 : Option Addr} {L : List (List Value)} {hd : HeadR} (h : StA w W bh g (q + 1) c L hd m A2 d2) (hn : L.length = q + 1) {a b : Value} (hx : elt [] (L.set 0 [.slice A2 m d2, .int .i64 (hRow hd : Int)]) q = [a, b]) : W.cell? ⟨g, q * 2, none⟩ = some a ∧ W.cell? ⟨g, q * 2 + 1, none⟩ = some b := by
  have ho := h.ov
  have hl : (L.set 0 [.slice A2 m d2, .int .i64 (hRow hd : Int)]).length = q + 1 := by rw [List.length_set, hn]
  rw [← hl] at ho
  have hc := fun i (hi : i < 2) => ho.cell (j := q) (i := i) (by omega) hi
  rw [hx] at hc
  exact ⟨by simpa using hc 0 (by omega), by simpa using hc 1 (by omega)⟩
theorem lastRec {w : World} {L : List (List Value)} {H : List HeadR} {q m d2 r : Nat} {A2 : Option Addr} (hr : RelV noHd (PHd w) L H) (hl : H.length = q + 1) : ∃ Aq mq dq rq, elt [] (L.set 0 [.slice A2 m d2, .int .i64 (r : Int)]) q = [.slice Aq mq dq, .int .i64 (rq : Nat)] ∧ (0 < q → elt [] L q = [.slice Aq mq dq, .int .i64 (rq : Nat)]) := by
  have h1 := hr.1
  have e := elt_set [] L 0 q [.slice A2 m d2, .int .i64 (r : Int)] (by omega)
  by_cases hq : q = 0
  · rw [if_pos hq] at e
    exact ⟨A2, m, d2, r, e, fun h => absurd h (by omega)⟩
  · rw [if_neg hq] at e
    obtain ⟨A, n, c, hx, _⟩ := hr.2 q (by omega)
    exact ⟨A, n, c, hRow (elt noHd H q), e.trans hx, fun _ => hx⟩
theorem StA.hj {w W : World} {bh g n c m d2 : Nat} {A2 : Option Addr} {L : List (List Value)} {hd : HeadR} {T : List HeadR} (h : StA w W bh g n c L hd m A2 d2) (hr : RelV noHd (PHd w) L (hd :: T)) (hl : (hd :: T).length = n) (h0 : 0 < m) :
    HJ w W w.heap.size bh g n c (L.set 0 [.slice A2 m d2, .int .i64 (hRow hd : Int)]) (mkHd (hL hd).tail (hRow hd) :: T) :=
  ⟨h.ov, by have := RelV.set0 hr (PHd.intro (r := hRow hd) h.ents h.cap h0); simpa using this, by simpa using hl, h.box, h.bel⟩
/-- .. behind the copy of the last head. -/
structure StB (w W : World) (bh g q c : Nat) (L : List (List Value)) : Prop where
  ov : 0 < q → OV W w.heap.size 61 2 (.slice (some ⟨g, 0, none⟩) (q + 1) c) (L.set 0 (elt [] L q))
  box : W.heap[bh]? = some (.cells #[.slice (some ⟨g, 0, none⟩) (q + 1) c] 59 (0, 0))
  bel : Below w.heap.size w W
theorem StB.below {w W W' : World} {bh g q c : Nat} {L : List (List Value)} (h : StB w W bh g q c L) (hb : Below W.heap.size W W') : StB w W' bh g q c L := ⟨fun h0 => (h.ov h0).below hb, blk_below hb h.box, below_then h.bel hb⟩
theorem StA.copy {w W : World} {bh g q c d2 : Nat} {A2 : Option Addr} {L : List (List Value)} {hd : HeadR} {a b : Value} (h : StA w W bh g (q + 1) c L hd 0 A2 d2) (hl : L.length = q + 1) (hq : 0 < q → elt [] L q = [a, b]) (hu : a.oneCell' = true) (hv : b.oneCell' = true) :
    StB w ((W.setCell ⟨g, 0, none⟩ a).setCell ⟨g, 1, none⟩ b) bh g q c L := by
  obtain ⟨cur, hcur⟩ := h.ov.blk
  have hne : g ≠ bh := blk_ne hcur h.box (by decide)
  have hgr := grown_trans (grown_set W g 0 a) (grown_set _ g 1 b)
  have hgb : w.heap.size ≤ g := h.ov.base_ g rfl
  refine ⟨fun h0 => ?_, blk_grown' hgr h.box (fun e => hne (Option.some.inj e)), h.bel.grown hgr h.bel.size (fun k hk => by cases hk; omega)⟩
  rw [hq h0]
  have := h.ov.setRec (i := 0) (x := .slice A2 0 d2) (y := .int .i64 (hRow hd : Int)) (by rw [List.length_set]; exact hl) (by rw [List.getElem?_set_self (by omega)]) a b hu hv
  simpa using this
/-- .. and behind the cut. -/
theorem StB.hj {w W : World} {bh g q c : Nat} {L : List (List Value)} {hd : HeadR} {T : List HeadR} (h : StB w W bh g q c L) (hbh : w.heap.size ≤ bh) (h0 : 0 < q) (hr : RelV noHd (PHd w) L (hd :: T)) (hl : (hd :: T).length = q + 1) :
    HJ w (W.setCell ⟨bh, 0, none⟩ (.slice (some ⟨g, 0, none⟩) q c)) w.heap.size bh g q c ((L.set 0 (elt [] L q)).take q) (((hd :: T).set 0 (eh (hd :: T) q)).take q) := by
  have hL : L.length = q + 1 := by rw [hr.1, hl]
  have ho := (h.ov h0).shrink (k := q) (by simpa using hL) (by omega)
  obtain ⟨cur, hcur⟩ := (h.ov h0).blk
  have hne : g ≠ bh := blk_ne hcur h.box (by decide)
  refine ⟨ho.other (grown_set W bh 0 _) (.inr (fun e => hne (Option.some.inj e))), ?_, by rw [List.length_take, List.length_set, hl]; omega, heap_setCell_same W bh 0 _ _ _ h.box, h.bel.setCell hbh _⟩
  exact RelV.take (RelV.set0 hr (hr.2 q (by omega))) q
theorem StB.box0 {w W : World} {bh g q c : Nat} {L : List (List Value)} (h : StB w W bh g q c L) : (W.setCell ⟨bh, 0, none⟩ (.slice (some ⟨g, 0, none⟩) q c)).heap[bh]? = some (.cells #[.slice (some ⟨g, 0, none⟩) q c] 59 (0, 0)) := heap_setCell_same W bh 0 _ _ _ h.box
end Go.Proofs.Ytnjhiiakpndnnaa
