/- Shared texts, part S28: TbS, OSn, BkG, BkH, BkI, R3, BkJ. -/
import Derived.Deep.AppendSrc
import Derived.Laws.IdiomCopy
import Derived.Test.YtkkclkknpjapcaaDoorS02
import Derived.Test.YtkkclkknpjapcaaDoorS06
import Derived.Test.YtkkclkknpjapcaaDoorS18
import Derived.Test.YtkkclkknpjapcaaDoorS16
/-! ### TbS -/
namespace Go.Proofs.YtkkclkknpjapcaaDoor
open Go.RowKit
set_option linter.unusedVariables false
set_option linter.unusedSimpArgs false

theorem cells_row (g : Nat) (t : TypeId) : ∀ (vs : List Value) (o : Nat) (w : World) (cur : Array Value), w.heap[g]? = some (.cells cur t (0, 0)) → o + vs.length ≤ cur.size →
    ∃ cur', (w.setCells g o vs).heap[g]? = some (.cells cur' t (0, 0)) ∧ cur'.size = cur.size ∧ cur'.toList.take (o + vs.length) = cur.toList.take o ++ vs
  | [], o, w, cur, h, _ => ⟨cur, h, rfl, by simp⟩
  | v :: r, o, w, cur, h, hl => by
    have hl' : o + (r.length + 1) ≤ cur.size := hl
    have h1 : (w.setCell ⟨g, o, none⟩ v).heap[g]? = some (.cells (cur.setIfInBounds o v) t (0, 0)) := heap_setCell_same w g o cur t v h
    obtain ⟨cur', h2, h3, h4⟩ := cells_row g t r (o + 1) _ _ h1 (by simp; omega)
    refine ⟨cur', h2, by simpa using h3, ?_⟩
    rw [List.length_cons, show o + (r.length + 1) = o + 1 + r.length by omega, h4]
    have e : (cur.setIfInBounds o v).toList.take (o + 1) = cur.toList.take o ++ [v] := by
      apply List.ext_getElem?
      intro i
      simp only [Array.toList_setIfInBounds, List.getElem?_take, List.getElem?_append, List.length_take, Array.length_toList, List.getElem?_set]
      rw [Nat.min_eq_left (show o ≤ cur.size by omega)]
      rcases (by omega : i < o ∨ i = o ∨ o < i) with hi | rfl | hi
      · simp [hi, show i < o + 1 by omega, show ¬ o = i by omega]
      · have : i < cur.size := by omega
        simp [this]
      · rw [if_neg (by omega), if_neg (by omega)]
        obtain ⟨d, hd⟩ : ∃ d, i - o = d + 1 := ⟨i - o - 1, by omega⟩
        rw [hd]
        rfl
    rw [e]
    simp
theorem grown_cells (g : Nat) : ∀ (vs : List Value) (o : Nat) (w : World), w.grownBy (w.setCells g o vs) (some g)
  | [], _, w => ⟨rfl, rfl, rfl, Nat.le_refl _, fun _ _ _ => rfl⟩
  | v :: r, o, w => by
    have h1 : w.grownBy (w.setCell ⟨g, o, none⟩ v) (some g) := ⟨rfl, rfl, rfl, by simp, fun i hi hne => heap_setCell_other w _ i v (fun e => hne (by rw [e]))⟩
    have h2 := grown_cells g r (o + 1) (w.setCell ⟨g, o, none⟩ v)
    exact ⟨h2.os.trans h1.os, h2.tape.trans h1.tape, h2.output.trans h1.output, Nat.le_trans h1.size h2.size, fun i hi hne => (h2.block i (Nat.lt_of_lt_of_le hi h1.size) hne).trans (h1.block i hi hne)⟩
theorem bys_bstr (zs : List UInt8) : byteCells (bstr zs) = bys zs := by simp [byteCells, bstr, bys]
theorem bstr_size (zs : List UInt8) : (bstr zs).size = zs.length := by simp [bstr, ByteArray.size]
theorem run_appendB_str (w : World) (ty : TypeId) (base : Nat) (v : Value) (xs : List UInt8) (hown : OB w base v xs) (zs : List UInt8) (hz0 : 0 < zs.length) (hbytes : xs.length + zs.length ≤ 140737488355328) (hbase : base ≤ w.heap.size) :
    ∃ v' w', (Builtin.append_ #[23, 9] ty #[v, .string (bstr zs)]).run Tryd.prog w = .ok v' w' ∧ OB w' base v' (xs ++ zs) ∧ w.grownBy w' v.ownBlock ∧ (v'.ownBlock = v.ownBlock ∨ v'.ownBlock = some w.heap.size) := by
  obtain ⟨i, hi, hz, hsize, hby⟩ := info_parts u8info
  have hs : Src Tryd.prog i.size 9 (.string (bstr zs)) zs.length (bys zs) w := by
    have h := Src.ofString (P := Tryd.prog) w (tx := 9) strB (bstr zs)
    rw [bys_bstr, bstr_size] at h
    rw [hsize]
    exact h
  have hnl : (bys zs).length = zs.length := bys_length zs
  have hgr : ∀ (old : Nat), old < xs.length + zs.length → ∀ row : Option Nat,
      OB (w.drew.alloc (.cells ((bys xs ++ bys zs).toArray ++ Builtin.zeroCells (Value.int .u8 0).cells (grownCap w (xs.length + zs.length) old 5 - (xs.length + zs.length))) 5)) base (.slice (some ⟨w.heap.size, 0, none⟩) (xs.length + zs.length) (grownCap w (xs.length + zs.length) old 5)) (xs ++ zs) ∧
      w.grownBy (w.drew.alloc (.cells ((bys xs ++ bys zs).toArray ++ Builtin.zeroCells (Value.int .u8 0).cells (grownCap w (xs.length + zs.length) old 5 - (xs.length + zs.length))) 5)) row := by
    intro old ho row
    have hge := grownCap_ge w (xs.length + zs.length) old 5
    have hcm : grownCap w (xs.length + zs.length) old 5 ≤ maxLen := grownCap_le_maxLen w (xs.length + zs.length) old _ (by simp only [maxLen]; omega)
    refine ⟨?_, ⟨rfl, rfl, rfl, by simp, fun k hk _ => Below.heap_alloc _ _ _ hk⟩⟩
    unfold OB
    rw [List.length_append, bys_append]
    refine ⟨by simp [bys_length], .inr ⟨w.heap.size, _, _, rfl, hbase, heap_alloc_new w.drew _, hge, hcm, ?_, ?_⟩⟩
    · simp [size_zeroCells, bys_length, Value.cells]
      omega
    · have hll : (bys xs ++ bys zs).length = (xs.length + zs.length) * 1 := by simp [bys_length]
      rw [Array.toList_append, ← hll, List.take_left']
      rfl
  rcases hown.2 with ⟨rfl, hx0⟩ | ⟨g, cap, cur, rfl, hbg, hg, hnc, hcm, hcs, htake⟩
  · have hr := run_append_grow_src (P := Tryd.prog) w 23 9 ty 5 i (.int .u8 0) Tryd.underlying23 hi hz none 0 0 [] (by exact run_firstCells_none w.drew i.size 0 0 0) (.string (bstr zs)) zs.length (bys zs) hs (by omega) (by omega) (by rw [hby]; exact growslice_fits (by omega) (by omega))
    have hg := hgr 0 (by omega) (Value.slice none 0 0).ownBlock
    rw [hx0] at hg
    obtain rfl : xs = [] := List.eq_nil_of_length_eq_zero hx0
    refine ⟨_, _, hr, ?_, ?_, .inr rfl⟩
    · simpa [bys] using hg.1
    · simpa [bys] using hg.2
  · by_cases hroom : xs.length + zs.length ≤ cap
    · have hcur : xs.length + zs.length ≤ cur.size := by rw [hcs]; omega
      have hcell : ∀ j, j < (bys zs).length → (w.cell? ⟨g, 0 + xs.length * i.size + j, none⟩).isSome = true := by
        intro j hj
        rw [hsize, cell_of_row w g _ cur 5 (0, 0) hg]
        rw [hnl] at hj
        simp
        omega
      have hfr : ∀ j, j < (bys zs).length → w.frozen? ⟨g, 0 + xs.length * i.size + j, none⟩ = false := fun j _ => frozen_of_row w g _ cur _ hg
      have hr := run_append_room_src (P := Tryd.prog) w 23 9 ty 5 i Tryd.underlying23 hi g 0 xs.length cap (.string (bstr zs)) zs.length (bys zs) hs hroom hcell hfr
      have ho : 0 + xs.length * i.size = xs.length := by rw [hsize]; omega
      rw [ho] at hr
      obtain ⟨cur', h1, h2, h3⟩ := cells_row g 5 (bys zs) xs.length w cur hg (by rw [hnl]; exact hcur)
      refine ⟨_, _, hr, ?_, grown_cells g _ _ w, .inl rfl⟩
      unfold OB
      rw [List.length_append, bys_append]
      refine ⟨by simp [bys_length], .inr ⟨g, cap, cur', rfl, hbg, h1, hroom, hcm, by rw [h2, hcs], ?_⟩⟩
      rw [Nat.mul_one] at htake ⊢
      rw [hnl] at h3
      rw [h3, htake]
    · have hold : (Builtin.firstCells i.size xs.length (.slice (some ⟨g, 0, none⟩) xs.length cap)).run Tryd.prog w.drew = .ok (bys xs).toArray w.drew := by
        rw [hsize]
        exact run_firstCells_some w.drew 1 xs.length ⟨g, 0, none⟩ xs.length cap (bys xs) (by rw [bys_length]; omega) (fun j u hu => by simpa using World.ownsRow.cells hown (g := g) rfl j u hu)
      have hr := run_append_grow_src (P := Tryd.prog) w 23 9 ty 5 i (.int .u8 0) Tryd.underlying23 hi hz (some ⟨g, 0, none⟩) xs.length cap (bys xs) hold (.string (bstr zs)) zs.length (bys zs) hs (by omega) (by omega) (by rw [hby]; exact growslice_fits (by omega) (by omega))
      have hgg := hgr cap (by omega) (some g)
      exact ⟨_, _, hr, hgg.1, hgg.2, .inr rfl⟩
/-- append of a string's bytes. -/
theorem wpB_append_str {ops : Array Oper} {rest : List Oper} {o : Oper} {a : Act} {Q : Exit → Act → World → Prop} (w0 w : World) (base : Nat) (hgd : o.guard = none) (s x : Operand)
    (ho : o.op = .call { callee := .builtin .append, args := #[s, x], argTypes := #[23, 9] })
    (v : Value) (xs : List UInt8) (hs : a.eval s = v) (hown : OB w base v xs) (zs : List UInt8) (str : ByteArray) (hx : a.eval x = .string str) (hstr : str = bstr zs) (hz0 : 0 < zs.length)
    (hbytes : xs.length + zs.length ≤ 140737488355328) (hB : Below base w0 w) (hbase : base ≤ w.heap.size)
    (h : ∀ v' w', OB w' base v' (xs ++ zs) → Below base w0 w' → w.grownBy w' v.ownBlock → AtRow w.heap.size v v' → wpList Tryd.prog ops Q rest (a.put o.dst v') w') : wpList Tryd.prog ops Q (o :: rest) a w := by
  subst hstr
  refine wpList_plain hgd fun K hK => ?_
  obtain ⟨v', w', hr, h2, h3, h4⟩ := run_appendB_str w o.type base v xs hown zs hz0 hbytes hbase
  unfold Oper.wp execOp
  simp only [ho, resolve, invoke, builtin, Sem.run_bind, Sem.run_pure, Result.andThen_ok, List.map_toArray, List.map_cons, List.map_nil, hs, hx, hr]
  exact hK _ _ (h v' w' h2 (hB.grown h3 hbase (own_base hown)) h3 (h4.imp id fun e => ⟨_, e, Nat.le_refl _⟩))
end Go.Proofs.YtkkclkknpjapcaaDoor
/-! ### OSn -/
namespace Go.Proofs.YtkkclkknpjapcaaDoor
open Go.RowKit
set_option linter.unusedVariables false
set_option linter.unusedSimpArgs false

theorem bsinfo : (Tryd.prog.info? 23).map (fun i => (i.zero, i.size, i.bytes)) = some (some (.slice none 0 0), 1, 24) := by kernel_rfl
/-- Values that are slices of bytes, read in a world. -/
def RBW (w : World) (V : List Value) (xss : List (List UInt8)) : Prop :=
  V.length = xss.length ∧ ∀ j, j < V.length → ∃ A n c, elt undef V j = .slice A n c ∧ RB w A n (elt [] xss j) ∧ n ≤ c
section
variable {w w' : World} {V V2 : List Value} {xss yss : List (List UInt8)}
theorem RBW.nil (w : World) : RBW w [] [] := ⟨rfl, fun j h => absurd h (by simp)⟩
theorem RBW.below (h : RBW w V xss) (hb : Below w.heap.size w w') : RBW w' V xss := ⟨h.1, fun j hj => by
  obtain ⟨A, n, c, e, h1, h2⟩ := h.2 j hj
  exact ⟨A, n, c, e, h1.below hb, h2⟩⟩
theorem elt_left {α : Type} (d : α) (a b : List α) {j : Nat} (hj : j < a.length) : elt d (a ++ b) j = elt d a j := by
  unfold elt
  simp [List.getElem?_append, hj]
theorem elt_right {α : Type} (d : α) (a b : List α) {j : Nat} (hj : a.length ≤ j) : elt d (a ++ b) j = elt d b (j - a.length) := by
  unfold elt
  rw [List.getD_eq_getElem?_getD, List.getD_eq_getElem?_getD, List.getElem?_append_right hj]
theorem RBW.append (h : RBW w V xss) (h2 : RBW w V2 yss) : RBW w (V ++ V2) (xss ++ yss) := by
  refine ⟨by rw [List.length_append, List.length_append, h.1, h2.1], fun j hj => ?_⟩
  by_cases hjv : j < V.length
  · obtain ⟨A, n, c, e, h3, h4⟩ := h.2 j hjv
    exact ⟨A, n, c, by rw [elt_left _ _ _ hjv]; exact e, by rw [elt_left _ _ _ (by rw [← h.1]; exact hjv)]; exact h3, h4⟩
  · rw [List.length_append] at hj
    obtain ⟨A, n, c, e, h3, h4⟩ := h2.2 (j - V.length) (by omega)
    refine ⟨A, n, c, by rw [elt_right _ _ _ (by omega)]; exact e, ?_, h4⟩
    rw [elt_right _ _ _ (by rw [← h.1]; omega), ← h.1]
    exact h3
theorem RBW.one {A : Option Addr} {n c : Nat} {xs : List UInt8} (h : RB w A n xs) (hc : n ≤ c) : RBW w [.slice A n c] [xs] := by
  refine ⟨rfl, fun j hj => ?_⟩
  obtain rfl : j = 0 := by simpa using hj
  exact ⟨A, n, c, rfl, h, hc⟩
theorem RBW.ones (h : RBW w V xss) : ∀ u ∈ V, u.oneCell' = true := by
  intro u hu
  obtain ⟨j, hj, e⟩ := List.mem_iff_getElem.1 hu
  obtain ⟨A, n, c, e2, _, _⟩ := h.2 j hj
  have : elt undef V j = u := by unfold elt; simp [hj, e]
  rw [← this, e2]
  rfl
theorem RBs.vals {A : Option Addr} {n : Nat} (h : RBs w A n xss) : ∃ V : List Value, V.length = n ∧ RBW w V xss ∧ Reads w 1 A n V := by
  have each : ∀ j, ∃ v : Value, j < n → ∃ ad, A = some ad ∧ w.cell? (ad.add j) = some v ∧ ∃ Aj nj cj, v = .slice Aj nj cj ∧ RB w Aj nj (elt [] xss j) ∧ nj ≤ cj := by
    intro j
    by_cases hj : j < n
    · obtain ⟨ad, e, Aj, nj, cj, h1, h2, h3⟩ := h.at_ hj
      exact ⟨_, fun _ => ⟨ad, e, h1, Aj, nj, cj, rfl, h2, h3⟩⟩
    · exact ⟨undef, fun h => absurd h hj⟩
  obtain ⟨F, hF⟩ := Classical.axiomOfChoice each
  have hel : ∀ j, j < n → elt undef ((List.range n).map F) j = F j := fun j hj => by unfold elt; simp [hj]
  refine ⟨(List.range n).map F, by simp, ⟨by simp [h.1], fun j hj => ?_⟩, ⟨by simp, fun hn => ?_⟩⟩
  · have hjn : j < n := by simpa using hj
    obtain ⟨ad, e, h1, Aj, nj, cj, h2, h3, h4⟩ := hF j hjn
    exact ⟨Aj, nj, cj, by rw [hel j hjn]; exact h2, h3, h4⟩
  · obtain ⟨ad, e, _⟩ := hF 0 hn
    refine ⟨ad, e, fun j u hu => ?_⟩
    have hjn : j < n := by
      rcases Nat.lt_or_ge j n with h1 | h1
      · exact h1
      · rw [List.getElem?_eq_none (by simpa using h1)] at hu; cases hu
    obtain ⟨ad2, e2, h1, _⟩ := hF j hjn
    rw [e] at e2
    cases e2
    rw [h1]
    simpa [hjn] using hu
def OS (w : World) (base : Nat) (v : Value) (V : List Value) : Prop := w.ownsRow base 23 1 v V.length V
variable {base : Nat} {v : Value}
theorem OS.nil (w : World) (base : Nat) : OS w base (.slice none 0 0) [] := World.ownsRow_nil _ _ _ _
theorem OS.empty (w : World) (base : Nat) (hb : base ≤ w.heap.size) : OS (w.alloc (.cells #[] 23)) base (.slice (some ⟨w.heap.size, 0, none⟩) 0 0) [] := World.ownsRow_made w #[] 0 hb (by decide) rfl
theorem OS.below (h : OS w base v V) (hb : Below w.heap.size w w') : OS w' base v V := own_below h hb
theorem OS.reads (h : OS w base v V) : ∃ A c, v = .slice A V.length c ∧ V.length ≤ c ∧ Reads w 1 A V.length V := by
  rcases Nat.eq_zero_or_pos V.length with h0 | h0
  · obtain ⟨A, c, rfl⟩ := own_slice h
    exact ⟨A, c, rfl, own_cap h, ⟨by omega, fun hn => absurd hn (by omega)⟩⟩
  · obtain ⟨g, cap, e, h1, h2⟩ := World.ownsRow.form h h0
    subst e
    refine ⟨_, cap, rfl, own_cap h, ⟨by omega, fun hn => ⟨_, rfl, fun j u hu => ?_⟩⟩⟩
    have hj : j < V.length := by
      rcases Nat.lt_or_ge j V.length with h3 | h3
      · exact h3
      · rw [List.getElem?_eq_none h3] at hu; cases hu
    rw [add_plain, Nat.zero_add, World.ownsRow.cellAt h j (by omega), hu]
theorem OS.readsN (h : OS w base v V) (N : Nat) (hl : V.length = N) : ∃ A c, v = .slice A N c ∧ N ≤ c ∧ Reads w 1 A N V := by
  subst hl
  exact h.reads
theorem RBs_of_reads {A : Option Addr} {n : Nat} (h : Reads w 1 A n V) (hw : RBW w V xss) (hm : n ≤ 9223372036854775807) : RBs w A n xss := by
  have hn1 : V.length = n := by have := h.1; omega
  refine ⟨by rw [← hw.1, hn1], hm, fun hn => ?_⟩
  obtain ⟨ad, e, h1⟩ := h.2 hn
  refine ⟨ad, e, fun j hj => ?_⟩
  obtain ⟨Aj, nj, cj, e2, h2, h3⟩ := hw.2 j (by omega)
  refine ⟨Aj, nj, cj, ?_, h2, h3⟩
  rw [← e2]
  apply h1
  unfold elt
  have : j < V.length := by omega
  simp [this]
end
/-- append of slices of bytes onto a row of the call's own. -/
theorem wpS_append {ops : Array Oper} {rest : List Oper} {o : Oper} {a : Act} {Q : Exit → Act → World → Prop} (w0 w : World) (base : Nat) (hgd : o.guard = none) (s x : Operand)
    (ho : o.op = .call { callee := .builtin .append, args := #[s, x], argTypes := #[60, 60] })
    (v : Value) (V : List Value) (hs : a.eval s = v) (hown : OS w base v V) (A : Option Addr) (m c : Nat) (V2 : List Value) (hx : a.eval x = .slice A m c) (hr : Reads w 1 A m V2) (h1 : ∀ u ∈ V2, u.oneCell' = true)
    (hbytes : (V.length + m) * 24 ≤ 140737488355328) (hB : Below base w0 w) (hbase : base ≤ w.heap.size)
    (h : ∀ v' w', OS w' base v' (V ++ V2) → Below base w0 w' → wpList Tryd.prog ops Q rest (a.put o.dst v') w') : wpList Tryd.prog ops Q (o :: rest) a w := by
  have hm : V2.length = m := by have := hr.1; omega
  refine wpList_append_any w hgd s x _ ho base 23 (.slice none 0 0) 1 24 Tryd.underlying60 bsinfo rfl (by omega) v V.length V hs hown A m c V2 hx hr h1 (by simp only [maxLen]; omega) hbytes hbase ?_
  intro v' w' h2 h3 h4
  refine h v' w' ?_ (hB.grown h3 hbase (own_base hown))
  show w'.ownsRow _ _ _ _ _ _
  rw [List.length_append, hm]
  exact h2
/-- append of one slice of bytes. -/
theorem wpS_append1 {ops : Array Oper} {rest : List Oper} {o : Oper} {a : Act} {Q : Exit → Act → World → Prop} (w0 w : World) (base : Nat) (hgd : o.guard = none) (s x : Operand)
    (ho : o.op = .call { callee := .builtin .append, args := #[s, x], argTypes := #[60, 60] })
    (v : Value) (V : List Value) (hs : a.eval s = v) (hown : OS w base v V) (A : Option Addr) (m c c2 g : Nat) (hg : g = w.heap.size) (hx : a.eval x = .slice (some ⟨g, 0, none⟩) 1 c2)
    (hbytes : (V.length + 1) * 24 ≤ 140737488355328) (hB : Below base w0 w) (hbase : base ≤ w.heap.size)
    (h : ∀ v' w', OS w' base v' (V ++ [.slice A m c]) → Below base w0 w' → wpList Tryd.prog ops Q rest (a.put o.dst v') w') : wpList Tryd.prog ops Q (o :: rest) a (w.alloc (.cells #[.slice A m c] 23)) := by
  subst hg
  have hB1 : Below base w0 (w.alloc (.cells #[.slice A m c] 23)) := hB.alloc hbase _
  exact wpS_append w0 _ base hgd s x ho v V hs (World.ownsRow.alloc hown _) (some ⟨w.heap.size, 0, none⟩) 1 c2 [.slice A m c] hx (Reads.block (heap_alloc_new w _) rfl) (fun u hu => by simp at hu; subst hu; rfl) hbytes hB1 (by simp; omega) h
end Go.Proofs.YtkkclkknpjapcaaDoor
/-! ### BkG -/
namespace Go.Proofs.YtkkclkknpjapcaaDoor
open Go.RowKit
set_option linter.unusedVariables false
set_option linter.unusedSimpArgs false

end Go.Proofs.YtkkclkknpjapcaaDoor
/-! ### BkH -/
namespace Go.Proofs.YtkkclkknpjapcaaDoor
open Go.RowKit
set_option linter.unusedVariables false
set_option linter.unusedSimpArgs false

def mnyE (z n : Nat) (v : UInt8) (i : Nat) : EntR := mkEnt (List.replicate z 0 ++ [UInt8.ofNat (i / 256), UInt8.ofNat i]) ((n : Int) - (i : Int)) false 0 [v]
def mnyS (z n : Nat) (v : UInt8) (m : Nat) : List EntR := (List.range m).map (mnyE z n v)
theorem mnyS_succ (z n : Nat) (v : UInt8) (m : Nat) : mnyS z n v (m + 1) = mnyS z n v m ++ [mnyE z n v m] := by simp [mnyS, List.range_succ]
theorem mnyS_len (z n : Nat) (v : UInt8) (m : Nat) : (mnyS z n v m).length = m := by simp [mnyS]
theorem mnyS_elt {z n : Nat} {v : UInt8} {m k : Nat} (h : k < m) : elt noEnt (mnyS z n v m) k = mnyE z n v k := by
  rw [elt_get noEnt (by rw [mnyS_len]; exact h)]
  simp [mnyS]
theorem cmp_pre : ∀ (p a b : List UInt8), cmpB (p ++ a) (p ++ b) = cmpB a b := by
  intro p
  induction p with
  | nil => intro a b; rfl
  | cons x p ih =>
    intro a b
    rw [List.cons_append, List.cons_append, cmpB_cons, if_neg (UInt8.lt_irrefl x), if_neg (UInt8.lt_irrefl x)]
    exact ih a b
theorem mny_cmp : ∀ k, k < 500 → cmpB [UInt8.ofNat (k / 256), UInt8.ofNat k] [UInt8.ofNat ((k + 1) / 256), UInt8.ofNat (k + 1)] < 0 := by decide +kernel
theorem mny_fit {z n : Nat} (v : UInt8) (hz : z < 100) (hn : 1 ≤ n ∧ n ≤ 400) : FitK (mnyS z n v n) := by
  refine ⟨by rw [mnyS_len]; exact hn.1, by rw [mnyS_len]; exact hn.2, fun j hj => ?_, ordN_Srt fun k h1 h2 => ?_⟩
  · rw [mnyS_len] at hj
    rw [mnyS_elt hj]
    have hl : (eKey (mnyE z n v j)).length = z + 2 := by simp [mnyE, eKey, mkEnt]
    unfold mayE mayN
    rw [decide_eq_true_iff, hl]
    refine ⟨by omega, by omega, by show 1 ≤ 2048; omega, by show 1 ≤ (n : Int) - (j : Int); omega, by show (n : Int) - (j : Int) ≤ _; omega, Int.le_refl _, by show (0 : Int) ≤ _; omega, .inl rfl⟩
  · rw [mnyS_len] at h2
    rw [mnyS_elt (by omega), mnyS_elt h2]
    have h := mny_cmp (k - 1) (by omega)
    rw [Nat.sub_add_cancel h1] at h
    unfold aheadE aheadK
    rw [decide_eq_true_iff]
    exact .inl (by show cmpB (List.replicate z 0 ++ _) (List.replicate z 0 ++ _) < 0; rw [cmp_pre]; exact h)
/-- What Encode answers to them. -/
theorem mny_code {z n : Nat} (v : UInt8) (hz : z < 100) : (n = 0 ∨ 400 < n) ∨ FitK (mnyS z n v n) := by
  by_cases h : n = 0 ∨ 400 < n
  · exact .inl h
  · exact .inr (mny_fit v hz (by omega))
end Go.Proofs.YtkkclkknpjapcaaDoor
/-! ### BkI -/
namespace Go.Proofs.YtkkclkknpjapcaaDoor
open Go.RowKit
set_option linter.unusedVariables false
set_option linter.unusedSimpArgs false

/-- The tail's bytes: where the entries stand whose keys stand whole. -/
def tlK (es : List EntR) : Nat → List UInt8
  | 0 => []
  | k + 1 => if k % 8 = 0 then tlK es k ++ fixB (accK es k).length 4 else tlK es k
theorem fixK_app (L : List UInt8) (st : List Int) : ∀ j, fixK L st j = L ++ fixK [] st j := by
  intro j
  induction j with
  | zero => simp [fixK]
  | succ j ih => rw [fixK, fixK, ih, List.append_assoc]
theorem fixK_congr {st st' : List Int} : ∀ j, (∀ i, i < j → elt 0 st i = elt 0 st' i) → fixK [] st j = fixK [] st' j := by
  intro j
  induction j with
  | zero => intro _; rfl
  | succ j ih =>
    intro h
    rw [fixK, fixK, ih (fun i hi => h i (by omega)), h j (by omega)]
theorem elt_app1 (st : List Int) (a : Int) : (∀ i, i < st.length → elt 0 (st ++ [a]) i = elt 0 st i) ∧ elt 0 (st ++ [a]) st.length = a := by
  constructor
  · intro i hi
    unfold elt
    rw [List.getD_eq_getElem?_getD, List.getD_eq_getElem?_getD, List.getElem?_append_left hi]
  · simp [elt]
theorem tl_fix (es : List EntR) : ∀ k, fixK [] (stK es k) (stK es k).length = tlK es k := by
  intro k
  induction k with
  | zero => simp [stK, tlK, fixK]
  | succ k ih =>
    rw [stK, tlK]
    split
    · obtain ⟨h1, h2⟩ := elt_app1 (stK es k) ((accK es k).length : Int)
      rw [List.length_append, List.length_singleton, fixK, h2, Int.toNat_natCast, fixK_congr _ (fun i hi => h1 i hi), ih]
    · exact ih
theorem tl_len (es : List EntR) (k : Nat) : (tlK es k).length = 4 * (stK es k).length := by
  rw [← tl_fix, fixK_len]
  simp
theorem enc_tl (es : List EntR) : encK es = (accK es es.length ++ tlK es es.length) ++ fixB ((tlK es es.length).length / 4) 4 := by
  unfold encK
  rw [fixK_app, tl_fix, tl_len, Nat.mul_div_cancel_left _ (by omega)]
/-- The document's bytes of an entry up to its number. -/
theorem head_ref (n : Nat) (e : EntR) (L : List UInt8) : bkHead n e L = ((L ++ uvar n) ++ uvar ((eKey e).drop n).length ++ (eKey e).drop n) ++ uvar (eSeq e).toNat := by
  unfold bkHead
  rw [List.length_drop]
end Go.Proofs.YtkkclkknpjapcaaDoor
/-! ### R3 -/
namespace Go.Proofs.YtkkclkknpjapcaaDoor
open Go.RowKit
set_option linter.unusedVariables false
set_option linter.unusedSimpArgs false

theorem OpsOK.map {F G : Nat → Oper → Prop} {ops : Array Oper} : ∀ {l : List Oper} {s : Nat}, (∀ i o, l[i]? = some o → ops[s + i]? = some o) → OpsOK F s l → (∀ i o, ops[i]? = some o → F i o → G i o) → OpsOK G s l := by
  intro l
  induction l with
  | nil => intro s _ _ _; exact .nil
  | cons o l ih =>
    intro s hl h hfg
    cases h with
    | cons h k =>
      refine .cons (hfg s o (by simpa using hl 0 o rfl) h) (ih (fun i o' ho => ?_) k hfg)
      have := hl (i + 1) o' (by simpa using ho)
      rwa [show s + (i + 1) = s + 1 + i by omega] at this
/-- A fact, and where the row lies. -/
def Placed (row0 : Option Nat) (row : Nat → Bool) (w : World) (T : Nat → Value → World → Prop) (i : Nat) (v : Value) (W : World) : Prop :=
  T i v W ∧ (row i = true → ∀ k, v.ownBlock = some k → some k = row0 ∨ w.heap.size ≤ k)
theorem OpOKB.placed {row0 : Option Nat} {r0 : Nat} {P : Program} {ops : Array Oper} {Q : Exit → Act → World → Prop} {mk : (Nat → Value) → Act} {T : Nat → Value → World → Prop} {row : Nat → Bool} {eat : Nat → Nat} {par : Nat → Option Nat} {w : World} {u0 : Nat → Value} {i : Nat} {o : Oper}
    (hst : statOK ops row eat par = true) (ho : ops[i]? = some o) (h : OpOKB row0 r0 P ops Q mk T row eat par w u0 i o) : OpOKB row0 r0 P ops Q mk (Placed row0 row w T) row eat par w u0 i o := by
  intro u W K hB hz0 hz1 hd hK
  refine h u W K hB hz0 hz1 (fun e he hb h2 => (hd e he hb h2).1) (hid fun v W' hT hc => hK.out v W' ⟨hT, ?_⟩ hc)
  intro hr k hk
  unfold ChangeB at hc
  cases hp : par i with
  | none =>
    rw [hp] at hc
    have h3 := hc.2 hr k hk
    split at h3
    · exact .inl h3
    · exact .inr (Nat.le_trans hB.size h3)
  | some p =>
    rw [hp] at hc
    obtain ⟨he, hrp, hri, e, hein, hbin, heon⟩ := statOK_par hst ho hp
    have h3 := hd e hein hbin (.inr (by rw [heon]; exact he))
    rw [heon] at h3
    rcases hc.2 with h4 | ⟨q, hq, hge⟩
    · rw [h4] at hk
      exact h3.2 hrp k hk
    · rw [hq] at hk
      have := Option.some.inj hk
      exact .inr (Nat.le_trans hB.size (by omega))
theorem wp_region_txtP {P : Program} {ops : Array Oper} {Q : Exit → Act → World → Prop} {id : Nat} {T : List Value} {D : List Deferred} {w : World} (B r0 : Nat) (row0 : Option Nat) (s : List (Option Nat)) (rows : List Nat) (pars : List (Nat × Nat)) (vals : List Value) (bs : List (List UInt8))
    (hm : P.follows .mixedOrders = true) (hs : lay T s (was T s) = T)
    (hst : statOK ops (fun i => rows.contains i) (eatOf pars) (parOf pars) = true)
    (hrow0 : ∀ k, row0 = some k → k < w.heap.size)
    (hput : OpsOK (PutOK fun u => ⟨(lay T s u).toArray, D⟩) 0 ops.toList)
    (hops : OpsOK (OpOKB row0 r0 P ops Q (fun u => ⟨(lay T s u).toArray, D⟩) (Facts B rows vals bs) (fun i => rows.contains i) (eatOf pars) (parOf pars) w (was T s)) 0 ops.toList)
    (hend : ∀ u W, w.grownBy W row0 → (∀ i, i < ops.size → ops.size ≤ eatOf pars i → rows.contains i = true → ∀ k, (u i).ownBlock = some k → some k = row0 ∨ w.heap.size ≤ k) → (∀ i, i < ops.size → ops.size ≤ eatOf pars i → Facts B rows vals bs i (u i) W) → Q .normal ⟨(lay T s u).toArray, D⟩ W) :
    (Code.region id ops true).wp P Q ⟨T.toArray, D⟩ w :=
  wp_region_invB (B := B) (r0 := r0) (row0 := row0) (fun u => ⟨(lay T s u).toArray, D⟩) (was T s) (Placed row0 (fun i => rows.contains i) w (Facts B rows vals bs)) _ _ _ ops.toList hm (by rw [hs]) rfl hst
    (fun j v W W' rw h hg hne => ⟨Facts.stabB j v W W' rw h.1 hg hne, h.2⟩) (fun j v W hr h => Facts.boundB j v W hr h.1) hput hrow0
    (OpsOK.map (ops := ops) (fun i o ho => by rw [Nat.zero_add]; simpa using ho) hops fun i o ho h => h.placed hst ho)
    fun u W hB hf => hend u W hB (fun i h1 h2 => (hf i h1 h2).2) (fun i h1 h2 => (hf i h1 h2).1)
end Go.Proofs.YtkkclkknpjapcaaDoor
/-! ### BkJ -/
namespace Go.Proofs.YtkkclkknpjapcaaDoor
open Go.RowKit
set_option linter.unusedVariables false
set_option linter.unusedSimpArgs false

/-- Two rows that lie apart. -/
def Apt (v u : Value) : Prop := ∀ k, v.ownBlock = some k → u.ownBlock ≠ some k
theorem Apt.symm {v u : Value} (h : Apt v u) : Apt u v := fun k h1 h2 => h k h2 h1
theorem Apt.or {v u : Value} (h : Apt v u) : u.ownBlock = none ∨ u.ownBlock ≠ v.ownBlock := by
  cases hv : v.ownBlock with
  | none =>
    cases hu : u.ownBlock with
    | none => exact .inl rfl
    | some k => exact .inr (by intro e; cases e)
  | some k => exact .inr (h k hv)
theorem OB.lt {w : World} {base : Nat} {v : Value} {xs : List UInt8} (h : OB w base v xs) (k : Nat) (hk : v.ownBlock = some k) : k < w.heap.size := (World.ownsRow.lt h k hk).2
/-- One of the two has grown. -/
theorem Apt.step {w : World} {base : Nat} {v v' u : Value} {T : List UInt8} (h : Apt v u) (hu : OB w base u T) (hp : ∀ k, v'.ownBlock = some k → some k = v.ownBlock ∨ w.heap.size ≤ k) : Apt v' u := by
  intro k hk e
  rcases hp k hk with h1 | h1
  · exact h k h1.symm e
  · have := hu.lt k e
    omega
theorem AtRow.place {B : Nat} {v v' : Value} (h : AtRow B v v') : ∀ k, v'.ownBlock = some k → some k = v.ownBlock ∨ B ≤ k := by
  intro k hk
  rcases h with h | ⟨q, h, h1⟩
  · exact .inl (by rw [← h, hk])
  · rw [h] at hk
    have := Option.some.inj hk
    exact .inr (by omega)
/-- What the document's Block holds. -/
def RfJ (w wr : World) (v : Value) (L : List UInt8) (u : Value) (T : List UInt8) : Prop := OB wr w.heap.size v L ∧ OB wr w.heap.size u T ∧ Apt v u ∧ Below w.heap.size w wr
section
variable {w wr w' : World} {v v' u u' : Value} {L L' T T' : List UInt8}
theorem RfJ.below (h : RfJ w wr v L u T) (hb : Below wr.heap.size wr w') : RfJ w w' v L u T := ⟨h.1.below hb, h.2.1.below hb, h.2.2.1, below_then h.2.2.2 hb⟩
theorem RfJ.size (h : RfJ w wr v L u T) : w.heap.size ≤ wr.heap.size := h.2.2.2.size
theorem RfJ.step (h : RfJ w wr v L u T) (hg : wr.grownBy w' v.ownBlock) (h' : OB w' w.heap.size v' L') (hp : ∀ k, v'.ownBlock = some k → some k = v.ownBlock ∨ wr.heap.size ≤ k) : RfJ w w' v' L' u T :=
  ⟨h', h.2.1.other hg h.2.2.1.or, h.2.2.1.step h.2.1 hp, h.2.2.2.grown hg h.2.2.2.size (OB.base_ h.1)⟩
theorem RfJ.stepU (h : RfJ w wr v L u T) (hg : wr.grownBy w' u.ownBlock) (h' : OB w' w.heap.size u' T') (hp : ∀ k, u'.ownBlock = some k → some k = u.ownBlock ∨ wr.heap.size ≤ k) : RfJ w w' v L u' T' :=
  ⟨h.1.other hg h.2.2.1.symm.or, h', (h.2.2.1.symm.step h.1 hp).symm, h.2.2.2.grown hg h.2.2.2.size (OB.base_ h.2.1)⟩
end
end Go.Proofs.YtkkclkknpjapcaaDoor
