/- Shared texts, part S06: MmN, MmX, MmZ, MmSe, MmH, MmO. -/
import Derived.Test.YtkkclkknpjapcaaDoorS05
import Derived.Test.YtkkclkknpjapcaaDoorS03
/-! ### MmN -/
namespace Go.Proofs.YtkkclkknpjapcaaDoor
open Go.RowKit
set_option linter.unusedVariables false
set_option linter.unusedSimpArgs false

theorem OV.reads {w : World} {base size : Nat} {e : TypeId} {A : Option Addr} {n c : Nat} {V : List (List Value)} (h : OV w base e size (.slice A n c) V) (hn : V.length = n) : Reads w size A n V.flatten := by
  refine ⟨by rw [flat_len V h.2, hn], fun h0 => ?_⟩
  have h1 := h
  subst hn
  obtain ⟨g, c', he, _⟩ := h1.form h0
  injection he with e1 _ _
  subst e1
  refine ⟨_, rfl, fun j u hu => ?_⟩
  exact h.1.cells (g := g) rfl j _ hu
theorem Reads.below {w w' : World} {size : Nat} {A : Option Addr} {n : Nat} {xs : List Value} (h : Reads w size A n xs) (hb : Below w.heap.size w w') : Reads w' size A n xs :=
  ⟨h.1, fun h0 => by
    obtain ⟨ad, e, hc⟩ := h.2 h0
    exact ⟨ad, e, fun j u hu => below_cell hb (hc j u hu)⟩⟩
theorem Reads.suf {w : World} {size : Nat} {A : Option Addr} {n : Nat} {xs : List Value} (h : Reads w size A n xs) {lo c : Nat} (h1 : lo ≤ n) (hc : n ≤ c) : Reads w size (if c = lo then A else A.map (·.add (lo * size))) (n - lo) (xs.drop (lo * size)) := by
  refine ⟨by rw [List.length_drop, h.1, Nat.sub_mul], fun h0 => ?_⟩
  obtain ⟨ad, rfl, hcell⟩ := h.2 (by omega)
  rw [if_neg (by omega)]
  refine ⟨_, rfl, fun j u hu => ?_⟩
  rw [add_of_add]
  rw [List.getElem?_drop] at hu
  exact hcell _ u hu
theorem Reads.pre {w : World} {size : Nat} {A : Option Addr} {n : Nat} {xs : List Value} (h : Reads w size A n xs) {k : Nat} (h1 : k ≤ n) : Reads w size A k (xs.take (k * size)) := by
  have hle : k * size ≤ n * size := Nat.mul_le_mul_right _ h1
  refine ⟨by rw [List.length_take, h.1]; omega, fun h0 => ?_⟩
  obtain ⟨ad, rfl, hcell⟩ := h.2 (by omega)
  refine ⟨_, rfl, fun j u hu => hcell j u ?_⟩
  rw [List.getElem?_take] at hu
  split at hu
  · exact hu
  · cases hu
theorem flat_take {α : Type} {size : Nat} : ∀ (V : List (List α)) (k : Nat), (∀ x ∈ V, x.length = size) → (V.take k).flatten = V.flatten.take (k * size) := by
  intro V
  induction V with
  | nil => intro k _; simp
  | cons x V ih =>
    intro k h
    cases k with
    | zero => simp
    | succ k =>
      have hx : x.length = size := h x (by simp)
      have e1 : (k + 1) * size = x.length + k * size := by rw [Nat.succ_mul, hx]; omega
      rw [List.take_succ_cons, List.flatten_cons, List.flatten_cons, ih k (fun y hy => h y (by simp [hy])), e1, List.take_length_add_append]
theorem flat_drop {α : Type} {size : Nat} : ∀ (V : List (List α)) (k : Nat), (∀ x ∈ V, x.length = size) → (V.drop k).flatten = V.flatten.drop (k * size) := by
  intro V
  induction V with
  | nil => intro k _; simp
  | cons x V ih =>
    intro k h
    cases k with
    | zero => simp
    | succ k =>
      have hx : x.length = size := h x (by simp)
      have e1 : (k + 1) * size = x.length + k * size := by rw [Nat.succ_mul, hx]; omega
      rw [List.drop_succ_cons, List.flatten_cons, ih k (fun y hy => h y (by simp [hy])), e1, List.drop_length_add_append]
theorem elemE : Tryd.prog.underlying 22 = some (.slice (Tryd.prog.elem 22)) := by kernel_rfl
theorem sizeE (w : World) : (sizeOf (Tryd.prog.elem 22)).run Tryd.prog w = .ok 5 w := by
  obtain ⟨i, hi, _, hs, _⟩ := info_parts eninfo
  have he : Tryd.prog.elem 22 = 29 := by kernel_rfl
  rw [he]
  simp [sizeOf, typeInfo, hi, hs]
theorem cutE_lo {A : Option Addr} {n c : Nat} (hc : n ≤ c) {lo : Nat} (h1 : lo ≤ n) (L : Int) (hL : L = (lo : Int)) :
    ∃ A2 c2, (∀ w, (Instr.slice 22 (.slice A n c) (some (.int .i64 L)) none none).run Tryd.prog w = .ok (.slice A2 (n - lo) c2) w) ∧ (∀ w xs, Reads w 5 A n xs → Reads w 5 A2 (n - lo) (xs.drop (lo * 5))) ∧ n - lo ≤ c2 := by
  subst hL
  refine ⟨if c = lo then A else A.map (·.add (lo * 5)), c - lo, fun w => ?_, fun w xs h => h.suf h1 hc, by omega⟩
  rw [run_slice_l (P := Tryd.prog) w 22 A n c elemE .i64 lo (by omega) (by omega), sizeE]
  simp [sliced, Result.andThen]
theorem cutE_hi {A : Option Addr} {n c : Nat} (hc : n ≤ c) {hi : Nat} (h1 : hi ≤ n) (H : Int) (hH : H = (hi : Int)) :
    ∃ c2, (∀ w, (Instr.slice 22 (.slice A n c) none (some (.int .i64 H)) none).run Tryd.prog w = .ok (.slice A hi c2) w) ∧ (∀ w xs, Reads w 5 A n xs → Reads w 5 A hi (xs.take (hi * 5))) ∧ hi ≤ c2 := by
  subst hH
  refine ⟨c, fun w => ?_, fun w xs h => h.pre h1, by omega⟩
  rw [run_slice_h (P := Tryd.prog) w 22 A n c elemE .i64 hi (by omega) (by omega), sizeE]
  cases A <;> simp [sliced, Result.andThen, Addr.add]
/-- append of records, inside a region that draws its order. -/
theorem stepV_append {ops : Array Oper} {o : Oper} {a : Act} {K : Act → World → Prop} {Q : Exit → Act → World → Prop} {E : Prop} (t e : TypeId) (z : Value) (size bytes : Nat) (ht : Tryd.prog.underlying t = some (.slice e))
    (hinfo : (Tryd.prog.info? e).map (fun i => (i.zero, i.size, i.bytes)) = some (some z, size, bytes)) (hzs : z.cells.size = size) (hsz : 0 < size) (w0 w : World) (hwant : Region.wanted o (yielded ops a.tmps) = true) (s x : Operand)
    (ho : o.op = .call { callee := .builtin .append, args := #[s, x], argTypes := #[t, t] })
    (v : Value) (V : List (List Value)) (hs : a.eval s = v) (hown : OV w w0.heap.size e size v V) (A : Option Addr) (m c : Nat) (U : List (List Value)) (hx : a.eval x = .slice A m c) (hr : Reads w size A m U.flatten) (hU : ∀ x ∈ U, x.length = size) (hm : U.length = m) (hu : ∀ u ∈ U.flatten, u.oneCell' = true)
    (hmax : V.length + m ≤ maxLen) (hbytes : (V.length + m) * bytes ≤ 140737488355328) (hB : Below w0.heap.size w0 w)
    (h : ∀ v' w', OV w' w0.heap.size e size v' (V ++ U) → Below w0.heap.size w0 w' → w.grownBy w' v.ownBlock → K (a.put o.dst v') w') : if Region.wanted o (yielded ops a.tmps) = true then Oper.wp Tryd.prog o a w K Q else E := by
  refine step_append_any _ rfl hwant s x _ ho w0.heap.size e z size bytes ht hinfo hzs hsz v V.length V.flatten hs hown.1 _ m c U.flatten hx hr hu hmax hbytes hB.size ?_
  intro v' w' h2 h3 h4
  refine h v' w' ⟨?_, ?_⟩ (hB.grown h3 hB.size (own_base hown.1)) h3
  · rw [List.length_append, List.flatten_append, hm]
    exact h2
  · intro y hy
    rcases List.mem_append.1 hy with hy | hy
    · exact hown.2 y hy
    · exact hU y hy
/-- The place of an entry in a row. -/
def posE (es : List EntR) (e : EntR) : Nat := (preK (eKey e) (eSeq e) es).length
theorem pos_take (es : List EntR) (e : EntR) : es.take (posE es e) = preK (eKey e) (eSeq e) es := by
  have := pre_suf (eKey e) (eSeq e) es
  conv => lhs; rw [← this]
  unfold posE
  rw [List.take_left']
  rw [this]
theorem pos_drop (es : List EntR) (e : EntR) : es.drop (posE es e) = sufK (eKey e) (eSeq e) es := by
  have := pre_suf (eKey e) (eSeq e) es
  conv => lhs; rw [← this]
  unfold posE
  rw [List.drop_left']
  rw [this]
theorem pos_le (es : List EntR) (e : EntR) : posE es e ≤ es.length := by
  have := congrArg List.length (pre_suf (eKey e) (eSeq e) es)
  rw [List.length_append] at this
  unfold posE
  omega
theorem pos_lt {es : List EntR} {e : EntR} {j : Nat} (h : j < posE es e) : aheadE (elt noEnt es j) e = true := by
  have hl := pos_le es e
  refine pre_all (key := eKey e) (s := eSeq e) (l := es) _ ?_
  rw [← pos_take, elt_get noEnt (show j < es.length by omega)]
  exact List.mem_take_iff_getElem.2 ⟨j, by omega, rfl⟩
theorem suf_head {key : List UInt8} {s : Int} {es : List EntR} {x : EntR} {l : List EntR} (h : sufK key s es = x :: l) : aheadK x key s = false := by
  induction es with
  | nil => cases h
  | cons y m ih =>
    rw [sufK] at h
    split at h
    · exact ih h
    · rename_i hy
      injection h with h1 _
      rw [← h1]
      simpa using hy
theorem pos_at {es : List EntR} {e : EntR} (h : posE es e < es.length) : aheadE (elt noEnt es (posE es e)) e = false := by
  have hd := pos_drop es e
  rw [drop_elt h] at hd
  exact suf_head hd.symm
theorem has_pos {es : List EntR} {e : EntR} : hasE es e = true ↔ posE es e < es.length ∧ aheadR (elt noEnt es (posE es e)) e = 0 := by
  unfold hasE
  rw [← pos_drop, aheadR_zero]
  rcases Nat.lt_or_ge (posE es e) es.length with h | h
  · rw [drop_elt h]
    simp [h, and_comm]
  · rw [List.drop_eq_nil_of_le h]
    simp
    omega
theorem ins_pos (es : List EntR) (e : EntR) : insE es e = es.take (posE es e) ++ e :: es.drop (posE es e) := by rw [pos_take, pos_drop]; rfl
section
variable {α : Type} {d : α} {P : List Value → α → Prop} {V U : List (List Value)} {xs ys : List α}
theorem RelV.app (h : RelV d P V xs) (k : RelV d P U ys) : RelV d P (V ++ U) (xs ++ ys) := by
  refine ⟨by simp [h.1, k.1], fun j hj => ?_⟩
  rw [List.length_append] at hj
  by_cases hjv : j < V.length
  · rw [elt_left' _ _ _ hjv, elt_left' _ _ _ (by rw [← h.1]; exact hjv)]
    exact h.2 j hjv
  · rw [elt_right' _ _ _ (by omega), elt_right' _ _ _ (by rw [← h.1]; omega), ← h.1]
    exact k.2 _ (by omega)
theorem elt_take' {β : Type} (d : β) (l : List β) (k j : Nat) (h : j < k) : elt d (l.take k) j = elt d l j := by
  unfold elt
  rw [List.getD_eq_getElem?_getD, List.getD_eq_getElem?_getD, List.getElem?_take, if_pos h]
theorem elt_drop' {β : Type} (d : β) (l : List β) (k j : Nat) : elt d (l.drop k) j = elt d l (k + j) := by
  unfold elt
  rw [List.getD_eq_getElem?_getD, List.getD_eq_getElem?_getD, List.getElem?_drop]
theorem RelV.take (h : RelV d P V xs) (k : Nat) : RelV d P (V.take k) (xs.take k) := by
  refine ⟨by simp [h.1], fun j hj => ?_⟩
  rw [List.length_take] at hj
  rw [elt_take' _ _ _ _ (by omega), elt_take' _ _ _ _ (by omega)]
  exact h.2 j (by omega)
theorem RelV.drop (h : RelV d P V xs) (k : Nat) : RelV d P (V.drop k) (xs.drop k) := by
  refine ⟨by simp [h.1], fun j hj => ?_⟩
  rw [List.length_drop] at hj
  rw [elt_drop', elt_drop']
  exact h.2 _ (by omega)
end
theorem PER.len5 {w : World} {x : List Value} {e : EntR} (h : PER w x e) : x.length = 5 ∧ ∀ u ∈ x, u.oneCell' = true := by
  obtain ⟨Ak, nk, ck, Av, nv, cv, rfl, _⟩ := h
  exact ⟨rfl, ones5 rfl rfl rfl rfl rfl⟩
theorem RelV.ones {w : World} {V : List (List Value)} {es : List EntR} (h : RelV noEnt (PER w) V es) : ∀ u ∈ V.flatten, u.oneCell' = true := by
  intro u hu
  obtain ⟨x, hx, hux⟩ := List.mem_flatten.1 hu
  obtain ⟨j, hj, rfl⟩ := List.getElem_of_mem hx
  have := h.2 j hj
  rw [elt_get _ hj] at this
  exact this.len5.2 u hux
end Go.Proofs.YtkkclkknpjapcaaDoor
/-! ### MmX -/
namespace Go.Proofs.YtkkclkknpjapcaaDoor
open Go.RowKit
set_option linter.unusedVariables false
set_option linter.unusedSimpArgs false

set_option maxHeartbeats 4000000 in
theorem refcompare_quiet (A : Option Addr) (n c : Nat) (xs : List UInt8) (A' : Option Addr) (n' c' : Nat) (ys : List UInt8) (w : World) (h : RB w A n xs) (h' : RB w A' n' ys) :
    Calls Tryd.prog 61 #[.slice A n c, .slice A' n' c'] w fun e w' => e = .returned (.int .i64 (cmpB xs ys)) ∧ ∃ m, w' = w.drewN m := by
  have HL := hid (cmpB_less xs ys)
  have q1 := h.conv c
  have q2 := h'.conv c'
  have q3 := h.drew.conv c
  have q4 := h'.drew.conv c'
  have b1 : (bstr xs).toList = xs := ByteArray.toList_mk xs
  have b2 : (bstr ys).toList = ys := ByteArray.toList_mk ys
  clear h h'
  by_cases h1 : Op.bytesLess xs ys = true
  · have g1 : Op.bytesLess (bstr xs).toList (bstr ys).toList = true := by rw [b1, b2]; exact h1
    have HR : Hid (cmpB xs ys = -1) := by unfold Hid; rw [HL.out, if_pos h1]
    clear HL h1 b1 b2
    go_enter Tryd.func61, Tryd.ntmps61
    go_wp2
    go_region
    go_wp2
    go_ret
    exact ⟨by rw [HR.out]; rfl, 1, rfl⟩
  · have g1 : Op.bytesLess (bstr xs).toList (bstr ys).toList = false := by rw [b1, b2]; simpa using h1
    by_cases h2 : Op.bytesLess ys xs = true
    · have HR : Hid (cmpB xs ys = 1) := by unfold Hid; rw [HL.out, if_neg h1, if_pos h2]
      have g2 : ∀ u, (binOp .gtr 9 (.string (bstr xs)) (.string (bstr ys))).run Tryd.prog u = .ok (.bool true) u := fun u => by rw [run_gtr, HR.out]; rfl
      clear HL h1 h2 b1 b2
      go_enter Tryd.func61, Tryd.ntmps61
      go_wp2
      go_region
      go_wp2
      go_ret
      exact ⟨by rw [HR.out]; rfl, 1, rfl⟩
    · have HR : Hid (cmpB xs ys = 0) := by unfold Hid; rw [HL.out, if_neg h1, if_neg h2]
      have g2 : ∀ u, (binOp .gtr 9 (.string (bstr xs)) (.string (bstr ys))).run Tryd.prog u = .ok (.bool false) u := fun u => by rw [run_gtr, HR.out]; rfl
      clear HL h1 h2 b1 b2
      go_enter Tryd.func61, Tryd.ntmps61
      go_wp2
      go_region
      go_wp2
      go_ret
      exact ⟨by rw [HR.out]; rfl, 1, rfl⟩
def getR (key : List UInt8) (s : Int) : List EntR → EntR × Bool
  | [] => (noEnt, false)
  | x :: l => if eKey x = key ∧ eSeq x ≤ s then (x, true) else getR key s l
def GetRC (w w' : World) (x : EntR) (b : Bool) (r : Ending) : Prop :=
  ∃ Ak nk ck Av nv cv, r = .returned (.tuple #[.agg #[.slice Ak nk ck, .int .i64 (eSeq x), .bool (eGone x), .int .i64 (eTil x), .slice Av nv cv], .bool b]) ∧ RB w' Ak nk (eKey x) ∧ RB w' Av nv (eVal x) ∧ Below w.heap.size w w'
theorem GetRC.none {w w' : World} (hb : Below w.heap.size w w') : GetRC w w' noEnt false (.returned (.tuple #[.agg #[.slice none 0 0, .int .i64 0, .bool false, .int .i64 0, .slice none 0 0], .bool false])) := ⟨_, _, _, _, _, _, rfl, RB.nil _, RB.nil _, hb⟩
end Go.Proofs.YtkkclkknpjapcaaDoor
/-! ### MmZ -/
namespace Go.Proofs.YtkkclkknpjapcaaDoor
open Go.RowKit
set_option linter.unusedVariables false
set_option linter.unusedSimpArgs false

/-- Where a loop stands that makes a row out of a row: what the whole makes, what the rest makes. -/
def RowJ (w wr : World) (whole rest : List EntR) (v : Value) (k : Nat) (os : List EntR) : Prop :=
  ∃ V, whole = os ++ rest ∧ V.length ≤ k ∧ OV wr w.heap.size 29 5 v V ∧ RelV noEnt (PER w) V os ∧ Below w.heap.size w wr
/-- What a function that makes a row out of a row leaves. -/
def RowC (w w' : World) (es : List EntR) (r : Ending) : Prop := ∃ v V, r = .returned v ∧ OV w' w.heap.size 29 5 v V ∧ RelV noEnt (PER w') V es ∧ Below w.heap.size w w'
theorem RowJ.done {w wr : World} {whole : List EntR} {v : Value} {k : Nat} {os : List EntR} (h : RowJ w wr whole [] v k os) : RowC w wr whole (.returned v) := by
  obtain ⟨V, h1, h2, h3, h4, h5⟩ := h
  rw [List.append_nil] at h1
  subst h1
  exact ⟨v, V, rfl, h3, h4.mono fun x a hx => hx.below h5, h5⟩
theorem RowJ.skip {w wr w3 : World} {whole rest : List EntR} {v : Value} {k : Nat} {os : List EntR} (h : RowJ w wr whole rest v k os) (hb : Below wr.heap.size wr w3) : RowJ w w3 whole rest v (k + 1) os := by
  obtain ⟨V, h1, h2, h3, h4, h5⟩ := h
  exact ⟨V, h1, by omega, h3.below hb, h4, below_then h5 hb⟩
theorem RowJ.take {w w4 : World} {whole rest : List EntR} {v' : Value} {k : Nat} {os : List EntR} {x : EntR} {cs : List Value} {V : List (List Value)} (h1 : whole = os ++ x :: rest) (h2 : V.length ≤ k) (h4 : RelV noEnt (PER w) V os) (hp : PER w cs x) (hown : OV w4 w.heap.size 29 5 v' (V ++ [cs])) (hB : Below w.heap.size w w4) : RowJ w w4 whole rest v' (k + 1) (os ++ [x]) :=
  ⟨V ++ [cs], by rw [h1]; simp, by simp; omega, hown, h4.snoc hp, hB⟩
def passL (frm tk : List UInt8) (x : EntR) : Bool := decide (0 ≤ cmpB (eKey x) frm) && (decide (tk = []) || decide (cmpB (eKey x) tk < 0))
def listR (frm tk : List UInt8) (es : List EntR) : List EntR := es.filter (passL frm tk)
theorem filt_yes {p : EntR → Bool} {es : List EntR} {k : Nat} (h : k < es.length) (hp : p (elt noEnt es k) = true) : (es.drop k).filter p = elt noEnt es k :: (es.drop (k + 1)).filter p := by rw [drop_elt h, List.filter_cons, if_pos hp]
theorem filt_no {p : EntR → Bool} {es : List EntR} {k : Nat} (h : k < es.length) (hp : p (elt noEnt es k) = false) : (es.drop k).filter p = (es.drop (k + 1)).filter p := by rw [drop_elt h, List.filter_cons, if_neg (by simp [hp])]
end Go.Proofs.YtkkclkknpjapcaaDoor
/-! ### MmSe -/
namespace Go.Proofs.YtkkclkknpjapcaaDoor
open Go.RowKit
set_option linter.unusedVariables false
set_option linter.unusedSimpArgs false

/-- Of each key the newest up to a number; `last`: the key that was taken last. -/
def seenF (s : Int) : Option (List UInt8) → List EntR → List EntR
  | _, [] => []
  | last, x :: l => if eSeq x ≤ s ∧ last ≠ some (eKey x) then x :: seenF s (some (eKey x)) l else seenF s last l
def lastK (os : List EntR) : Option (List UInt8) := os.getLast?.map eKey
theorem lastK_snoc (os : List EntR) (x : EntR) : lastK (os ++ [x]) = some (eKey x) := by simp [lastK]
theorem seenF_yes {s : Int} {last : Option (List UInt8)} {es : List EntR} {k : Nat} (h : k < es.length) (h1 : eSeq (elt noEnt es k) ≤ s) (h2 : last ≠ some (eKey (elt noEnt es k))) : seenF s last (es.drop k) = elt noEnt es k :: seenF s (some (eKey (elt noEnt es k))) (es.drop (k + 1)) := by rw [drop_elt h, seenF, if_pos ⟨h1, h2⟩]
theorem seenF_no {s : Int} {last : Option (List UInt8)} {es : List EntR} {k : Nat} (h : k < es.length) (h1 : ¬ (eSeq (elt noEnt es k) ≤ s ∧ last ≠ some (eKey (elt noEnt es k)))) : seenF s last (es.drop k) = seenF s last (es.drop (k + 1)) := by rw [drop_elt h, seenF, if_neg h1]
theorem listR_len (frm tk : List UInt8) (es : List EntR) : (listR frm tk es).length ≤ es.length := List.length_filter_le _ _
theorem seenF_len (s : Int) (es : List EntR) : ∀ last, (seenF s last es).length ≤ es.length := by
  induction es with
  | nil => intro last; simp [seenF]
  | cons x l ih =>
    intro last
    rw [seenF]
    split
    · have := ih (some (eKey x)); simp; exact this
    · have := ih last; simp; omega
def latR (s : Int) (frm tk : List UInt8) (es : List EntR) : List EntR := (seenF s none (listR frm tk es)).filter (fun x => !eGone x)
end Go.Proofs.YtkkclkknpjapcaaDoor
/-! ### MmH -/
namespace Go.Proofs.YtkkclkknpjapcaaDoor
open Go.RowKit
set_option linter.unusedVariables false
set_option linter.unusedSimpArgs false

/-- The table that math/bits reads: bytes. -/
def TabOK (w : World) : Prop := ∀ i : Nat, i < 64 → ∃ z : Nat, w.cell? ⟨0, i, none⟩ = some (.int .u8 (z : Int)) ∧ z < 256
theorem TabOK.below {w w' : World} (h : TabOK w) (hb : Below w.heap.size w w') : TabOK w' := fun i hi => by
  obtain ⟨z, h1, h2⟩ := h i hi
  exact ⟨z, below_cell hb h1, h2⟩
set_option maxHeartbeats 8000000 in
theorem zeros_any (x : Nat) (w : World) (h : TabOK w) (hx : 0 < x) (hx2 : x < 18446744073709551616) :
    Calls Tryd.prog 47 #[.int .u64 (x : Int)] w fun e w' => (∃ z : Nat, e = .returned (.int .i64 (z : Int)) ∧ z < 256) ∧ w = w' := by
  have hz : ((x : Int) == 0) = false := by rw [beq_eq_false_iff_ne]; omega
  have hE : ∀ y : Int, 0 ≤ IntKind.u64.wrap y / 288230376151711744 ∧ IntKind.u64.wrap y / 288230376151711744 < 64 := fun y => by rw [IntKind.wrap_u64]; omega
  have hb := hE (bits BinOp.and IntKind.u64 (x : Int) (IntKind.u64.wrap (-(x : Int))) * 285870213051353865)
  obtain ⟨z, hcell, hz2⟩ := h (IntKind.u64.wrap (bits BinOp.and IntKind.u64 (x : Int) (IntKind.u64.wrap (-(x : Int))) * 285870213051353865) / 288230376151711744).toNat (by omega)
  have hw : IntKind.i64.wrap (z : Int) = (z : Int) := by rw [IntKind.wrap_i64]; omega
  clear hE h
  go_enter Tryd.func47, Tryd.ntmps47
  go_wp2
  go_ret
  exact ⟨⟨z, rfl, hz2⟩, rfl⟩
theorem u64_in (a : Nat) (h : a < 18446744073709551616) : IntKind.u64.wrap (a : Int) = a := by rw [IntKind.wrap_u64]; omega
theorem ofInt_u64 (a : Nat) (h : a < 18446744073709551616) : (BitVec.ofInt 64 (a : Int)).toNat = a := by
  rw [BitVec.toNat_ofInt]
  omega
theorem u64_xor_nat (a b : Nat) (ha : a < 18446744073709551616) (hb : b < 18446744073709551616) : bits .xor .u64 (a : Int) (b : Int) = ((a ^^^ b : Nat) : Int) := by
  have hx : a ^^^ b < 2 ^ 64 := Nat.xor_lt_two_pow (by omega) (by omega)
  show IntKind.u64.wrap ((BitVec.ofInt 64 (a : Int) ^^^ BitVec.ofInt 64 (b : Int)).toNat : Int) = _
  rw [BitVec.toNat_xor, ofInt_u64 a (by omega), ofInt_u64 b (by omega)]
  exact u64_in _ (by omega)
theorem u64_or_nat (a b : Nat) (ha : a < 18446744073709551616) (hb : b < 18446744073709551616) : bits .or .u64 (a : Int) (b : Int) = ((a ||| b : Nat) : Int) := by
  have hx : a ||| b < 2 ^ 64 := Nat.or_lt_two_pow (by omega) (by omega)
  show IntKind.u64.wrap ((BitVec.ofInt 64 (a : Int) ||| BitVec.ofInt 64 (b : Int)).toNat : Int) = _
  rw [BitVec.toNat_or, ofInt_u64 a (by omega), ofInt_u64 b (by omega)]
  exact u64_in _ (by omega)
/-- Between 1 and 8. -/
def HtC (e : Ending) : Prop := ∃ h : Nat, e = .returned (.int .i64 (h : Int)) ∧ 1 ≤ h ∧ h ≤ 8
set_option maxHeartbeats 16000000 in
set_option maxRecDepth 100000 in
theorem height_any (Ak : Option Addr) (nk ck : Nat) (key : List UInt8) (s : Int) (g : Bool) (u : Int) (Av : Option Addr) (nv cv : Nat) (w : World) (hk : RB w Ak nk key) (hT : TabOK w) (hs : -9223372036854775808 ≤ s ∧ s ≤ 9223372036854775807) :
    Calls Tryd.prog 26 #[.agg #[.slice Ak nk ck, .int .i64 s, .bool g, .int .i64 u, .slice Av nv cv]] w fun e w' => HtC e ∧ Below w.heap.size w w' := by
  have hmx := hk.2.1
  have HB := hid (below_alloc' (Below.refl w.heap.size w) (.cells #[.slice Ak nk ck, .int .i64 s, .bool g, .int .i64 u, .slice Av nv cv] 29))
  have HK := hid (hk.alloc (.cells #[.slice Ak nk ck, .int .i64 s, .bool g, .int .i64 u, .slice Av nv cv] 29))
  have HT := hid (hT.below HB.out)
  clear hk hT
  have hU : ∀ y : Int, ∃ v : Nat, IntKind.u64.wrap y = (v : Int) ∧ v < 18446744073709551616 := fun y => ⟨(IntKind.u64.wrap y).toNat, by rw [IntKind.wrap_u64]; omega, by rw [IntKind.wrap_u64]; omega⟩
  have HU := hid hU
  clear hU
  go_enter Tryd.func26, Tryd.ntmps26
  go_wp2
  generalize w.alloc (.cells #[.slice Ak nk ck, .int .i64 s, .bool g, .int .i64 u, .slice Av nv cv] 29) = W0 at *
  go_loopw [3, 13] (fun hv i wr => ∃ k v : Nat, k ≤ nk ∧ i = .int .i64 k ∧ hv = .int .u64 (v : Int) ∧ v < 18446744073709551616 ∧ wr = W0) (fun hv i wr => nk - (intOf i).toNat)
  case atStart => exact ⟨0, _, Nat.zero_le _, rfl, congrArg (Value.int IntKind.u64) (HU.out _).choose_spec.1, (HU.out _).choose_spec.2, rfl⟩
  case round =>
    obtain ⟨k, v, hk, rfl, rfl, hv, rfl⟩ := hrel
    by_cases hlt : k < nk
    · obtain ⟨ad, rfl, hc⟩ := HK.out.at_ hlt
      have hby := bAt_lt key k
      have hcv := wrap_u64_nat (bAt key k) (by omega)
      have hxr := u64_xor_nat v (bAt key k) hv (by omega)
      obtain ⟨v2, e1, e2⟩ := HU.out (((v ^^^ bAt key k : Nat) : Int) * 1099511628211)
      go_wp2
      go_roundw
      case rel => exact ⟨k + 1, v2, by omega, by go_num, rfl, e2, by trivial⟩
      case measure => simp [intOf]; omega
    · obtain rfl : k = nk := by omega
      obtain ⟨d, hdiv, hsh⟩ : ∃ d : Nat, (v : Int) / 536870912 = (d : Int) ∧ d < 18446744073709551616 := ⟨v / 536870912, by omega, by omega⟩
      have hxr := u64_xor_nat v d hv hsh
      have hx64 : v ^^^ d < 2 ^ 64 := Nat.xor_lt_two_pow (by omega) (by omega)
      obtain ⟨y, hy⟩ : ∃ y, v ^^^ d = y := ⟨_, rfl⟩
      rw [hy] at hxr hx64
      have hor := u64_or_nat y 65536 (by omega) (by omega)
      have ho64 : y ||| 65536 < 2 ^ 64 := Nat.or_lt_two_pow (by omega) (by omega)
      have hop : 65536 ≤ y ||| 65536 := Nat.right_le_or
      obtain ⟨q, hq⟩ : ∃ q, y ||| 65536 = q := ⟨_, rfl⟩
      rw [hq] at hor ho64 hop
      have hor2 : bits .or .u64 (y : Int) 65536 = (q : Int) := hor
      clear hy hq hor
      go_wp2_with (go_at_call 47; (with_reducible refine (zeros_any q _ HT.out (by omega) (by omega)).mono ?_); rintro e w1 ⟨⟨z, rfl, hz⟩, rfl⟩)
      · go_ret
        exact ⟨⟨1 + z / 2, by simp, by omega, by omega⟩, HB.out⟩
      · go_ret
        exact ⟨⟨8, rfl, by omega, by omega⟩, HB.out⟩
end Go.Proofs.YtkkclkknpjapcaaDoor
/-! ### MmO -/
namespace Go.Proofs.YtkkclkknpjapcaaDoor
open Go.RowKit
set_option linter.unusedVariables false
set_option linter.unusedSimpArgs false

set_option maxHeartbeats 16000000 in
set_option maxRecDepth 100000 in
theorem own_any (Ak : Option Addr) (nk ck : Nat) (key : List UInt8) (s : Int) (g : Bool) (u : Int) (Av : Option Addr) (nv cv : Nat) (val : List UInt8) (w : World) (hk : RB w Ak nk key) (hv : RB w Av nv val) (h1 : nk ≤ 140737488355328) (h2 : nv ≤ 140737488355328) :
    Calls Tryd.prog 25 #[.agg #[.slice Ak nk ck, .int .i64 s, .bool g, .int .i64 u, .slice Av nv cv]] w fun e w' => ∃ kv vv, e = .returned (.agg #[kv, .int .i64 s, .bool g, .int .i64 u, vv]) ∧ OB w' w.heap.size kv key ∧ OB w' w.heap.size vv val ∧ Below w.heap.size w w' := by
  have hnk := hk.1
  have hnv := hv.1
  have e0 : (w.alloc (.cells #[.slice Ak nk ck, .int .i64 s, .bool g, .int .i64 u, .slice Av nv cv] 29)).heap.size = w.heap.size + 1 := by simp
  have hbx := blk_below (below_alloc' (Below.refl _ _) (.cells #[.slice none 0 0, .int .i64 0, .bool false, .int .i64 0, .slice none 0 0] 29)) (heap_alloc_new w (.cells #[.slice Ak nk ck, .int .i64 s, .bool g, .int .i64 u, .slice Av nv cv] 29))
  have hrx := heap_alloc_new (w.alloc (.cells #[.slice Ak nk ck, .int .i64 s, .bool g, .int .i64 u, .slice Av nv cv] 29)) (.cells #[.slice none 0 0, .int .i64 0, .bool false, .int .i64 0, .slice none 0 0] 29)
  rw [e0] at hrx
  have hB0 : Below w.heap.size w ((w.alloc (.cells #[.slice Ak nk ck, .int .i64 s, .bool g, .int .i64 u, .slice Av nv cv] 29)).alloc (.cells #[.slice none 0 0, .int .i64 0, .bool false, .int .i64 0, .slice none 0 0] 29)) := below_alloc' (below_alloc' (Below.refl _ _) _) _
  have hk0 := (hk.alloc (.cells #[.slice Ak nk ck, .int .i64 s, .bool g, .int .i64 u, .slice Av nv cv] 29)).alloc (.cells #[.slice none 0 0, .int .i64 0, .bool false, .int .i64 0, .slice none 0 0] 29)
  clear hk
  go_enter Tryd.func25, Tryd.ntmps25
  go_wp2_with (first
    | (at_builtin; go_loud (refine wpB_append w _ w.heap.size rfl _ (.tmp 4) rfl (.slice none 0 0) [] rfl (OB.nil _ _) Ak nk ck key rfl hk0 (by simp; omega) hB0 hB0.size ?_); intro v1 w1 hown1 hB1 hg1 _; rw [List.nil_append] at hown1; obtain ⟨A1, c1, rfl, _, _⟩ := hown1.openN nk hnk; have hg1 := below_of_none hg1; have hbx1 := blk_below hg1 hbx; have hrx1 := blk_below hg1 hrx; have q1 := box_at hbx1 0 (.slice Ak nk ck) rfl; have f1 := fun i => frozen_of_row w1 w.heap.size i _ _ hbx1; have gs1 := grown_set w1 w.heap.size 0 (.slice A1 nk c1); have hbx2 := heap_setCell_same w1 w.heap.size 0 _ _ (.slice A1 nk c1) hbx1; have hrx2 := blk_grown' gs1 hrx1 (by intro e; have := Option.some.inj e; omega); have hB2 : Below w.heap.size w (w1.setCell ⟨w.heap.size, 0, none⟩ (.slice A1 nk c1)) := hB1.setCell (Nat.le_refl _) _; have hown2 := hown1.other gs1 (.inr (hown1.ne_blk hbx1 (by decide))); have hv2 := hv.below hB2; have q2 := box_at hbx2 4 (.slice Av nv cv) rfl)
    | (at_builtin; go_loud (refine wpB_append w _ w.heap.size rfl _ (.tmp 8) rfl (.slice none 0 0) [] rfl (OB.nil _ _) Av nv cv val rfl hv2 (by simp; omega) hB2 hB2.size ?_); intro v3 w3 hown3 hB3 hg3 _; rw [List.nil_append] at hown3; obtain ⟨A3, c3, rfl, _, _⟩ := hown3.openN nv hnv; have hg3 := below_of_none hg3; have hbx3 := blk_below hg3 hbx2; have hrx3 := blk_below hg3 hrx2; have hown4 := hown2.below hg3; have q3 := box_at hbx3 4 (.slice Av nv cv) rfl; have f3 := fun i => frozen_of_row w3 w.heap.size i _ _ hbx3; have gs3 := grown_set w3 w.heap.size 4 (.slice A3 nv c3); have hbx4 := heap_setCell_same w3 w.heap.size 4 _ _ (.slice A3 nv c3) hbx3; have hrx4 := blk_grown' gs3 hrx3 (by intro e; have := Option.some.inj e; omega); have hB4 : Below w.heap.size w (w3.setCell ⟨w.heap.size, 4, none⟩ (.slice A3 nv c3)) := hB3.setCell (Nat.le_refl _) _; have hown5 := hown4.other gs3 (.inr (hown4.ne_blk hbx3 (by decide))); have hown6 := hown3.other gs3 (.inr (hown3.ne_blk hbx3 (by decide))); have r0 := box_at hbx4 0 (.slice A1 nk c1) rfl; have r1 := box_at hbx4 1 (.int .i64 s) rfl; have r2 := box_at hbx4 2 (.bool g) rfl; have r3 := box_at hbx4 3 (.int .i64 u) rfl; have r4 := box_at hbx4 4 (.slice A3 nv c3) rfl; have z0 := box_at hrx4 0 (.slice none 0 0) rfl; have z1 := box_at hrx4 1 (.int .i64 0) rfl; have z2 := box_at hrx4 2 (.bool false) rfl; have z3 := box_at hrx4 3 (.int .i64 0) rfl; have z4 := box_at hrx4 4 (.slice none 0 0) rfl; have f4 := fun i => frozen_of_row _ (w.heap.size + 1) i _ _ hrx4))
  have hfin := set5 (.slice A1 nk c1) (.int .i64 s) (.bool g) (.int .i64 u) (.slice A3 nv c3) hrx4
  have hgf := grown_set5 (w3.setCell ⟨w.heap.size, 4, none⟩ (.slice A3 nv c3)) (w.heap.size + 1) (.slice A1 nk c1) (.int .i64 s) (.bool g) (.int .i64 u) (.slice A3 nv c3)
  trace_state
  refine bodyPost_ret (v := .agg #[.slice A1 nk c1, .int .i64 s, .bool g, .int .i64 u, .slice A3 nv c3]) (results_cell_row (P := Tryd.prog) (fn := Tryd.f25) (p := 2) (ty := 29) rfl _ _ (w.heap.size + 1) 29 _ (0, 0) _ rfl hfin Tryd.underlying29 rfl entry5) rfl ⟨_, _, rfl, ?_, ?_, ?_⟩
  · exact hown5.other hgf (.inr (hown5.ne_blk hrx4 (by decide)))
  · exact hown6.other hgf (.inr (hown6.ne_blk hrx4 (by decide)))
  · exact hB4.grown hgf hB4.size (fun k hk => by cases hk; omega)
end Go.Proofs.YtkkclkknpjapcaaDoor
