/- Rows of records: slices of them read and appended; the place of an entry in a row. -/
import Derived.Test.YteediedhofapkaaMmJ
namespace Go.Proofs.Yteediedhofapkaa
open Go.RowKit
set_option linter.unusedVariables false
set_option linter.unusedSimpArgs false

theorem OV.reads {w : World} {base size : Nat} {e : TypeId} {A : Option Addr} {n c : Nat} {V : List (List Value)} (h : OV w base e size (.slice A n c) V) (hn : V.length = n) : Reads w size A n V.flatten := by
  refine ⟨by rw [flat_len V h.2, hn], fun h0 => ?_⟩
  have h1 := h
  subst hn
  obtain ⟨g, c', he, _⟩ := h1.form h0
  injection he with e1 _ _
  subst e1
  refine ⟨_, rfl, fun j u hu => ?_⟩
  exact h.1.cells (g := g) rfl j _ hu
theorem Reads.below {w w' : World} {size : Nat} {A : Option Addr} {n : Nat} {xs : List Value} (h : Reads w size A n xs) (hb : Below w.heap.size w w') : Reads w' size A n xs :=
  ⟨h.1, fun h0 => by
    obtain ⟨ad, e, hc⟩ := h.2 h0
    exact ⟨ad, e, fun j u hu => below_cell hb (hc j u hu)⟩⟩
theorem Reads.suf {w : World} {size : Nat} {A : Option Addr} {n : Nat} {xs : List Value} (h : Reads w size A n xs) {lo c : Nat} (h1 : lo ≤ n) (hc : n ≤ c) : Reads w size (if c = lo then A else A.map (·.add (lo * size))) (n - lo) (xs.drop (lo * size)) := by
  refine ⟨by rw [List.length_drop, h.1, Nat.sub_mul], fun h0 => ?_⟩
  obtain ⟨ad, rfl, hcell⟩ := h.2 (by omega)
  rw [if_neg (by omega)]
  refine ⟨_, rfl, fun j u hu => ?_⟩
  rw [add_of_add]
  rw [List.getElem?_drop] at hu
  exact hcell _ u hu
theorem Reads.pre {w : World} {size : Nat} {A : Option Addr} {n : Nat} {xs : List Value} (h : Reads w size A n xs) {k : Nat} (h1 : k ≤ n) : Reads w size A k (xs.take (k * size)) := by
  have hle : k * size ≤ n * size := Nat.mul_le_mul_right _ h1
  refine ⟨by rw [List.length_take, h.1]; omega, fun h0 => ?_⟩
  obtain ⟨ad, rfl, hcell⟩ := h.2 (by omega)
  refine ⟨_, rfl, fun j u hu => hcell j u ?_⟩
  rw [List.getElem?_take] at hu
  split at hu
  · exact hu
  · cases hu
theorem flat_take {α : Type} {size : Nat} : ∀ (V : List (List α)) (k : Nat), (∀ x ∈ V, x.length = size) → (V.take k).flatten = V.flatten.take (k * size) := by
  intro V
  induction V with
  | nil => intro k _; simp
  | cons x V ih =>
    intro k h
    cases k with
    | zero => simp
    | succ k =>
      have hx : x.length = size := h x (by simp)
      have e1 : (k + 1) * size = x.length + k * size := by rw [Nat.succ_mul, hx]; omega
      rw [List.take_succ_cons, List.flatten_cons, List.flatten_cons, ih k (fun y hy => h y (by simp [hy])), e1, List.take_length_add_append]
theorem flat_drop {α : Type} {size : Nat} : ∀ (V : List (List α)) (k : Nat), (∀ x ∈ V, x.length = size) → (V.drop k).flatten = V.flatten.drop (k * size) := by
  intro V
  induction V with
  | nil => intro k _; simp
  | cons x V ih =>
    intro k h
    cases k with
    | zero => simp
    | succ k =>
      have hx : x.length = size := h x (by simp)
      have e1 : (k + 1) * size = x.length + k * size := by rw [Nat.succ_mul, hx]; omega
      rw [List.drop_succ_cons, List.flatten_cons, ih k (fun y hy => h y (by simp [hy])), e1, List.drop_length_add_append]
theorem elemE : Try.prog.underlying 22 = some (.slice (Try.prog.elem 22)) := by kernel_rfl
theorem sizeE (w : World) : (sizeOf (Try.prog.elem 22)).run Try.prog w = .ok 5 w := by
  obtain ⟨i, hi, _, hs, _⟩ := info_parts eninfo
  have he : Try.prog.elem 22 = 26 := by kernel_rfl
  rw [he]
  simp [sizeOf, typeInfo, hi, hs]
theorem cutE_lo {A : Option Addr} {n c : Nat} (hc : n ≤ c) {lo : Nat} (h1 : lo ≤ n) (L : Int) (hL : L = (lo : Int)) :
    ∃ A2 c2, (∀ w, (Instr.slice 22 (.slice A n c) (some (.int .i64 L)) none none).run Try.prog w = .ok (.slice A2 (n - lo) c2) w) ∧ (∀ w xs, Reads w 5 A n xs → Reads w 5 A2 (n - lo) (xs.drop (lo * 5))) ∧ n - lo ≤ c2 := by
  subst hL
  refine ⟨if c = lo then A else A.map (·.add (lo * 5)), c - lo, fun w => ?_, fun w xs h => h.suf h1 hc, by omega⟩
  rw [run_slice_l (P := Try.prog) w 22 A n c elemE .i64 lo (by omega) (by omega), sizeE]
  simp [sliced, Result.andThen]
theorem cutE_hi {A : Option Addr} {n c : Nat} (hc : n ≤ c) {hi : Nat} (h1 : hi ≤ n) (H : Int) (hH : H = (hi : Int)) :
    ∃ c2, (∀ w, (Instr.slice 22 (.slice A n c) none (some (.int .i64 H)) none).run Try.prog w = .ok (.slice A hi c2) w) ∧ (∀ w xs, Reads w 5 A n xs → Reads w 5 A hi (xs.take (hi * 5))) ∧ hi ≤ c2 := by
  subst hH
  refine ⟨c, fun w => ?_, fun w xs h => h.pre h1, by omega⟩
  rw [run_slice_h (P := Try.prog) w 22 A n c elemE .i64 hi (by omega) (by omega), sizeE]
  cases A <;> simp [sliced, Result.andThen, Addr.add]
/-- append of records, inside a region that draws its order. -/
theorem stepV_append {ops : Array Oper} {o : Oper} {a : Act} {K : Act → World → Prop} {Q : Exit → Act → World → Prop} {E : Prop} (t e : TypeId) (z : Value) (size bytes : Nat) (ht : Try.prog.underlying t = some (.slice e))
    (hinfo : (Try.prog.info? e).map (fun i => (i.zero, i.size, i.bytes)) = some (some z, size, bytes)) (hzs : z.cells.size = size) (hsz : 0 < size) (w0 w : World) (hwant : Region.wanted o (yielded ops a.tmps) = true) (s x : Operand)
    (ho : o.op = .call { callee := .builtin .append, args := #[s, x], argTypes := #[t, t] })
    (v : Value) (V : List (List Value)) (hs : a.eval s = v) (hown : OV w w0.heap.size e size v V) (A : Option Addr) (m c : Nat) (U : List (List Value)) (hx : a.eval x = .slice A m c) (hr : Reads w size A m U.flatten) (hU : ∀ x ∈ U, x.length = size) (hm : U.length = m) (hu : ∀ u ∈ U.flatten, u.oneCell' = true)
    (hmax : V.length + m ≤ maxLen) (hbytes : (V.length + m) * bytes ≤ 140737488355328) (hB : Below w0.heap.size w0 w)
    (h : ∀ v' w', OV w' w0.heap.size e size v' (V ++ U) → Below w0.heap.size w0 w' → w.grownBy w' v.ownBlock → K (a.put o.dst v') w') : if Region.wanted o (yielded ops a.tmps) = true then Oper.wp Try.prog o a w K Q else E := by
  refine step_append_any _ rfl hwant s x _ ho w0.heap.size e z size bytes ht hinfo hzs hsz v V.length V.flatten hs hown.1 _ m c U.flatten hx hr hu hmax hbytes hB.size ?_
  intro v' w' h2 h3 h4
  refine h v' w' ⟨?_, ?_⟩ (hB.grown h3 hB.size (own_base hown.1)) h3
  · rw [List.length_append, List.flatten_append, hm]
    exact h2
  · intro y hy
    rcases List.mem_append.1 hy with hy | hy
    · exact hown.2 y hy
    · exact hU y hy
/-- The place of an entry in a row. -/
def posE (es : List EntR) (e : EntR) : Nat := (preK (eKey e) (eSeq e) es).length
theorem pos_take (es : List EntR) (e : EntR) : es.take (posE es e) = preK (eKey e) (eSeq e) es := by
  have := pre_suf (eKey e) (eSeq e) es
  conv => lhs; rw [← this]
  unfold posE
  rw [List.take_left']
  rw [this]
theorem pos_drop (es : List EntR) (e : EntR) : es.drop (posE es e) = sufK (eKey e) (eSeq e) es := by
  have := pre_suf (eKey e) (eSeq e) es
  conv => lhs; rw [← this]
  unfold posE
  rw [List.drop_left']
  rw [this]
theorem pos_le (es : List EntR) (e : EntR) : posE es e ≤ es.length := by
  have := congrArg List.length (pre_suf (eKey e) (eSeq e) es)
  rw [List.length_append] at this
  unfold posE
  omega
theorem pos_lt {es : List EntR} {e : EntR} {j : Nat} (h : j < posE es e) : aheadE (elt noEnt es j) e = true := by
  have hl := pos_le es e
  refine pre_all (key := eKey e) (s := eSeq e) (l := es) _ ?_
  rw [← pos_take, elt_get noEnt (show j < es.length by omega)]
  exact List.mem_take_iff_getElem.2 ⟨j, by omega, rfl⟩
theorem suf_head {key : List UInt8} {s : Int} {es : List EntR} {x : EntR} {l : List EntR} (h : sufK key s es = x :: l) : aheadK x key s = false := by
  induction es with
  | nil => cases h
  | cons y m ih =>
    rw [sufK] at h
    split at h
    · exact ih h
    · rename_i hy
      injection h with h1 _
      rw [← h1]
      simpa using hy
theorem pos_at {es : List EntR} {e : EntR} (h : posE es e < es.length) : aheadE (elt noEnt es (posE es e)) e = false := by
  have hd := pos_drop es e
  rw [drop_elt h] at hd
  exact suf_head hd.symm
theorem has_pos {es : List EntR} {e : EntR} : hasE es e = true ↔ posE es e < es.length ∧ aheadR (elt noEnt es (posE es e)) e = 0 := by
  unfold hasE
  rw [← pos_drop, aheadR_zero]
  rcases Nat.lt_or_ge (posE es e) es.length with h | h
  · rw [drop_elt h]
    simp [h, and_comm]
  · rw [List.drop_eq_nil_of_le h]
    simp
    omega
theorem ins_pos (es : List EntR) (e : EntR) : insE es e = es.take (posE es e) ++ e :: es.drop (posE es e) := by rw [pos_take, pos_drop]; rfl
section
variable {α : Type} {d : α} {P : List Value → α → Prop} {V U : List (List Value)} {xs ys : List α}
theorem RelV.app (h : RelV d P V xs) (k : RelV d P U ys) : RelV d P (V ++ U) (xs ++ ys) := by
  refine ⟨by simp [h.1, k.1], fun j hj => ?_⟩
  rw [List.length_append] at hj
  by_cases hjv : j < V.length
  · rw [elt_left' _ _ _ hjv, elt_left' _ _ _ (by rw [← h.1]; exact hjv)]
    exact h.2 j hjv
  · rw [elt_right' _ _ _ (by omega), elt_right' _ _ _ (by rw [← h.1]; omega), ← h.1]
    exact k.2 _ (by omega)
theorem elt_take' {β : Type} (d : β) (l : List β) (k j : Nat) (h : j < k) : elt d (l.take k) j = elt d l j := by
  unfold elt
  rw [List.getD_eq_getElem?_getD, List.getD_eq_getElem?_getD, List.getElem?_take, if_pos h]
theorem elt_drop' {β : Type} (d : β) (l : List β) (k j : Nat) : elt d (l.drop k) j = elt d l (k + j) := by
  unfold elt
  rw [List.getD_eq_getElem?_getD, List.getD_eq_getElem?_getD, List.getElem?_drop]
theorem RelV.take (h : RelV d P V xs) (k : Nat) : RelV d P (V.take k) (xs.take k) := by
  refine ⟨by simp [h.1], fun j hj => ?_⟩
  rw [List.length_take] at hj
  rw [elt_take' _ _ _ _ (by omega), elt_take' _ _ _ _ (by omega)]
  exact h.2 j (by omega)
theorem RelV.drop (h : RelV d P V xs) (k : Nat) : RelV d P (V.drop k) (xs.drop k) := by
  refine ⟨by simp [h.1], fun j hj => ?_⟩
  rw [List.length_drop] at hj
  rw [elt_drop', elt_drop']
  exact h.2 _ (by omega)
end
theorem PER.len5 {w : World} {x : List Value} {e : EntR} (h : PER w x e) : x.length = 5 ∧ ∀ u ∈ x, u.oneCell' = true := by
  obtain ⟨Ak, nk, ck, Av, nv, cv, rfl, _⟩ := h
  exact ⟨rfl, ones5 rfl rfl rfl rfl rfl⟩
theorem RelV.ones {w : World} {V : List (List Value)} {es : List EntR} (h : RelV noEnt (PER w) V es) : ∀ u ∈ V.flatten, u.oneCell' = true := by
  intro u hu
  obtain ⟨x, hx, hux⟩ := List.mem_flatten.1 hu
  obtain ⟨j, hj, rfl⟩ := List.getElem_of_mem hx
  have := h.2 j hj
  rw [elt_get _ hj] at this
  exact this.len5.2 u hux
end Go.Proofs.Yteediedhofapkaa
