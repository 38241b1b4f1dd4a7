/- Rows of slices of bytes of one's own. -/
import Derived.Test.YtkcdjmipmpeedaaB
namespace Go.Proofs.Ytkcdjmipmpeedaa
open Go.RowKit
set_option linter.unusedVariables false
set_option linter.unusedSimpArgs false

theorem bsinfo : (Try.prog.info? 22).map (fun i => (i.zero, i.size, i.bytes)) = some (some (.slice none 0 0), 1, 24) := by kernel_rfl
/-- Values that are slices of bytes, read in a world. -/
def RBW (w : World) (V : List Value) (xss : List (List UInt8)) : Prop :=
  V.length = xss.length ∧ ∀ j, j < V.length → ∃ A n c, elt undef V j = .slice A n c ∧ RB w A n (elt [] xss j) ∧ n ≤ c
section
variable {w w' : World} {V V2 : List Value} {xss yss : List (List UInt8)}
theorem RBW.nil (w : World) : RBW w [] [] := ⟨rfl, fun j h => absurd h (by simp)⟩
theorem RBW.below (h : RBW w V xss) (hb : Below w.heap.size w w') : RBW w' V xss := ⟨h.1, fun j hj => by
  obtain ⟨A, n, c, e, h1, h2⟩ := h.2 j hj
  exact ⟨A, n, c, e, h1.below hb, h2⟩⟩
theorem elt_left {α : Type} (d : α) (a b : List α) {j : Nat} (hj : j < a.length) : elt d (a ++ b) j = elt d a j := by
  unfold elt
  simp [List.getElem?_append, hj]
theorem elt_right {α : Type} (d : α) (a b : List α) {j : Nat} (hj : a.length ≤ j) : elt d (a ++ b) j = elt d b (j - a.length) := by
  unfold elt
  rw [List.getD_eq_getElem?_getD, List.getD_eq_getElem?_getD, List.getElem?_append_right hj]
theorem RBW.append (h : RBW w V xss) (h2 : RBW w V2 yss) : RBW w (V ++ V2) (xss ++ yss) := by
  refine ⟨by rw [List.length_append, List.length_append, h.1, h2.1], fun j hj => ?_⟩
  by_cases hjv : j < V.length
  · obtain ⟨A, n, c, e, h3, h4⟩ := h.2 j hjv
    exact ⟨A, n, c, by rw [elt_left _ _ _ hjv]; exact e, by rw [elt_left _ _ _ (by rw [← h.1]; exact hjv)]; exact h3, h4⟩
  · rw [List.length_append] at hj
    obtain ⟨A, n, c, e, h3, h4⟩ := h2.2 (j - V.length) (by omega)
    refine ⟨A, n, c, by rw [elt_right _ _ _ (by omega)]; exact e, ?_, h4⟩
    rw [elt_right _ _ _ (by rw [← h.1]; omega), ← h.1]
    exact h3
theorem RBW.one {A : Option Addr} {n c : Nat} {xs : List UInt8} (h : RB w A n xs) (hc : n ≤ c) : RBW w [.slice A n c] [xs] := by
  refine ⟨rfl, fun j hj => ?_⟩
  obtain rfl : j = 0 := by simpa using hj
  exact ⟨A, n, c, rfl, h, hc⟩
theorem RBW.ones (h : RBW w V xss) : ∀ u ∈ V, u.oneCell' = true := by
  intro u hu
  obtain ⟨j, hj, e⟩ := List.mem_iff_getElem.1 hu
  obtain ⟨A, n, c, e2, _, _⟩ := h.2 j hj
  have : elt undef V j = u := by unfold elt; simp [hj, e]
  rw [← this, e2]
  rfl
theorem RBs.vals {A : Option Addr} {n : Nat} (h : RBs w A n xss) : ∃ V : List Value, V.length = n ∧ RBW w V xss ∧ Reads w 1 A n V := by
  have each : ∀ j, ∃ v : Value, j < n → ∃ ad, A = some ad ∧ w.cell? (ad.add j) = some v ∧ ∃ Aj nj cj, v = .slice Aj nj cj ∧ RB w Aj nj (elt [] xss j) ∧ nj ≤ cj := by
    intro j
    by_cases hj : j < n
    · obtain ⟨ad, e, Aj, nj, cj, h1, h2, h3⟩ := h.at_ hj
      exact ⟨_, fun _ => ⟨ad, e, h1, Aj, nj, cj, rfl, h2, h3⟩⟩
    · exact ⟨undef, fun h => absurd h hj⟩
  obtain ⟨F, hF⟩ := Classical.axiomOfChoice each
  have hel : ∀ j, j < n → elt undef ((List.range n).map F) j = F j := fun j hj => by unfold elt; simp [hj]
  refine ⟨(List.range n).map F, by simp, ⟨by simp [h.1], fun j hj => ?_⟩, ⟨by simp, fun hn => ?_⟩⟩
  · have hjn : j < n := by simpa using hj
    obtain ⟨ad, e, h1, Aj, nj, cj, h2, h3, h4⟩ := hF j hjn
    exact ⟨Aj, nj, cj, by rw [hel j hjn]; exact h2, h3, h4⟩
  · obtain ⟨ad, e, _⟩ := hF 0 hn
    refine ⟨ad, e, fun j u hu => ?_⟩
    have hjn : j < n := by
      rcases Nat.lt_or_ge j n with h1 | h1
      · exact h1
      · rw [List.getElem?_eq_none (by simpa using h1)] at hu; cases hu
    obtain ⟨ad2, e2, h1, _⟩ := hF j hjn
    rw [e] at e2
    cases e2
    rw [h1]
    simpa [hjn] using hu
theorem Reads.below {A : Option Addr} {n : Nat} (h : Reads w 1 A n V) (hb : Below w.heap.size w w') : Reads w' 1 A n V := ⟨h.1, fun hn => by
  obtain ⟨ad, e, h1⟩ := h.2 hn
  exact ⟨ad, e, fun j u hu => below_cell hb (h1 j u hu)⟩⟩
def OS (w : World) (base : Nat) (v : Value) (V : List Value) : Prop := w.ownsRow base 22 1 v V.length V
variable {base : Nat} {v : Value}
theorem OS.nil (w : World) (base : Nat) : OS w base (.slice none 0 0) [] := World.ownsRow_nil _ _ _ _
theorem OS.empty (w : World) (base : Nat) (hb : base ≤ w.heap.size) : OS (w.alloc (.cells #[] 22)) base (.slice (some ⟨w.heap.size, 0, none⟩) 0 0) [] := World.ownsRow_made w #[] 0 hb (by decide) rfl
theorem OS.below (h : OS w base v V) (hb : Below w.heap.size w w') : OS w' base v V := own_below h hb
theorem OS.reads (h : OS w base v V) : ∃ A c, v = .slice A V.length c ∧ V.length ≤ c ∧ Reads w 1 A V.length V := by
  rcases Nat.eq_zero_or_pos V.length with h0 | h0
  · obtain ⟨A, c, rfl⟩ := own_slice h
    exact ⟨A, c, rfl, own_cap h, ⟨by omega, fun hn => absurd hn (by omega)⟩⟩
  · obtain ⟨g, cap, e, h1, h2⟩ := World.ownsRow.form h h0
    subst e
    refine ⟨_, cap, rfl, own_cap h, ⟨by omega, fun hn => ⟨_, rfl, fun j u hu => ?_⟩⟩⟩
    have hj : j < V.length := by
      rcases Nat.lt_or_ge j V.length with h3 | h3
      · exact h3
      · rw [List.getElem?_eq_none h3] at hu; cases hu
    rw [add_plain, Nat.zero_add, World.ownsRow.cellAt h j (by omega), hu]
theorem OS.readsN (h : OS w base v V) (N : Nat) (hl : V.length = N) : ∃ A c, v = .slice A N c ∧ N ≤ c ∧ Reads w 1 A N V := by
  subst hl
  exact h.reads
theorem RBs_of_reads {A : Option Addr} {n : Nat} (h : Reads w 1 A n V) (hw : RBW w V xss) (hm : n ≤ 9223372036854775807) : RBs w A n xss := by
  have hn1 : V.length = n := by have := h.1; omega
  refine ⟨by rw [← hw.1, hn1], hm, fun hn => ?_⟩
  obtain ⟨ad, e, h1⟩ := h.2 hn
  refine ⟨ad, e, fun j hj => ?_⟩
  obtain ⟨Aj, nj, cj, e2, h2, h3⟩ := hw.2 j (by omega)
  refine ⟨Aj, nj, cj, ?_, h2, h3⟩
  rw [← e2]
  apply h1
  unfold elt
  have : j < V.length := by omega
  simp [this]
end
/-- append of slices of bytes onto a row of the call's own. -/
theorem wpS_append {ops : Array Oper} {rest : List Oper} {o : Oper} {a : Act} {Q : Exit → Act → World → Prop} (w0 w : World) (base : Nat) (hgd : o.guard = none) (s x : Operand)
    (ho : o.op = .call { callee := .builtin .append, args := #[s, x], argTypes := #[30, 30] })
    (v : Value) (V : List Value) (hs : a.eval s = v) (hown : OS w base v V) (A : Option Addr) (m c : Nat) (V2 : List Value) (hx : a.eval x = .slice A m c) (hr : Reads w 1 A m V2) (h1 : ∀ u ∈ V2, u.oneCell' = true)
    (hbytes : (V.length + m) * 24 ≤ 140737488355328) (hB : Below base w0 w) (hbase : base ≤ w.heap.size)
    (h : ∀ v' w', OS w' base v' (V ++ V2) → Below base w0 w' → wpList Try.prog ops Q rest (a.put o.dst v') w') : wpList Try.prog ops Q (o :: rest) a w := by
  have hm : V2.length = m := by have := hr.1; omega
  refine wpList_append_any w hgd s x _ ho base 22 (.slice none 0 0) 1 24 Try.underlying30 bsinfo rfl (by omega) v V.length V hs hown A m c V2 hx hr h1 (by simp only [maxLen]; omega) hbytes hbase ?_
  intro v' w' h2 h3 h4
  refine h v' w' ?_ (hB.grown h3 hbase (own_base hown))
  show w'.ownsRow _ _ _ _ _ _
  rw [List.length_append, hm]
  exact h2
/-- append of one slice of bytes. -/
theorem wpS_append1 {ops : Array Oper} {rest : List Oper} {o : Oper} {a : Act} {Q : Exit → Act → World → Prop} (w0 w : World) (base : Nat) (hgd : o.guard = none) (s x : Operand)
    (ho : o.op = .call { callee := .builtin .append, args := #[s, x], argTypes := #[30, 30] })
    (v : Value) (V : List Value) (hs : a.eval s = v) (hown : OS w base v V) (A : Option Addr) (m c c2 g : Nat) (hg : g = w.heap.size) (hx : a.eval x = .slice (some ⟨g, 0, none⟩) 1 c2)
    (hbytes : (V.length + 1) * 24 ≤ 140737488355328) (hB : Below base w0 w) (hbase : base ≤ w.heap.size)
    (h : ∀ v' w', OS w' base v' (V ++ [.slice A m c]) → Below base w0 w' → wpList Try.prog ops Q rest (a.put o.dst v') w') : wpList Try.prog ops Q (o :: rest) a (w.alloc (.cells #[.slice A m c] 22)) := by
  subst hg
  have hB1 : Below base w0 (w.alloc (.cells #[.slice A m c] 22)) := hB.alloc hbase _
  exact wpS_append w0 _ base hgd s x ho v V hs (World.ownsRow.alloc hown _) (some ⟨w.heap.size, 0, none⟩) 1 c2 [.slice A m c] hx (Reads.block (heap_alloc_new w _) rfl) (fun u hu => by simp at hu; subst hu; rfl) hbytes hB1 (by simp; omega) h
end Go.Proofs.Ytkcdjmipmpeedaa
