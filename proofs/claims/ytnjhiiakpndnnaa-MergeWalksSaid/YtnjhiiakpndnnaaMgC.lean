/- Layer 16: heads in memory; Len, Less, Swap. -/
import Derived.Test.YtnjhiiakpndnnaaMgB
namespace Go.Proofs.Ytnjhiiakpndnnaa
open Go.RowKit
set_option linter.unusedVariables false
set_option linter.unusedSimpArgs false

theorem ulH : Try.prog.underlying 63 = some (.pointer 59) := by kernel_rfl
theorem usH : Try.prog.underlying 59 = some (.slice 61) := by kernel_rfl
theorem run_method (w : World) (b : Nat) (A : Option Addr) (n c : Nat) (name : String) (f : FuncId)
    (hm : ((Try.prog.info? 63).bind (fun i => i.methods.find? (·.name == name))).map (fun m => (m.path.toList, m.path.isEmpty, m.func)) = some ([], true, some (f, false)))
    (hc : w.cell? ⟨b, 0, none⟩ = some (.slice A n c)) : (method 193 63 (.pointer (some ⟨b, 0, none⟩)) name).run Try.prog w = .ok (f, .slice A n c) w := by
  cases hi : Try.prog.info? 63 with
  | none => rw [hi] at hm; cases hm
  | some i =>
    rw [hi] at hm
    simp only [Option.bind_some] at hm
    cases hf : i.methods.find? (·.name == name) with
    | none => rw [hf] at hm; cases hm
    | some m =>
      rw [hf] at hm
      simp only [Option.map_some, Option.some.injEq, Prod.mk.injEq] at hm
      obtain ⟨h1, h2, h3⟩ := hm
      unfold method
      simp [typeInfo, hi, hf, h1, follow, h3, receiverAt, run_underlying ulH, h2, Place.get, asAddr]
      have h2' : m.path = #[] := by simpa using h2
      rw [if_pos h2']
      have hwn : ∀ nm : String, Builtin.ssaWrapNilChk_ #[63] 63 #[.pointer (some ⟨b, 0, none⟩), strVal "", strVal nm] = pure (.pointer (some ⟨b, 0, none⟩)) := fun _ => rfl
      simp [hwn, loadVar, isAgg, run_underlying usH, run_load, hc]
theorem mLen : ((Try.prog.info? 63).bind (fun i => i.methods.find? (·.name == "Len"))).map (fun m => (m.path.toList, m.path.isEmpty, m.func)) = some ([], true, some (52, false)) := by kernel_rfl
theorem mLess : ((Try.prog.info? 63).bind (fun i => i.methods.find? (·.name == "Less"))).map (fun m => (m.path.toList, m.path.isEmpty, m.func)) = some ([], true, some (53, false)) := by kernel_rfl
theorem mSwap : ((Try.prog.info? 63).bind (fun i => i.methods.find? (·.name == "Swap"))).map (fun m => (m.path.toList, m.path.isEmpty, m.func)) = some ([], true, some (54, false)) := by kernel_rfl
theorem hdinfo : (Try.prog.info? 61).map (fun i => (i.zero, i.size, i.bytes)) = some (some (.agg #[.slice none 0 0, .int .i64 0]), 2, 32) := by kernel_rfl
/-- A head's cells: what is left of the row is read in a world. -/
def PHd (w : World) (x : List Value) (h : HeadR) : Prop := ∃ A n c, x = [.slice A n c, .int .i64 (hRow h : Int)] ∧ REnts w A n (hL h) ∧ n ≤ c ∧ 0 < n
/-- Heads in memory: the row of them (in block g), the box that holds it. -/
structure HJ (w W : World) (base bh g n c : Nat) (L : List (List Value)) (H : List HeadR) : Prop where
  ov : OV W base 61 2 (.slice (some ⟨g, 0, none⟩) n c) L
  rel : RelV noHd (PHd w) L H
  len : H.length = n
  box : W.heap[bh]? = some (.cells #[.slice (some ⟨g, 0, none⟩) n c] 59 (0, 0))
  bel : Below w.heap.size w W
theorem HJ.llen {w W : World} {base bh g n c : Nat} {L : List (List Value)} {H : List HeadR} (h : HJ w W base bh g n c L H) : L.length = n := by rw [h.rel.1, h.len]
theorem HJ.below {w W W' : World} {base bh g n c : Nat} {L : List (List Value)} {H : List HeadR} (h : HJ w W base bh g n c L H) (hb : Below W.heap.size W W') : HJ w W' base bh g n c L H := ⟨h.ov.below hb, h.rel, h.len, blk_below hb h.box, below_then h.bel hb⟩
/-- The cells of a head. -/
theorem HJ.cells {w W : World} {base bh g n c k : Nat} {L : List (List Value)} {H : List HeadR} (h : HJ w W base bh g n c L H) (hk : k < n) :
    ∃ A m d, W.cell? ⟨g, k * 2, none⟩ = some (.slice A m d) ∧ W.cell? ⟨g, k * 2 + 1, none⟩ = some (.int .i64 (hRow (eh H k) : Int)) ∧ REnts w A m (hL (eh H k)) ∧ m ≤ d ∧ 0 < m ∧ elt [] L k = [.slice A m d, .int .i64 (hRow (eh H k) : Int)] := by
  have hl := h.llen
  have ho := h.ov
  rw [← hl] at ho
  obtain ⟨A, m, d, hx, hr, hc, h0⟩ := h.rel.2 k (by omega)
  have hcell := fun i (hi : i < 2) => ho.cell (j := k) (i := i) (by omega) hi
  rw [hx] at hcell
  exact ⟨A, m, d, by simpa using hcell 0 (by omega), by simpa using hcell 1 (by omega), hr, hc, h0, hx⟩
set_option maxHeartbeats 8000000 in
theorem len_any (A : Option Addr) (n c : Nat) (w : World) : Calls Try.prog 52 #[.slice A n c] w fun e w' => e = .returned (.int .i64 (n : Int)) ∧ w = w' := by
  go_enter Try.func52, Try.ntmps52
  go_wp2
  go_ret
  exact ⟨rfl, rfl⟩
set_option maxHeartbeats 32000000 in
set_option maxRecDepth 100000 in
theorem less_any (w W : World) (base bh g n c i j : Nat) (L : List (List Value)) (H : List HeadR) (h : HJ w W base bh g n c L H) (hi : i < n) (hj : j < n) (hn : n ≤ 1000) :
    Calls Try.prog 53 #[.slice (some ⟨g, 0, none⟩) n c, .int .i64 (i : Int), .int .i64 (j : Int)] W fun e w' => e = .returned (.bool (lessB (eh H i) (eh H j))) ∧ Below W.heap.size W w' := by
  obtain ⟨Ai, mi, di, i0, i1, hri, hci, hpi, _⟩ := h.cells hi
  obtain ⟨Aj, mj, dj, j0, j1, hrj, hcj, hpj, _⟩ := h.cells hj
  obtain ⟨ai, hae, hc1⟩ := hri.at_ hpi
  obtain ⟨aj, haf, hc2⟩ := hrj.at_ hpj
  subst hae haf
  have HB := hid h.bel
  have hc1 := hc1.below h.bel
  have hc2 := hc2.below h.bel
  rw [Nat.zero_mul] at hc1 hc2
  have HLess : Hid (∀ C, aheadR (hE (eh H i)) (hE (eh H j)) = C → lessB (eh H i) (eh H j) = decide (C < 0 ∨ (C = 0 ∧ hRow (eh H i) < hRow (eh H j)))) := by
    intro C hC
    rw [Bool.eq_iff_iff, lessB_iff, decide_eq_true_iff, ← hC, aheadR_neg, aheadR_zero]
    unfold LessH sameE
    simp
  clear h hri hrj
  obtain ⟨Ak, nk, ck, Av, nv, cv, a0, a1, a2, a3, a4, a5, a6, a7, a8⟩ := hc1
  obtain ⟨Bk, mk, dk, Bv, mv, dv, b0, b1, b2, b3, b4, b5, b6, b7, b8⟩ := hc2
  have hEi : elt noEnt (hL (eh H i)) 0 = hE (eh H i) := rfl
  have hEj : elt noEnt (hL (eh H j)) 0 = hE (eh H j) := rfl
  rw [hEi] at a1 a2 a3 a5
  rw [hEj] at b1 b2 b3 b5
  generalize lessB (eh H i) (eh H j) = LB at *
  generalize hE (eh H i) = x at *
  generalize hE (eh H j) = y at *
  generalize hRow (eh H i) = ri at *
  generalize hRow (eh H j) = rj at *
  obtain ⟨C, hC⟩ : ∃ C, aheadR x y = C := ⟨_, rfl⟩
  have HLe := hid (HLess.out C hC)
  have HC := hid hC
  have HK := hid (⟨a5, b5⟩ : _ ∧ _)
  have z0 : ∀ ad : Addr, ad.add 0 = ad := fun ad => by unfold Addr.add; simp
  rw [z0] at a0 a1 a2 a3 a4 b0 b1 b2 b3 b4
  clear hC HLess a5 a6 b5 b6 hEi hEj
  go_enter Try.func53, Try.ntmps53
  go_wp2
  go_cut [7] (fun v wx => v = .int .i64 C ∧ Below W.heap.size W wx)
  case first =>
    go_region_with (go_at_call 32; (with_reducible refine (order_any Ak nk ck Av nv cv x Bk mk dk Bv mv dv y _ HK.out.1.drew HK.out.2.drew).mono ?_); rintro r w1 ⟨rfl, hb1⟩; rw [HC.out])
    all_goals
      go_wp2
      go_meet
      exact ⟨rfl, below_then (below_drew (Below.refl _ _)) hb1⟩
  case rest =>
    obtain ⟨rfl, hB3⟩ := hcut
    have i1 := below_cell hB3 i1
    have j1 := below_cell hB3 j1
    by_cases h1 : C < 0
    · have hd1 : decide (C < 0) = true := decide_eq_true h1
      have hres : LB = true := by rw [HLe.out]; exact decide_eq_true (.inl h1)
      have HR := hid hres
      clear hres h1
      go_wp2
      go_quiet (fail)
      go_wp2
      go_ret
      exact ⟨by rw [HR.out]; rfl, below_drewN hB3 _⟩
    · have hd1 : decide (C < 0) = false := decide_eq_false h1
      by_cases h2 : C = 0
      · have hd2 : (C == 0) = true := by rw [beq_iff_eq]; exact h2
        by_cases h3 : ri < rj
        · have hres : LB = true := by rw [HLe.out]; exact decide_eq_true (.inr ⟨h2, h3⟩)
          have hd3 : decide (ri < rj) = true := decide_eq_true h3
          have HR := hid hres
          clear hres h1 h2 h3
          go_wp2
          go_quiet (fail)
          go_wp2
          go_ret
          exact ⟨by rw [HR.out]; rfl, below_drewN hB3 _⟩
        · have hres : LB = false := by rw [HLe.out]; exact decide_eq_false (fun h => h.elim h1 fun h => h3 h.2)
          have hd3 : decide (ri < rj) = false := decide_eq_false h3
          have HR := hid hres
          clear hres h1 h2 h3
          go_wp2
          go_quiet (fail)
          go_wp2
          go_ret
          exact ⟨by rw [HR.out]; rfl, below_drewN hB3 _⟩
      · have hd2 : (C == 0) = false := by rw [beq_eq_false_iff_ne]; exact h2
        have hres : LB = false := by rw [HLe.out]; exact decide_eq_false (fun h => h.elim h1 fun h => h2 h.1)
        have HR := hid hres
        clear hres h1 h2
        go_wp2
        go_quiet (fail)
        go_wp2
        go_ret
        exact ⟨by rw [HR.out]; rfl, below_drewN hB3 _⟩
theorem flat_set {size : Nat} {α : Type} : ∀ (V : List (List α)) (i k : Nat) (x : List α) (a : α), (∀ y ∈ V, y.length = size) → V[i]? = some x → k < size → (V.set i (x.set k a)).flatten = V.flatten.set (i * size + k) a := by
  intro V
  induction V with
  | nil => intro i k x a _ h; cases h
  | cons y V ih =>
    intro i k x a hV hx hk
    have hy : y.length = size := hV y (by simp)
    cases i with
    | zero =>
      simp only [List.getElem?_cons_zero, Option.some.injEq] at hx
      subst hx
      rw [List.set_cons_zero, List.flatten_cons, List.flatten_cons, Nat.zero_mul, Nat.zero_add, List.set_append, if_pos (by omega)]
    | succ i =>
      rw [List.set_cons_succ, List.flatten_cons, List.flatten_cons, ih i k x a (fun z hz => hV z (by simp [hz])) (by simpa using hx) hk, List.set_append, if_neg (by rw [hy, Nat.succ_mul]; omega), hy]
      congr 2
      rw [Nat.succ_mul]
      omega
theorem OV.set1 {w : World} {base size g n c i k : Nat} {e : TypeId} {V : List (List Value)} {x : List Value} (h : OV w base e size (.slice (some ⟨g, 0, none⟩) n c) V) (hn : V.length = n) (hx : V[i]? = some x) (hk : k < size) (a : Value) (ha : a.oneCell' = true) : OV (w.setCell ⟨g, i * size + k, none⟩ a) base e size (.slice (some ⟨g, 0, none⟩) n c) (V.set i (x.set k a)) := by
  subst hn
  refine ⟨?_, ?_⟩
  · have := (World.ownsRow.stored h.1 (i * size + k) a).1
    rw [List.length_set, flat_set V i k x a h.2 hx hk]
    exact this
  · intro y hy
    rcases List.mem_or_eq_of_mem_set hy with hy | hy
    · exact h.2 y hy
    · rw [hy, List.length_set]
      exact h.2 x (List.mem_of_getElem? hx)
theorem set2 (x y : Value) (a b : Value) : (([x, y] : List Value).set 0 a).set 1 b = [a, b] := rfl
/-- A record of two cells is written. -/
theorem OV.setRec {w : World} {base g n c i : Nat} {e : TypeId} {V : List (List Value)} {x y : Value} (h : OV w base e 2 (.slice (some ⟨g, 0, none⟩) n c) V) (hn : V.length = n) (hx : V[i]? = some [x, y]) (a b : Value) (ha : a.oneCell' = true) (hb : b.oneCell' = true) :
    OV ((w.setCell ⟨g, i * 2, none⟩ a).setCell ⟨g, i * 2 + 1, none⟩ b) base e 2 (.slice (some ⟨g, 0, none⟩) n c) (V.set i [a, b]) := by
  have h1 := h.set1 hn hx (k := 0) (by omega) a ha
  have hi : i < V.length := by
    rcases Nat.lt_or_ge i V.length with h1 | h1
    · exact h1
    · rw [List.getElem?_eq_none h1] at hx; cases hx
  have h2 := h1.set1 (by simpa using hn) (i := i) (x := [a, y]) (by simp [hi]) (k := 1) (by omega) b hb
  simpa using h2
set_option maxHeartbeats 32000000 in
set_option maxRecDepth 100000 in
theorem swap_any (w W : World) (base bh g n c i j : Nat) (L : List (List Value)) (H : List HeadR) (h : HJ w W base bh g n c L H) (hb : w.heap.size ≤ base) (hi : i < n) (hj : j < n) (hij : i ≠ j) (hn : n ≤ 1000) :
    Calls Try.prog 54 #[.slice (some ⟨g, 0, none⟩) n c, .int .i64 (i : Int), .int .i64 (j : Int)] W fun e w' => e = .returned (.tuple #[]) ∧ HJ w w' base bh g n c (swapL [] L i j) (swapL noHd H i j) ∧ W.grownBy w' (some g) := by
  have hl := h.llen
  obtain ⟨Ai, mi, di, i0, i1, hri, hci, hpi, hLi⟩ := h.cells hi
  obtain ⟨Aj, mj, dj, j0, j1, hrj, hcj, hpj, hLj⟩ := h.cells hj
  obtain ⟨cur, hcur⟩ := h.ov.blk
  have fz := fun k => frozen_of_row W g k _ _ hcur
  have hgb : base ≤ g := h.ov.base_ g rfl
  have HH := hid h
  have hne : g ≠ bh := blk_ne hcur h.box (by decide)
  have HFin : Hid (∀ W', W' = (((W.setCell ⟨g, i * 2, none⟩ (.slice Aj mj dj)).setCell ⟨g, i * 2 + 1, none⟩ (.int .i64 (hRow (eh H j) : Int))).setCell ⟨g, j * 2, none⟩ (.slice Ai mi di)).setCell ⟨g, j * 2 + 1, none⟩ (.int .i64 (hRow (eh H i) : Int)) → HJ w W' base bh g n c (swapL [] L i j) (swapL noHd H i j) ∧ W.grownBy W' (some g)) := by
    rintro W' rfl
    have hli : L[i]? = some [.slice Ai mi di, .int .i64 (hRow (eh H i) : Int)] := by rw [List.getElem?_eq_getElem (by omega), ← hLi, elt_get [] (by omega)]
    have hlj : L[j]? = some [.slice Aj mj dj, .int .i64 (hRow (eh H j) : Int)] := by rw [List.getElem?_eq_getElem (by omega), ← hLj, elt_get [] (by omega)]
    have s1 := h.ov.setRec hl hli (.slice Aj mj dj) (.int .i64 (hRow (eh H j) : Int)) rfl rfl
    have s2 := s1.setRec (i := j) (by simpa using hl) (by rw [List.getElem?_set_ne hij]; exact hlj) (.slice Ai mi di) (.int .i64 (hRow (eh H i) : Int)) rfl rfl
    have g4 := grown_trans (grown_trans (grown_trans (grown_set W g (i * 2) (.slice Aj mj dj)) (grown_set _ g (i * 2 + 1) (.int .i64 (hRow (eh H j) : Int)))) (grown_set _ g (j * 2) (.slice Ai mi di))) (grown_set _ g (j * 2 + 1) (.int .i64 (hRow (eh H i) : Int)))
    have eL : swapL [] L i j = (L.set i [.slice Aj mj dj, .int .i64 (hRow (eh H j) : Int)]).set j [.slice Ai mi di, .int .i64 (hRow (eh H i) : Int)] := by unfold swapL; rw [hLi, hLj]
    refine ⟨⟨by rw [eL]; exact s2, ⟨by rw [swapL_len, swapL_len]; exact h.rel.1, fun k hk => ?_⟩, by rw [swapL_len]; exact h.len, blk_grown' g4 h.box (fun e => hne (Option.some.inj e)), h.bel.grown g4 h.bel.size (fun k hk => by cases hk; omega)⟩, g4⟩
    rw [swapL_len] at hk
    rw [elt_swap [] L i j k (by omega) (by omega) hij, elt_swap noHd H i j k (by rw [h.len]; exact hi) (by rw [h.len]; exact hj) hij]
    by_cases e1 : k = i
    · rw [if_pos e1, if_pos e1]; exact h.rel.2 j (by omega)
    · rw [if_neg e1, if_neg e1]
      by_cases e2 : k = j
      · rw [if_pos e2, if_pos e2]; exact h.rel.2 i (by omega)
      · rw [if_neg e2, if_neg e2]; exact h.rel.2 k hk
  have hij2 : i * 2 ≠ j * 2 := by omega
  clear h hri hrj HH hcur hLi hLj
  generalize hRow (eh H i) = ri at *
  generalize hRow (eh H j) = rj at *
  go_enter Try.func54, Try.ntmps54
  go_wp2
  go_region
  all_goals
    go_wp2
    go_end0
    obtain ⟨r1, r2⟩ := HFin.out _ rfl
    exact ⟨rfl, r1.below (below_drew (Below.refl _ _)), grown_below r2 (below_drew (Below.refl _ _))⟩
end Go.Proofs.Ytnjhiiakpndnnaa
