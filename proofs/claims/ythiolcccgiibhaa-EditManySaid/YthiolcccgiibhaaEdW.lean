/- Layer 14: bytes as an edit, in plain terms: what was encoded is told again, bytes that are cut off are none. -/
import Derived.Test.YthiolcccgiibhaaEdD
namespace Go.Proofs.Ythiolcccgiibhaa
open Go.RowKit
set_option linter.unusedVariables false
set_option linter.unusedSimpArgs false

theorem numR_uvar {g most : Nat} (hg : g < 18446744073709551616) (hm : g ≤ most) (r : List UInt8) : numR most (uvar g ++ r) 0 = (g, r, 0) := by
  unfold numR
  rw [takeU_uvar hg r]
  simp only [ne_eq, not_true_eq_false, if_false]
  rw [if_neg (by omega), List.drop_left]
theorem takeB_put (s r : List UInt8) (most : Int) (hs : s.length < 18446744073709551616) (hm : (s.length : Int) ≤ most) : takeB (uvar s.length ++ (s ++ r)) most = (s, (uvar s.length).length + s.length, 0) := by
  unfold takeB
  rw [takeU_uvar hs]
  simp only [ne_eq, not_true_eq_false, if_false]
  rw [if_neg (by omega), if_neg (by simp only [List.length_append]; omega), List.drop_left, List.take_left]
theorem bytesR_put (s r : List UInt8) (most : Int) (hs : s.length < 18446744073709551616) (hm : (s.length : Int) ≤ most) : bytesR most (uvar s.length ++ (s ++ r)) 0 = (s, r, 0) := by
  unfold bytesR
  rw [takeB_put s r most hs hm]
  simp only [ne_eq, not_true_eq_false, if_false]
  rw [← List.append_assoc, ← List.length_append, List.drop_left]
theorem numR_err {most : Nat} {xs : List UInt8} {er : Nat} (h : er ≠ 0) : numR most xs er = (0, xs, er) := by unfold numR; rw [if_pos h]
theorem bytesR_err {most : Int} {xs : List UInt8} {er : Nat} (h : er ≠ 0) : bytesR most xs er = ([], xs, er) := by unfold bytesR; rw [if_pos h]
theorem numR_cut {g i most : Nat} (hg : g < 18446744073709551616) (hi : i < (uvar g).length) : (numR most ((uvar g).take i) 0).2.2 ≠ 0 := by
  unfold numR
  rw [takeU_cut hg hi]
  simp
theorem bytesR_cut {s : List UInt8} {i : Nat} {most : Int} (hs : s.length < 18446744073709551616) (hi : i < (uvar s.length ++ s).length) : (bytesR most ((uvar s.length ++ s).take i) 0).2.2 ≠ 0 := by
  unfold bytesR
  rw [if_neg (by omega)]
  show (takeB _ most).2.2 ≠ 0
  unfold takeB
  by_cases h : i < (uvar s.length).length
  · rw [List.take_append_of_le_length (by omega), takeU_cut hs h]
    simp
  · rw [List.take_append, List.take_of_length_le (by omega), takeU_uvar hs]
    simp only [ne_eq, not_true_eq_false, if_false]
    split
    · decide
    · rw [if_pos ?_]
      · decide
      · simp only [List.length_append, List.length_take] at hi ⊢
        omega
theorem take_app {a b : List UInt8} {i : Nat} (h : i < (a ++ b).length) : (i < a.length ∧ (a ++ b).take i = a.take i) ∨ (∃ j, j < b.length ∧ (a ++ b).take i = a ++ b.take j) := by
  by_cases h1 : i < a.length
  · exact .inl ⟨h1, List.take_append_of_le_length (by omega)⟩
  · refine .inr ⟨i - a.length, by rw [List.length_append] at h; omega, ?_⟩
    rw [List.take_append, List.take_of_length_le (by omega)]
/-- One line out of the reader. -/
def tab1 (xs : List UInt8) (er : Nat) : TabR × List UInt8 × Nat :=
  let a := numR 1099511627776 xs er
  let b := numR 3 a.2.1 a.2.2
  let c := numR 4194304 b.2.1 b.2.2
  let k := bytesR 512 c.2.1 c.2.2
  let m := bytesR 512 k.2.1 k.2.2
  (mkTab (a.1 : Int) (b.1 : Int) (c.1 : Int) k.1 m.1, m.2.1, m.2.2)
def loopT : Nat → List UInt8 → Nat → List TabR → List TabR × List UInt8 × Nat
  | 0, xs, er, acc => (acc, xs, er)
  | f + 1, xs, er, acc => if er ≠ 0 then (acc, xs, er) else loopT f (tab1 xs er).2.1 (tab1 xs er).2.2 (acc ++ [(tab1 xs er).1])
def loopZ : Nat → List UInt8 → Nat → List Int → List Int × List UInt8 × Nat
  | 0, xs, er, acc => (acc, xs, er)
  | f + 1, xs, er, acc => if er ≠ 0 then (acc, xs, er) else loopZ f (numR 1099511627776 xs er).2.1 (numR 1099511627776 xs er).2.2 (acc ++ [((numR 1099511627776 xs er).1 : Int)])
def headR (xs : List UInt8) : Nat × Nat × Nat × List UInt8 × Nat :=
  let a := numR 4611686018427387904 xs 0
  let b := numR 4611686018427387904 a.2.1 a.2.2
  let c := numR 4611686018427387904 b.2.1 b.2.2
  (a.1, b.1, c.1, c.2.1, c.2.2)
def partT (xs : List UInt8) (er : Nat) : List TabR × List UInt8 × Nat :=
  loopT (numR 200 xs er).1 (numR 200 xs er).2.1 (numR 200 xs er).2.2 []
def partZ (xs : List UInt8) (er : Nat) : List Int × List UInt8 × Nat :=
  loopZ (numR 200 xs er).1 (numR 200 xs er).2.1 (numR 200 xs er).2.2 []
def endE (l x s : Int) (ts : List TabR) (zs : List Int) (xs : List UInt8) (er : Nat) : Nat := if er ≠ 0 then er else if 0 < xs.length ∨ mayEd l x s ts zs = false then 3 else 0
/-- Bytes as an edit: its numbers, its lines, what it removes, the error. -/
def decE (xs : List UInt8) : Nat × Nat × Nat × List TabR × List Int × Nat :=
  let h := headR xs
  let t := partT h.2.2.2.1 h.2.2.2.2
  let z := partZ t.2.1 t.2.2
  (h.1, h.2.1, h.2.2.1, t.1, z.1, endE h.1 h.2.1 h.2.2.1 t.1 z.1 z.2.1 z.2.2)
def tabB (t : TabR) : List UInt8 := uvar (tNum t).toNat ++ (uvar (tLev t).toNat ++ (uvar (tSize t).toNat ++ ((uvar (tLeast t).length ++ tLeast t) ++ (uvar (tMost t).length ++ tMost t))))
theorem tabS_app (t : TabR) (L : List UInt8) : tabS t L = L ++ tabB t := by simp [tabS, tabB, acc3, pick3, elt]
theorem tab1_put {t : TabR} (h : mayT t = true) (r : List UInt8) : tab1 (tabB t ++ r) 0 = (t, r, 0) := by
  obtain ⟨t1, t2, t3, t4, t5, t6, _, t7, _, t8, _⟩ := mayT_true h
  have e : tabB t ++ r = uvar (tNum t).toNat ++ (uvar (tLev t).toNat ++ (uvar (tSize t).toNat ++ (uvar (tLeast t).length ++ (tLeast t ++ (uvar (tMost t).length ++ (tMost t ++ r)))))) := by simp [tabB]
  rw [e]
  unfold tab1
  rw [numR_uvar (g := (tNum t).toNat) (by omega) (by omega)]
  simp only
  rw [numR_uvar (g := (tLev t).toNat) (by omega) (by omega)]
  simp only
  rw [numR_uvar (g := (tSize t).toNat) (by omega) (by omega)]
  simp only
  rw [bytesR_put (tLeast t) _ 512 (by omega) (by omega)]
  simp only
  rw [bytesR_put (tMost t) _ 512 (by omega) (by omega)]
  obtain ⟨a, b, c, k, m⟩ := t
  simp only [mkTab, tNum, tLev, tSize, tLeast, tMost] at *
  rw [Int.toNat_of_nonneg (by omega), Int.toNat_of_nonneg (by omega), Int.toNat_of_nonneg (by omega)]
theorem tab1_cut {t : TabR} (h : mayT t = true) {i : Nat} (hi : i < (tabB t).length) : (tab1 ((tabB t).take i) 0).2.2 ≠ 0 := by
  obtain ⟨t1, t2, t3, t4, t5, t6, _, t7, _, t8, _⟩ := mayT_true h
  unfold tabB at hi ⊢
  unfold tab1
  simp only
  rcases take_app hi with ⟨h1, e⟩ | ⟨j, hj, e⟩
  · rw [e]
    have hc := numR_cut (most := 1099511627776) (show (tNum t).toNat < 18446744073709551616 by omega) h1
    rw [numR_err hc, numR_err hc, bytesR_err hc, bytesR_err hc]
    exact hc
  · rw [e, numR_uvar (g := (tNum t).toNat) (by omega) (by omega)]
    simp only
    rcases take_app hj with ⟨h1, e⟩ | ⟨j, hj, e⟩
    · rw [e]
      have hc := numR_cut (most := 3) (show (tLev t).toNat < 18446744073709551616 by omega) h1
      rw [numR_err hc, bytesR_err hc, bytesR_err hc]
      exact hc
    · rw [e, numR_uvar (g := (tLev t).toNat) (by omega) (by omega)]
      simp only
      rcases take_app hj with ⟨h1, e⟩ | ⟨j, hj, e⟩
      · rw [e]
        have hc := numR_cut (most := 4194304) (show (tSize t).toNat < 18446744073709551616 by omega) h1
        rw [bytesR_err hc, bytesR_err hc]
        exact hc
      · rw [e, numR_uvar (g := (tSize t).toNat) (by omega) (by omega)]
        simp only
        rcases take_app hj with ⟨h1, e⟩ | ⟨j, hj, e⟩
        · rw [e]
          have hc := bytesR_cut (most := 512) (by omega) h1
          rw [bytesR_err hc]
          exact hc
        · rw [e, List.append_assoc, bytesR_put (tLeast t) _ 512 (by omega) (by omega)]
          exact bytesR_cut (by omega) hj
def flatT : List TabR → List UInt8
  | [] => []
  | t :: l => tabB t ++ flatT l
theorem flatT_app : ∀ a b, flatT (a ++ b) = flatT a ++ flatT b := by
  intro a b
  induction a with
  | nil => rfl
  | cons o l ih => rw [List.cons_append, flatT, ih, flatT, List.append_assoc]
def flatZ : List Int → List UInt8
  | [] => []
  | z :: l => uvar z.toNat ++ flatZ l
theorem flatZ_app : ∀ a b, flatZ (a ++ b) = flatZ a ++ flatZ b := by
  intro a b
  induction a with
  | nil => rfl
  | cons o l ih => rw [List.cons_append, flatZ, ih, flatZ, List.append_assoc]
theorem loopT_err {er : Nat} (h : er ≠ 0) : ∀ f xs acc, loopT f xs er acc = (acc, xs, er) := by
  intro f xs acc
  cases f with
  | zero => rfl
  | succ f => rw [loopT, if_pos h]
theorem loopZ_err {er : Nat} (h : er ≠ 0) : ∀ f xs acc, loopZ f xs er acc = (acc, xs, er) := by
  intro f xs acc
  cases f with
  | zero => rfl
  | succ f => rw [loopZ, if_pos h]
theorem loopT_put : ∀ (l : List TabR), (∀ o ∈ l, mayT o = true) → ∀ r acc, loopT l.length (flatT l ++ r) 0 acc = (acc ++ l, r, 0) := by
  intro l
  induction l with
  | nil => intro _ r acc; simp [loopT, flatT]
  | cons o l ih =>
    intro h r acc
    rw [List.length_cons, loopT, if_neg (by omega), flatT, List.append_assoc, tab1_put (h o (by simp))]
    rw [ih (fun x hx => h x (by simp [hx]))]
    simp
theorem loopT_cut : ∀ (l : List TabR), (∀ o ∈ l, mayT o = true) → ∀ acc i, i < (flatT l).length → (loopT l.length ((flatT l).take i) 0 acc).2.2 ≠ 0 := by
  intro l
  induction l with
  | nil => intro _ acc i hi; simp [flatT] at hi
  | cons o l ih =>
    intro h acc i hi
    rw [List.length_cons, loopT, if_neg (by omega)]
    rw [flatT] at hi ⊢
    rcases take_app hi with ⟨h1, e⟩ | ⟨j, hj, e⟩
    · rw [e]
      have hc := tab1_cut (h o (by simp)) h1
      rw [loopT_err hc]
      exact hc
    · rw [e, tab1_put (h o (by simp))]
      exact ih (fun x hx => h x (by simp [hx])) _ _ hj
def okZ (z : Int) : Prop := 1 ≤ z ∧ z ≤ 1099511627776
theorem loopZ_put : ∀ (l : List Int), (∀ z ∈ l, okZ z) → ∀ r acc, loopZ l.length (flatZ l ++ r) 0 acc = (acc ++ l, r, 0) := by
  intro l
  induction l with
  | nil => intro _ r acc; simp [loopZ, flatZ]
  | cons z l ih =>
    intro h r acc
    obtain ⟨z1, z2⟩ := h z (by simp)
    rw [List.length_cons, loopZ, if_neg (by omega), flatZ, List.append_assoc, numR_uvar (g := z.toNat) (by omega) (by omega)]
    rw [ih (fun x hx => h x (by simp [hx]))]
    simp
    omega
theorem loopZ_cut : ∀ (l : List Int), (∀ z ∈ l, okZ z) → ∀ acc i, i < (flatZ l).length → (loopZ l.length ((flatZ l).take i) 0 acc).2.2 ≠ 0 := by
  intro l
  induction l with
  | nil => intro _ acc i hi; simp [flatZ] at hi
  | cons z l ih =>
    intro h acc i hi
    obtain ⟨z1, z2⟩ := h z (by simp)
    rw [List.length_cons, loopZ, if_neg (by omega)]
    rw [flatZ] at hi ⊢
    rcases take_app hi with ⟨h1, e⟩ | ⟨j, hj, e⟩
    · rw [e]
      have hc := numR_cut (most := 1099511627776) (show z.toNat < 18446744073709551616 by omega) h1
      rw [loopZ_err hc]
      exact hc
    · rw [e, numR_uvar (g := z.toNat) (by omega) (by omega)]
      exact ih (fun x hx => h x (by simp [hx])) _ _ hj
theorem accA_flat (l x s : Int) (ts : List TabR) : ∀ k, k ≤ ts.length → accA l x s ts k = accH l x s ts.length 4 ++ flatT (ts.take k) := by
  intro k
  induction k with
  | zero => intro _; simp [accA, flatT]
  | succ k ih =>
    intro hk
    rw [accA, tabS_app, ih (by omega), take_succ_elt noTab (by omega), flatT_app]
    simp [flatT]
theorem accR_flat (L : List UInt8) (zs : List Int) : ∀ k, k ≤ zs.length → accR L zs k = L ++ (uvar zs.length ++ flatZ (zs.take k)) := by
  intro k
  induction k with
  | zero => intro _; simp [accR, flatZ]
  | succ k ih =>
    intro hk
    rw [accR, ih (by omega), take_succ_elt 0 (by omega), flatZ_app]
    simp [flatZ]
theorem accH_flat (l x s : Int) (n : Nat) : accH l x s n 4 = uvar l.toNat ++ (uvar x.toNat ++ (uvar s.toNat ++ uvar n)) := by simp [accH, pick4, elt]
theorem enc_flat {l x s : Int} {ts : List TabR} {zs : List Int} (h : mayEd l x s ts zs = true) : encE l x s ts zs = uvar l.toNat ++ (uvar x.toNat ++ (uvar s.toNat ++ (uvar ts.length ++ (flatT ts ++ (uvar zs.length ++ flatZ zs))))) := by
  unfold encE
  rw [if_pos h, accR_flat _ zs _ (Nat.le_refl _), accA_flat l x s ts _ (Nat.le_refl _), accH_flat, List.take_length, List.take_length]
  simp only [List.append_assoc]
theorem allT {l x s : Int} {ts : List TabR} {zs : List Int} (h : mayEd l x s ts zs = true) : ∀ o ∈ ts, mayT o = true := by
  intro o ho
  obtain ⟨j, hj, e⟩ := List.mem_iff_getElem.1 ho
  have := addOK_at _ (mayEd_true h).2.2.2.2.2.1 j hj
  rw [elt_get noTab hj, e] at this
  exact this
theorem allZ {l x s : Int} {ts : List TabR} {zs : List Int} (h : mayEd l x s ts zs = true) : ∀ z ∈ zs, okZ z := by
  intro z hz
  obtain ⟨j, hj, e⟩ := List.mem_iff_getElem.1 hz
  have := remOK_at _ (mayEd_true h).2.2.2.2.2.2 j hj
  rw [elt_get 0 hj, e] at this
  exact this
theorem dec_more {l x s : Int} {ts : List TabR} {zs : List Int} (h : mayEd l x s ts zs = true) (r : List UInt8) : decE (encE l x s ts zs ++ r) = (l.toNat, x.toNat, s.toNat, ts, zs, if r.length = 0 then 0 else 3) := by
  obtain ⟨⟨d1, d2⟩, ⟨d3, d4⟩, ⟨d5, d6⟩, d7, d8, _, _⟩ := mayEd_true h
  rw [enc_flat h]
  simp only [List.append_assoc]
  have e1 : headR (uvar l.toNat ++ (uvar x.toNat ++ (uvar s.toNat ++ (uvar ts.length ++ (flatT ts ++ (uvar zs.length ++ (flatZ zs ++ r))))))) = (l.toNat, x.toNat, s.toNat, uvar ts.length ++ (flatT ts ++ (uvar zs.length ++ (flatZ zs ++ r))), 0) := by
    unfold headR
    rw [numR_uvar (g := l.toNat) (by omega) (by omega)]
    simp only
    rw [numR_uvar (g := x.toNat) (by omega) (by omega)]
    simp only
    rw [numR_uvar (g := s.toNat) (by omega) (by omega)]
  have e2 : partT (uvar ts.length ++ (flatT ts ++ (uvar zs.length ++ (flatZ zs ++ r)))) 0 = (ts, uvar zs.length ++ (flatZ zs ++ r), 0) := by
    unfold partT
    rw [numR_uvar (g := ts.length) (by omega) (by omega)]
    exact loopT_put ts (allT h) _ []
  have e3 : partZ (uvar zs.length ++ (flatZ zs ++ r)) 0 = (zs, r, 0) := by
    unfold partZ
    rw [numR_uvar (g := zs.length) (by omega) (by omega)]
    exact loopZ_put zs (allZ h) _ []
  unfold decE
  simp only [e1, e2, e3]
  have hl : ((l.toNat : Nat) : Int) = l := by omega
  have hx : ((x.toNat : Nat) : Int) = x := by omega
  have hs : ((s.toNat : Nat) : Int) = s := by omega
  rw [hl, hx, hs]
  unfold endE
  by_cases hr : r.length = 0
  · simp [hr, h]
  · have : 0 < r.length := by omega
    simp [hr, this]
theorem endE_err {l x s : Int} {ts : List TabR} {zs : List Int} {xs : List UInt8} {er : Nat} (h : er ≠ 0) : endE l x s ts zs xs er ≠ 0 := by unfold endE; rw [if_pos h]; exact h
theorem partT_err {xs : List UInt8} {er : Nat} (h : er ≠ 0) : partT xs er = ([], xs, er) := by unfold partT; rw [numR_err h]; rfl
theorem partZ_err {xs : List UInt8} {er : Nat} (h : er ≠ 0) : partZ xs er = ([], xs, er) := by unfold partZ; rw [numR_err h]; rfl
theorem dec_cut {l x s : Int} {ts : List TabR} {zs : List Int} (h : mayEd l x s ts zs = true) {i : Nat} (hi : i < (encE l x s ts zs).length) : (decE ((encE l x s ts zs).take i)).2.2.2.2.2 ≠ 0 := by
  obtain ⟨⟨d1, d2⟩, ⟨d3, d4⟩, ⟨d5, d6⟩, d7, d8, _, _⟩ := mayEd_true h
  rw [enc_flat h] at hi ⊢
  unfold decE
  simp only
  have bad : ∀ xs, (headR xs).2.2.2.2 ≠ 0 → endE (headR xs).1 (headR xs).2.1 (headR xs).2.2.1 (partT (headR xs).2.2.2.1 (headR xs).2.2.2.2).1 (partZ (partT (headR xs).2.2.2.1 (headR xs).2.2.2.2).2.1 (partT (headR xs).2.2.2.1 (headR xs).2.2.2.2).2.2).1 (partZ (partT (headR xs).2.2.2.1 (headR xs).2.2.2.2).2.1 (partT (headR xs).2.2.2.1 (headR xs).2.2.2.2).2.2).2.1 (partZ (partT (headR xs).2.2.2.1 (headR xs).2.2.2.2).2.1 (partT (headR xs).2.2.2.1 (headR xs).2.2.2.2).2.2).2.2 ≠ 0 := by
    intro xs hx
    rw [partT_err hx, partZ_err hx]
    exact endE_err hx
  rcases take_app hi with ⟨h1, e⟩ | ⟨i1, hi, e⟩
  · rw [e]
    refine bad _ ?_
    have hc := numR_cut (most := 4611686018427387904) (show l.toNat < 18446744073709551616 by omega) h1
    unfold headR
    simp only
    rw [numR_err hc, numR_err hc]
    exact hc
  rw [e]
  rcases take_app hi with ⟨h1, e⟩ | ⟨i2, hi, e⟩
  · rw [e]
    refine bad _ ?_
    have hc := numR_cut (most := 4611686018427387904) (show x.toNat < 18446744073709551616 by omega) h1
    unfold headR
    rw [numR_uvar (g := l.toNat) (by omega) (by omega)]
    simp only
    rw [numR_err hc]
    exact hc
  rw [e]
  rcases take_app hi with ⟨h1, e⟩ | ⟨i3, hi, e⟩
  · rw [e]
    refine bad _ ?_
    have hc := numR_cut (most := 4611686018427387904) (show s.toNat < 18446744073709551616 by omega) h1
    unfold headR
    rw [numR_uvar (g := l.toNat) (by omega) (by omega)]
    simp only
    rw [numR_uvar (g := x.toNat) (by omega) (by omega)]
    exact hc
  rw [e]
  have e1 : ∀ q, headR (uvar l.toNat ++ (uvar x.toNat ++ (uvar s.toNat ++ q))) = (l.toNat, x.toNat, s.toNat, q, 0) := by
    intro q
    unfold headR
    rw [numR_uvar (g := l.toNat) (by omega) (by omega)]
    simp only
    rw [numR_uvar (g := x.toNat) (by omega) (by omega)]
    simp only
    rw [numR_uvar (g := s.toNat) (by omega) (by omega)]
  rw [e1]
  simp only
  have badT : ∀ q, (partT q 0).2.2 ≠ 0 → endE l.toNat x.toNat s.toNat (partT q 0).1 (partZ (partT q 0).2.1 (partT q 0).2.2).1 (partZ (partT q 0).2.1 (partT q 0).2.2).2.1 (partZ (partT q 0).2.1 (partT q 0).2.2).2.2 ≠ 0 := by
    intro q hq
    rw [partZ_err hq]
    exact endE_err hq
  rcases take_app hi with ⟨h1, e⟩ | ⟨i4, hi, e⟩
  · rw [e]
    refine badT _ ?_
    have hc := numR_cut (most := 200) (show ts.length < 18446744073709551616 by omega) h1
    unfold partT
    rw [loopT_err hc]
    exact hc
  rw [e]
  rcases take_app hi with ⟨h1, e⟩ | ⟨i5, hi, e⟩
  · rw [e]
    refine badT _ ?_
    unfold partT
    rw [numR_uvar (g := ts.length) (by omega) (by omega)]
    exact loopT_cut ts (allT h) [] _ h1
  rw [e]
  have e2 : ∀ q, partT (uvar ts.length ++ (flatT ts ++ q)) 0 = (ts, q, 0) := by
    intro q
    unfold partT
    rw [numR_uvar (g := ts.length) (by omega) (by omega)]
    exact loopT_put ts (allT h) _ []
  rw [e2]
  simp only
  refine endE_err ?_
  rcases take_app hi with ⟨h1, e⟩ | ⟨i6, hi, e⟩
  · rw [e]
    have hc := numR_cut (most := 200) (show zs.length < 18446744073709551616 by omega) h1
    unfold partZ
    rw [loopZ_err hc]
    exact hc
  rw [e]
  unfold partZ
  rw [numR_uvar (g := zs.length) (by omega) (by omega)]
  exact loopZ_cut zs (allZ h) [] _ hi
end Go.Proofs.Ythiolcccgiibhaa
