/- Layer 11: the document's Block, in plain terms: its tail. -/
import Derived.Test.YteediedhofapkaaBkH
namespace Go.Proofs.Yteediedhofapkaa
open Go.RowKit
set_option linter.unusedVariables false
set_option linter.unusedSimpArgs false

/-- The tail's bytes: where the entries stand whose keys stand whole. -/
def tlK (es : List EntR) : Nat → List UInt8
  | 0 => []
  | k + 1 => if k % 8 = 0 then tlK es k ++ fixB (accK es k).length 4 else tlK es k
theorem fixK_app (L : List UInt8) (st : List Int) : ∀ j, fixK L st j = L ++ fixK [] st j := by
  intro j
  induction j with
  | zero => simp [fixK]
  | succ j ih => rw [fixK, fixK, ih, List.append_assoc]
theorem fixK_congr {st st' : List Int} : ∀ j, (∀ i, i < j → elt 0 st i = elt 0 st' i) → fixK [] st j = fixK [] st' j := by
  intro j
  induction j with
  | zero => intro _; rfl
  | succ j ih =>
    intro h
    rw [fixK, fixK, ih (fun i hi => h i (by omega)), h j (by omega)]
theorem elt_app1 (st : List Int) (a : Int) : (∀ i, i < st.length → elt 0 (st ++ [a]) i = elt 0 st i) ∧ elt 0 (st ++ [a]) st.length = a := by
  constructor
  · intro i hi
    unfold elt
    rw [List.getD_eq_getElem?_getD, List.getD_eq_getElem?_getD, List.getElem?_append_left hi]
  · simp [elt]
theorem tl_fix (es : List EntR) : ∀ k, fixK [] (stK es k) (stK es k).length = tlK es k := by
  intro k
  induction k with
  | zero => simp [stK, tlK, fixK]
  | succ k ih =>
    rw [stK, tlK]
    split
    · obtain ⟨h1, h2⟩ := elt_app1 (stK es k) ((accK es k).length : Int)
      rw [List.length_append, List.length_singleton, fixK, h2, Int.toNat_natCast, fixK_congr _ (fun i hi => h1 i hi), ih]
    · exact ih
theorem tl_len (es : List EntR) (k : Nat) : (tlK es k).length = 4 * (stK es k).length := by
  rw [← tl_fix, fixK_len]
  simp
theorem enc_tl (es : List EntR) : encK es = (accK es es.length ++ tlK es es.length) ++ fixB ((tlK es es.length).length / 4) 4 := by
  unfold encK
  rw [fixK_app, tl_fix, tl_len, Nat.mul_div_cancel_left _ (by omega)]
/-- The document's bytes of an entry up to its number. -/
theorem head_ref (n : Nat) (e : EntR) (L : List UInt8) : bkHead n e L = ((L ++ uvar n) ++ uvar ((eKey e).drop n).length ++ (eKey e).drop n) ++ uvar (eSeq e).toNat := by
  unfold bkHead
  rw [List.length_drop]
end Go.Proofs.Yteediedhofapkaa
