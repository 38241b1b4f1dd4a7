/- Layer 8: bytes as a batch, in plain terms; what was encoded is told again. -/
import Derived.Test.YtdhmonomhifkkaaBaD
import Derived.Test.YtdhmonomhifkkaaVintZ
namespace Go.Proofs.Ytdhmonomhifkkaa
open Go.RowKit
set_option linter.unusedVariables false
set_option linter.unusedSimpArgs false

def mkOp (k : List UInt8) (g : Bool) (t : Int) (v : List UInt8) : OpR := (k, g, t, v)
/-- One change out of the reader: it, the bytes that are left, the error. -/
def oneR (xs : List UInt8) (er : Nat) : OpR × List UInt8 × Nat :=
  let g := goneR xs er
  let k := bytesR 512 g.2.1 g.2.2
  if g.1 then (mkOp k.1 true 0 [], k.2.1, k.2.2)
  else
    let t := numR 4611686018427387904 k.2.1 k.2.2
    let v := bytesR 2048 t.2.1 t.2.2
    (mkOp k.1 false (t.1 : Int) v.1, v.2.1, v.2.2)
/-- At most f changes, up to the first error. -/
def loopR : Nat → List UInt8 → Nat → List OpR → List OpR × List UInt8 × Nat
  | 0, xs, er, acc => (acc, xs, er)
  | f + 1, xs, er, acc => if er ≠ 0 then (acc, xs, er) else loopR f (oneR xs er).2.1 (oneR xs er).2.2 (acc ++ [(oneR xs er).1])
theorem numR_uvar {g most : Nat} (hg : g < 18446744073709551616) (hm : g ≤ most) (r : List UInt8) : numR most (uvar g ++ r) 0 = (g, r, 0) := by
  unfold numR
  rw [takeU_uvar hg r]
  simp only [ne_eq, not_true_eq_false, if_false]
  rw [if_neg (by omega), List.drop_left]
theorem takeB_put (s r : List UInt8) (most : Int) (hs : s.length < 18446744073709551616) (hm : (s.length : Int) ≤ most) : takeB (uvar s.length ++ (s ++ r)) most = (s, (uvar s.length).length + s.length, 0) := by
  unfold takeB
  rw [takeU_uvar hs]
  simp only [ne_eq, not_true_eq_false, if_false]
  rw [if_neg (by omega), if_neg (by simp only [List.length_append]; omega), List.drop_left, List.take_left]
theorem bytesR_put (s r : List UInt8) (most : Int) (hs : s.length < 18446744073709551616) (hm : (s.length : Int) ≤ most) : bytesR most (uvar s.length ++ (s ++ r)) 0 = (s, r, 0) := by
  unfold bytesR
  rw [takeB_put s r most hs hm]
  simp only [ne_eq, not_true_eq_false, if_false]
  rw [← List.append_assoc, ← List.length_append, List.drop_left]
/-- A change's own bytes. -/
def opB (o : OpR) : List UInt8 := opS o []
theorem opS_app (o : OpR) (out : List UInt8) : opS o out = out ++ opB o := by
  unfold opB opS
  split <;> simp [List.append_assoc]
theorem oneR_put {o : OpR} (h : opE o = 0) (r : List UInt8) : oneR (opB o ++ r) 0 = (o, r, 0) := by
  obtain ⟨h1, h2, h3, h4, h5, h6⟩ := opE_zero h
  obtain ⟨key, g, til, val⟩ := o
  cases g with
  | true =>
    obtain ⟨e1, e2⟩ := h6 rfl
    have e3 : til = 0 := e1
    have e4 : val = [] := List.eq_nil_of_length_eq_zero e2
    clear e1 e2
    subst e3
    subst e4
    have e : opB (key, true, 0, []) ++ r = 1 :: (uvar key.length ++ (key ++ r)) := by simp [opB, opS, opGone, opKey]
    have g1 : goneR (1 :: (uvar key.length ++ (key ++ r))) 0 = (true, uvar key.length ++ (key ++ r), 0) := by simp [goneR, bAt]
    rw [e]
    unfold oneR
    simp only [g1]
    rw [bytesR_put key r 512 (by have : (opKey (key, true, 0, [])).length = key.length := rfl; omega) (by have : (opKey (key, true, 0, [])).length = key.length := rfl; omega)]
    rfl
  | false =>
    obtain ⟨t, ht⟩ : ∃ t : Nat, til = t := ⟨til.toNat, by have : opTil (key, false, til, val) = til := rfl; omega⟩
    subst ht
    have k1 : (opKey (key, false, (t : Int), val)).length = key.length := rfl
    have k2 : (opVal (key, false, (t : Int), val)).length = val.length := rfl
    have k3 : opTil (key, false, (t : Int), val) = (t : Int) := rfl
    rw [k3] at h4 h5
    have e : opB (key, false, (t : Int), val) ++ r = 0 :: (uvar key.length ++ (key ++ (uvar t ++ (uvar val.length ++ (val ++ r))))) := by simp [opB, opS, opGone, opKey, opTil, opVal, List.append_assoc]
    have g1 : goneR (0 :: (uvar key.length ++ (key ++ (uvar t ++ (uvar val.length ++ (val ++ r)))))) 0 = (false, uvar key.length ++ (key ++ (uvar t ++ (uvar val.length ++ (val ++ r)))), 0) := by simp [goneR, bAt]
    rw [e]
    unfold oneR
    simp only [g1]
    rw [bytesR_put key _ 512 (by omega) (by omega)]
    simp only [Bool.false_eq_true, if_false]
    rw [numR_uvar (by omega) (by omega)]
    simp only
    rw [bytesR_put val r 2048 (by omega) (by omega)]
    rfl
end Go.Proofs.Ytdhmonomhifkkaa
