/- Layer 9: entries in plain terms; whether they may be; which is ahead; heights. -/
import Derived.Test.YteediedhofapkaaCmp
import Derived.Test.YteediedhofapkaaBlk
import Derived.Test.YteediedhofapkaaO
namespace Go.Proofs.Yteediedhofapkaa
open Go.RowKit
set_option linter.unusedVariables false
set_option linter.unusedSimpArgs false

/-- An entry: its key, its number, whether it takes away, till when, its value. -/
def EntR : Type := List UInt8 × Int × Bool × Int × List UInt8
def eKey (e : EntR) : List UInt8 := e.1
def eSeq (e : EntR) : Int := e.2.1
def eGone (e : EntR) : Bool := e.2.2.1
def eTil (e : EntR) : Int := e.2.2.2.1
def eVal (e : EntR) : List UInt8 := e.2.2.2.2
def mkEnt (k : List UInt8) (s : Int) (g : Bool) (t : Int) (v : List UInt8) : EntR := (k, s, g, t, v)
def noEnt : EntR := mkEnt [] 0 false 0 []
def mayN (nk : Nat) (s : Int) (g : Bool) (u : Int) (nv : Nat) : Bool :=
  decide (1 ≤ nk ∧ nk ≤ 512 ∧ nv ≤ 2048 ∧ 1 ≤ s ∧ s ≤ 4611686018427387904 ∧ 0 ≤ u ∧ u ≤ 4611686018427387904 ∧ (g = false ∨ (u = 0 ∧ nv = 0)))
def mayE (e : EntR) : Bool := mayN (eKey e).length (eSeq e) (eGone e) (eTil e) (eVal e).length
theorem ret_bool {a b : Bool} (h : a = b) : Ending.returned (.bool a) = .returned (.bool b) := by rw [h]
set_option maxHeartbeats 16000000 in
set_option maxRecDepth 100000 in
theorem refmay_any (Ak : Option Addr) (nk ck : Nat) (s : Int) (g : Bool) (u : Int) (Av : Option Addr) (nv cv : Nat) (w : World) (hk : nk ≤ 9223372036854775807) (hv : nv ≤ 9223372036854775807) :
    Calls Try.prog 21 #[.agg #[.slice Ak nk ck, .int .i64 s, .bool g, .int .i64 u, .slice Av nv cv]] w fun e w' => e = .returned (.bool (mayN nk s g u nv)) ∧ Below w.heap.size w w' := by
  cases g
  all_goals
    go_enter Try.func21, Try.ntmps21
    go_wp2
    all_goals
      go_ret
      refine ⟨ret_bool ?_, below_alloc' (Below.refl _ _) _⟩
      try simp only [beq_iff_eq, beq_eq_false_iff_ne] at *
      unfold mayN
      first
      | rfl
      | (rw [eq_comm, decide_eq_false_iff_not]; simp; omega)
      | (rw [eq_comm, decide_eq_true_iff]; simp; omega)
      | (rw [decide_eq_decide]; simp; omega)
      | (rw [Bool.eq_iff_iff]; simp; omega)
      | (trace_state; simp; omega)
/-- Is an entry ahead of a key and a number? -/
def aheadK (e : EntR) (key : List UInt8) (s : Int) : Bool := decide (cmpB (eKey e) key < 0 ∨ (cmpB (eKey e) key = 0 ∧ s < eSeq e))
set_option maxHeartbeats 8000000 in
theorem equal_any (A : Option Addr) (n c : Nat) (xs : List UInt8) (A' : Option Addr) (n' c' : Nat) (ys : List UInt8) (w : World) (h : RB w A n xs) (h' : RB w A' n' ys) :
    Calls Try.prog 28 #[.slice A n c, .slice A' n' c'] w fun e w' => e = .returned (.bool (decide (xs = ys))) ∧ w = w' := by
  have q1 := h.conv c
  have q2 := h'.conv c'
  have b1 : (bstr xs).toList = xs := ByteArray.toList_mk xs
  have b2 : (bstr ys).toList = ys := ByteArray.toList_mk ys
  have HB : Hid (((bstr xs).toList == (bstr ys).toList) = decide (xs = ys)) := by
    unfold Hid
    rw [b1, b2]
    exact Bool.eq_iff_iff.2 (by simp)
  clear h h' b1 b2
  go_enter Try.func28, Try.ntmps28
  go_wp2
  go_ret
  exact ⟨by rw [← HB.out]; rfl, rfl⟩
end Go.Proofs.Yteediedhofapkaa
