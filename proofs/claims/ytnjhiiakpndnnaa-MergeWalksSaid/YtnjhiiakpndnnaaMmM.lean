/- Layer 9: entries in plain terms; whether they may be; which is ahead; heights. -/
import Derived.Test.YtnjhiiakpndnnaaCmp
import Derived.Test.YtnjhiiakpndnnaaBlk
import Derived.Test.YtnjhiiakpndnnaaO
namespace Go.Proofs.Ytnjhiiakpndnnaa
open Go.RowKit
set_option linter.unusedVariables false
set_option linter.unusedSimpArgs false

/-- An entry: its key, its number, whether it takes away, till when, its value. -/
def EntR : Type := List UInt8 × Int × Bool × Int × List UInt8
def eKey (e : EntR) : List UInt8 := e.1
def eSeq (e : EntR) : Int := e.2.1
def eGone (e : EntR) : Bool := e.2.2.1
def eTil (e : EntR) : Int := e.2.2.2.1
def eVal (e : EntR) : List UInt8 := e.2.2.2.2
def mkEnt (k : List UInt8) (s : Int) (g : Bool) (t : Int) (v : List UInt8) : EntR := (k, s, g, t, v)
def noEnt : EntR := mkEnt [] 0 false 0 []
def mayN (nk : Nat) (s : Int) (g : Bool) (u : Int) (nv : Nat) : Bool :=
  decide (1 ≤ nk ∧ nk ≤ 512 ∧ nv ≤ 2048 ∧ 1 ≤ s ∧ s ≤ 4611686018427387904 ∧ 0 ≤ u ∧ u ≤ 4611686018427387904 ∧ (g = false ∨ (u = 0 ∧ nv = 0)))
def mayE (e : EntR) : Bool := mayN (eKey e).length (eSeq e) (eGone e) (eTil e) (eVal e).length
theorem ret_bool {a b : Bool} (h : a = b) : Ending.returned (.bool a) = .returned (.bool b) := by rw [h]
/-- Is an entry ahead of a key and a number? -/
def aheadK (e : EntR) (key : List UInt8) (s : Int) : Bool := decide (cmpB (eKey e) key < 0 ∨ (cmpB (eKey e) key = 0 ∧ s < eSeq e))
end Go.Proofs.Ytnjhiiakpndnnaa
