/- The table that math/bits reads, out of the row's condition. -/
import Derived.Test.YtlfjbklagljdlaaDoorRows
import Derived.Test.YtlfjbklagljdlaaDoorMmH
import Derived.Test.YtlfjbklagljdlaaDoorO
import Derived.LaidMore
import Derived.Stop.Joined
namespace Go.Proofs.YtlfjbklagljdlaaDoor
open Go.ChangeShapes Go.WideShapes Go.ChangeAt Go.RowKit
set_option linter.unusedVariables false
set_option linter.unusedSimpArgs false
abbrev laidTab : List (String × DataW Unit) := [("math/bits.deBruijn64tab", Rows.laid_math_bits_deBruijn64tab)]
theorem gTab : Tryd.prog.globalNamed "math/bits.deBruijn64tab" = some 0 := by kernel_rfl
theorem tTab : (Tryd.prog.globals[0]?).map (·.type) = some 72 := by kernel_rfl
/-- The door's own heap meets the condition. -/
theorem door_met (os : Os) (args : Array Value) : laidMetH Tryd.prog laidTab ((World.doorLaid Tryd.prog 400 os).forCall (fun _ _ => 0) ⟨#[], args, []⟩).memory :=
  laidMetH_of_parts3 (fuel := 8) (laidMet_of_run' 8 (by kernel_rfl) (by kernel_rfl)) (by kernel_rfl) (by kernel_rfl)
theorem tab_of_laid {W : World} (h : laidMetH Tryd.prog laidTab W) : TabOK W := by
  rw [MakeChecks.laidMetH_plain _ _ _ (by kernel_rfl)] at h
  obtain ⟨ps, ⟨g0, t0, cs0, f0, p0, q0, hg0, ht0, hv0, hd0, _, _⟩, _, _⟩ := h
  obtain rfl := Option.some.inj (gTab.symm.trans hg0)
  obtain rfl := Option.some.inj (tTab.symm.trans ht0)
  obtain ⟨xs, m1, rfl, hx1, hlen, hn3, hel⟩ := DataW.trod_array Tryd.underlying72 hd0
  have c1 : Tryd.prog.cellsOf 5 = 1 := by kernel_rfl
  have c64 : Tryd.prog.cellsOf 72 = 64 := by kernel_rfl
  rw [c64] at hlen
  intro i hi
  have h0 := hel i hi
  rw [c1, Nat.mul_one] at h0
  obtain ⟨x, hx⟩ : ∃ x, xs[i]? = some x := ⟨xs[i]'(by omega), List.getElem?_eq_getElem (by omega)⟩
  rw [hx] at h0
  obtain ⟨k, e1, e2, hwf⟩ := DataW.trod_int Tryd.underlying5 h0
  have hb := wf_u8 hwf
  have hc := World.var?_cell hg0 hv0 i
  have hcs : cs0[i]? = some (.int .u8 k) := by
    have h1 : ((cs0.toList.drop i).take 1)[0]? = some (.int .u8 k) := by rw [e1]; rfl
    rw [List.getElem?_take, if_pos (by omega), List.getElem?_drop, Nat.add_zero] at h1
    simpa using h1
  refine ⟨k.toNat, ?_, by omega⟩
  rw [show ((k.toNat : Nat) : Int) = k by omega]
  rw [hcs] at hc
  simpa using hc
end Go.Proofs.YtlfjbklagljdlaaDoor
