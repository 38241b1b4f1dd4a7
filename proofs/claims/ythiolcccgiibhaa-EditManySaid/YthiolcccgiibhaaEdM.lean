/- Layer 14: lines of tables and edits, in plain terms; whether they may be. -/
import Derived.Test.YthiolcccgiibhaaCmp
import Derived.Test.YthiolcccgiibhaaVintT
import Derived.Test.YthiolcccgiibhaaO
import Derived.Test.YthiolcccgiibhaaBlk
namespace Go.Proofs.Ythiolcccgiibhaa
open Go.RowKit
set_option linter.unusedVariables false
set_option linter.unusedSimpArgs false

/-- A line of a table: its number, its level, its size, its least and its greatest key. -/
def TabR : Type := Int × Int × Int × List UInt8 × List UInt8
def tNum (t : TabR) : Int := t.1
def tLev (t : TabR) : Int := t.2.1
def tSize (t : TabR) : Int := t.2.2.1
def tLeast (t : TabR) : List UInt8 := t.2.2.2.1
def tMost (t : TabR) : List UInt8 := t.2.2.2.2
def mkTab (n l s : Int) (a b : List UInt8) : TabR := (n, l, s, a, b)
def noTab : TabR := mkTab 0 0 0 [] []
def mayTE (num lev size : Int) (nl nm : Nat) (c : Int) : Bool :=
  decide (1 ≤ num ∧ num ≤ 1099511627776 ∧ 0 ≤ lev ∧ lev < 4 ∧ 1 ≤ size ∧ size ≤ 4194304 ∧ 1 ≤ nl ∧ nl ≤ 512 ∧ 1 ≤ nm ∧ nm ≤ 512 ∧ c ≤ 0)
theorem ret_bool {a b : Bool} (h : a = b) : Ending.returned (.bool a) = .returned (.bool b) := by rw [h]
set_option maxHeartbeats 16000000 in
set_option maxRecDepth 100000 in
theorem maytable_any (num lev size : Int) (Al : Option Addr) (nl cl : Nat) (least : List UInt8) (Am : Option Addr) (nm cm : Nat) (most : List UInt8) (w : World) (hl : RB w Al nl least) (hm : RB w Am nm most) :
    Calls Try.prog 7 #[.agg #[.int .i64 num, .int .i64 lev, .int .i64 size, .slice Al nl cl, .slice Am nm cm]] w fun e w' => e = .returned (.bool (mayTE num lev size nl nm (cmpB least most))) ∧ Below w.heap.size w w' := by
  have hl2 := hl.2.1
  have hm2 := hm.2.1
  obtain ⟨C, hC⟩ : ∃ C, cmpB least most = C := ⟨_, rfl⟩
  have H1 := hid (hl.alloc (.cells #[.int .i64 num, .int .i64 lev, .int .i64 size, .slice Al nl cl, .slice Am nm cm] 24))
  have H2 := hid (hm.alloc (.cells #[.int .i64 num, .int .i64 lev, .int .i64 size, .slice Al nl cl, .slice Am nm cm] 24))
  have HC := hid hC
  clear hl hm hC
  go_enter Try.func7, Try.ntmps7
  go_wp2_with (go_at_call 17; (with_reducible refine (compare_any Al nl cl least Am nm cm most _ H1.out H2.out).mono ?_); rintro e w1 ⟨rfl, rfl⟩; rw [HC.out])
  all_goals
    go_ret
    rw [HC.out]
    refine ⟨ret_bool ?_, below_alloc' (Below.refl _ _) _⟩
    try simp only [beq_iff_eq, beq_eq_false_iff_ne] at *
    unfold mayTE
    first
    | rfl
    | (rw [eq_comm, decide_eq_false_iff_not]; omega)
    | (rw [eq_comm, decide_eq_true_iff]; omega)
    | (rw [decide_eq_decide]; omega)
set_option maxHeartbeats 16000000 in
set_option maxRecDepth 100000 in
theorem refmaytable_any (num lev size : Int) (Al : Option Addr) (nl cl : Nat) (least : List UInt8) (Am : Option Addr) (nm cm : Nat) (most : List UInt8) (w : World) (hl : RB w Al nl least) (hm : RB w Am nm most) :
    Calls Try.prog 8 #[.agg #[.int .i64 num, .int .i64 lev, .int .i64 size, .slice Al nl cl, .slice Am nm cm]] w fun e w' => e = .returned (.bool (mayTE num lev size nl nm (cmpB least most))) ∧ Below w.heap.size w w' := by
  have hl2 := hl.2.1
  have hm2 := hm.2.1
  obtain ⟨C, hC⟩ : ∃ C, cmpB least most = C := ⟨_, rfl⟩
  have H1 := hid (hl.alloc (.cells #[.int .i64 num, .int .i64 lev, .int .i64 size, .slice Al nl cl, .slice Am nm cm] 24))
  have H2 := hid (hm.alloc (.cells #[.int .i64 num, .int .i64 lev, .int .i64 size, .slice Al nl cl, .slice Am nm cm] 24))
  have HC := hid hC
  clear hl hm hC
  go_enter Try.func8, Try.ntmps8
  go_wp2_with (go_at_call 18; (with_reducible refine (refcompare_any Al nl cl least Am nm cm most _ H1.out H2.out).mono ?_); rintro e w1 ⟨rfl, hb1⟩; rw [HC.out]; have hb1 := below_then (below_alloc' (Below.refl _ _) _) hb1)
  all_goals
    go_ret
    rw [HC.out]
    refine ⟨ret_bool ?_, by first | exact hb1 | exact below_alloc' (Below.refl _ _) _⟩
    try simp only [beq_iff_eq, beq_eq_false_iff_ne] at *
    unfold mayTE
    first
    | rfl
    | (rw [eq_comm, decide_eq_false_iff_not]; omega)
    | (rw [eq_comm, decide_eq_true_iff]; omega)
    | (rw [decide_eq_decide]; omega)
end Go.Proofs.Ythiolcccgiibhaa
