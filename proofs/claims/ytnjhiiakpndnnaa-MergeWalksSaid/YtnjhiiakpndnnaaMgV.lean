/- Layer 16's laws: Merge and sorted where all is well. -/
import Derived.Test.YtnjhiiakpndnnaaMgY
import Derived.Test.YtnjhiiakpndnnaaMgW
namespace Go.Proofs.Ytnjhiiakpndnnaa
open Go.RowKit
set_option linter.unusedVariables false
set_option linter.unusedSimpArgs false

theorem merge_fine (A : Option Addr) (n c : Nat) (ess : List (List EntR)) (w : World) (h : REnss w A n ess) (hs : AllS n ess) (h6 : n ≤ 64) (hf : totR ess ≤ 40000) (hsm : SmallR ess) :
    Calls Try.prog 12 #[.slice A n c] w fun r w' => FineC w w' ess r :=
  (merge_want A n c ess w h hf hsm).mono fun r w' hw => hw.fine hs h6
/-- What sorted leaves, said for merges. -/
def SrtdC (w w' : World) (n : Nat) (r : Ending) : Prop := ∃ A c R, r = .returned (.slice A n c) ∧ n ≤ c ∧ REnss w' A n R ∧ AllS n R ∧ SmallR R ∧ totR R ≤ 40000 ∧ Below w.heap.size w w'
theorem sorted_fine (A : Option Addr) (n c : Nat) (ess : List (List EntR)) (w : World) (h : REnss w A n ess) (hk : LtK ess n) : Calls Try.prog 11 #[.slice A n c] w fun r w' => SrtdC w w' n r := by
  refine (sorted_any A n c ess w h hk).mono ?_
  rintro r w2 ⟨A2, c2, R2, rfl, hc2, hr2, hs2, ht2, hb2⟩
  have hl := h.1
  have hl2 := hr2.1
  refine ⟨A2, c2, R2, rfl, hc2, hr2, fun r hr => ?_, fun r hr e he => ?_, ?_, hb2⟩
  · rw [er, elt_get [] (by omega)]
    exact (hs2 _ (List.getElem_mem _)).1
  · rw [er, elt_get [] hr] at he
    exact (hs2 _ (List.getElem_mem _)).2 e he
  · have h := hk.2.1
    rw [List.take_of_length_le (by omega)] at h
    omega
end Go.Proofs.Ytnjhiiakpndnnaa
