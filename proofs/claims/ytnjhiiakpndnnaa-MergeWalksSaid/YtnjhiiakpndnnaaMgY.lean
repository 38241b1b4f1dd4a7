/- Layer 16's laws: MergeRows. -/
import Derived.Test.YtnjhiiakpndnnaaMgX
import Derived.Test.YtnjhiiakpndnnaaERs
namespace Go.Proofs.Ytnjhiiakpndnnaa
open Go.RowKit
set_option linter.unusedVariables false
set_option linter.unusedSimpArgs false

def BadO (n : Nat) (ess : List (List EntR)) : Prop := ∃ k, k < n ∧ ¬ Srt (er ess k)
def AllS (n : Nat) (ess : List (List EntR)) : Prop := ∀ k, k < n → Srt (er ess k)
def FineC (w w' : World) (ess : List (List EntR)) (r : Ending) : Prop := ∃ A c out, r = .returned (.tuple #[.slice A out.length c, .int .i64 0]) ∧ MRel ess out ∧ out.length ≤ c ∧ REnts w' A out.length out ∧ Below w.heap.size w w'
theorem WantC.bad {w w' : World} {n : Nat} {ess : List (List EntR)} {r : Ending} (h : WantC w w' n ess r) (hb : BadO n ess) : MErrC w w' 11 r := by
  obtain ⟨k, hk, hs⟩ := hb
  rcases h with h | h | h
  · exact h.2
  · exact absurd (h.1 k hk) hs
  · exact absurd (h.1 k hk) hs
theorem WantC.many {w w' : World} {n : Nat} {ess : List (List EntR)} {r : Ending} (h : WantC w w' n ess r) (hb : AllS n ess) (h6 : 64 < n) : MErrC w w' 13 r := by
  rcases h with h | h | h
  · obtain ⟨k, hk, hs⟩ := h.1; exact absurd (hb k hk) hs
  · exact h.2.2
  · exact absurd h.2.1 (by omega)
theorem WantC.fine {w w' : World} {n : Nat} {ess : List (List EntR)} {r : Ending} (h : WantC w w' n ess r) (hb : AllS n ess) (h6 : n ≤ 64) : FineC w w' ess r := by
  rcases h with h | h | h
  · obtain ⟨k, hk, hs⟩ := h.1; exact absurd (hb k hk) hs
  · exact absurd h.2.1 (by omega)
  · exact h.2.2
theorem cases3 (n : Nat) (ess : List (List EntR)) : BadO n ess ∨ (AllS n ess ∧ 64 < n) ∨ (AllS n ess ∧ n ≤ 64) := by
  by_cases hs : AllS n ess
  · rcases Nat.lt_or_ge 64 n with h | h
    · exact .inr (.inl ⟨hs, h⟩)
    · exact .inr (.inr ⟨hs, h⟩)
  · refine .inl (Classical.byContradiction fun hc => hs fun k hk => Classical.byContradiction fun hn => hc ⟨k, hk, hn⟩)
theorem LtK.smallR {ess : List (List EntR)} {n : Nat} (h : LtK ess n) (hl : ess.length = n) : SmallR ess := by
  intro r hr e he
  obtain ⟨k, hk, rfl⟩ := List.getElem_of_mem he
  have := (h.2.2 r (by omega)).2 k hk
  rw [elt_get noEnt hk] at this
  omega
set_option maxHeartbeats 32000000 in
set_option maxRecDepth 100000 in
theorem MergeRows_walk (A : Option Addr) (n c : Nat) (ess : List (List EntR)) (w : World) (h : REnss w A n ess) (hc : n ≤ c) :
    Calls Try.prog 3 #[.slice A n c] w fun e w' => e = .returned (.bool true) ∧ Below w.heap.size w w' := by
  have hl := h.1
  have H := hid h
  have HL := hid hl
  have hix0 : ∀ (a b : Value) (u : World), Sem.run Try.prog (Instr.index 26 (.agg #[a, b]) (.int .i64 0)) u = .ok a u := fun a b u => by kernel_rfl
  have hix1 : ∀ (a b : Value) (u : World), Sem.run Try.prog (Instr.index 26 (.agg #[a, b]) (.int .i64 1)) u = .ok b u := fun a b u => by kernel_rfl
  clear h hl
  go_enter Try.func3, Try.ntmps3
  go_wp2_with (first
    | (go_at_call 9; (with_reducible refine (light_any A n c ess _ H.out).mono ?_); rintro r w1 ⟨b, rfl, hlt, hb1⟩; have HLt := hid hlt; clear hlt; cases b)
    | (go_at_call 10; (with_reducible refine (awake_any _).mono ?_); rintro r w9 ⟨rfl, hb9⟩)
    | (go_at_call 11; (with_reducible refine (sorted_any A n c ess _ (H.out.below hb1) (HLt.out (by first | rfl | trivial))).mono ?_); rintro r w2 ⟨A2, c2, R2, rfl, hc2, hr2, hs2, ht2, hb2⟩; have HS2 := hid (⟨hr2, hs2, ht2⟩ : _ ∧ _ ∧ _); clear hr2 hs2 ht2; have hB2 := below_then hb1 hb2))
  · go_ret
    exact ⟨rfl, below_then hb1 hb9⟩
  · have hk := HLt.out (by first | rfl | trivial)
    have HT : Hid (totR ess ≤ 40000) := by have h := hk.2.1; rw [List.take_of_length_le (by rw [HL.out]; exact Nat.le_refl _)] at h; unfold Hid; omega
    have HSm := hid (hk.smallR HL.out)
    have HSm2 : Hid (SmallR R2) := fun r hr e he => (HS2.out.2.1 _ (by rw [er, elt_get [] hr]; exact List.getElem_mem _)).2 e he
    have HT2 : Hid (totR R2 ≤ 40000) := by have := HS2.out.2.2; have := HT.out; unfold Hid; omega
    clear hk
    go_loopw [17] (fun i wr => ∃ k : Nat, k ≤ 2 ∧ i = .int .i64 k ∧ Below w2.heap.size w2 wr) (fun i wr => 2 - (intOf i).toNat)
    case atStart => exact ⟨0, by omega, rfl, Below.refl _ _⟩
    case round =>
      obtain ⟨k, hk, rfl, hB⟩ := hrel
      have hBw := below_then hB2 hB
      rcases (by omega : k = 0 ∨ k = 1 ∨ k = 2) with rfl | rfl | rfl
      · have HR := hid (H.out.below hBw)
        rcases cases3 n ess with h | ⟨h, h6⟩ | ⟨h, h6⟩
        · have HH := hid h
          clear h
          go_wp2_with (first
            | (go_at_call 12; (with_reducible refine (merge_want A n c ess _ HR.out HT.out HSm.out).mono ?_); rintro r w3 hw; obtain ⟨rfl, hb3⟩ := hw.bad HH.out; clear hw)
            | (go_at_call 13; (with_reducible refine (want_any A n c ess _ (HR.out.below hb3) HT.out).mono ?_); rintro r w4 hw; obtain ⟨rfl, hb4⟩ := hw.bad HH.out; clear hw; have hB4 := below_then hb3 hb4)
            | (go_at_call 14; (with_reducible refine (sameentries_any none 0 none 0 0 [] _ (REnts.nil _) (REnts.nil _)).mono ?_); rintro r w5 ⟨rfl, hb5⟩))
          go_roundw
          case rel => exact ⟨1, by omega, by go_num, below_then hB (below_then hB4 hb5)⟩
          case measure => simp [intOf]
        · have HH := hid h
          clear h
          go_wp2_with (first
            | (go_at_call 12; (with_reducible refine (merge_want A n c ess _ HR.out HT.out HSm.out).mono ?_); rintro r w3 hw; obtain ⟨rfl, hb3⟩ := hw.many HH.out h6; clear hw)
            | (go_at_call 13; (with_reducible refine (want_any A n c ess _ (HR.out.below hb3) HT.out).mono ?_); rintro r w4 hw; obtain ⟨rfl, hb4⟩ := hw.many HH.out h6; clear hw; have hB4 := below_then hb3 hb4)
            | (go_at_call 14; (with_reducible refine (sameentries_any none 0 none 0 0 [] _ (REnts.nil _) (REnts.nil _)).mono ?_); rintro r w5 ⟨rfl, hb5⟩))
          go_roundw
          case rel => exact ⟨1, by omega, by go_num, below_then hB (below_then hB4 hb5)⟩
          case measure => simp [intOf]
        · have HH := hid h
          clear h
          go_wp2_with (first
            | (go_at_call 12; (with_reducible refine (merge_want A n c ess _ HR.out HT.out HSm.out).mono ?_); rintro r w3 hw; obtain ⟨A3, c3, o3, rfl, hm3, hc3, hr3, hb3⟩ := hw.fine HH.out h6; clear hw; have HM3 := hid hm3; have HR3 := hid hr3; clear hm3 hr3)
            | (go_at_call 13; (with_reducible refine (want_any A n c ess _ (HR.out.below hb3) HT.out).mono ?_); rintro r w4 hw; obtain ⟨A4, c4, o4, rfl, hm4, hc4, hr4, hb4⟩ := hw.fine HH.out h6; clear hw; have he4 := MRel.unique hm4 HM3.out; subst he4; have HR4 := hid hr4; clear hm4 hr4; have hB4 := below_then hb3 hb4)
            | (go_at_call 14; (with_reducible refine (sameentries_any A3 c3 A4 c4 _ _ _ (HR3.out.below hb4) HR4.out).mono ?_); rintro r w5 ⟨rfl, hb5⟩))
          go_roundw
          case rel => exact ⟨1, by omega, by go_num, below_then hB (below_then hB4 hb5)⟩
          case measure => simp [intOf]
      · have HR := hid (HS2.out.1.below hB)
        rcases cases3 n R2 with h | ⟨h, h6⟩ | ⟨h, h6⟩
        · have HH := hid h
          clear h
          go_wp2_with (first
            | (go_at_call 12; (with_reducible refine (merge_want A2 n c2 R2 _ HR.out HT2.out HSm2.out).mono ?_); rintro r w3 hw; obtain ⟨rfl, hb3⟩ := hw.bad HH.out; clear hw)
            | (go_at_call 13; (with_reducible refine (want_any A2 n c2 R2 _ (HR.out.below hb3) HT2.out).mono ?_); rintro r w4 hw; obtain ⟨rfl, hb4⟩ := hw.bad HH.out; clear hw; have hB4 := below_then hb3 hb4)
            | (go_at_call 14; (with_reducible refine (sameentries_any none 0 none 0 0 [] _ (REnts.nil _) (REnts.nil _)).mono ?_); rintro r w5 ⟨rfl, hb5⟩))
          go_roundw
          case rel => exact ⟨2, by omega, by go_num, below_then hB (below_then hB4 hb5)⟩
          case measure => simp [intOf]
        · have HH := hid h
          clear h
          go_wp2_with (first
            | (go_at_call 12; (with_reducible refine (merge_want A2 n c2 R2 _ HR.out HT2.out HSm2.out).mono ?_); rintro r w3 hw; obtain ⟨rfl, hb3⟩ := hw.many HH.out h6; clear hw)
            | (go_at_call 13; (with_reducible refine (want_any A2 n c2 R2 _ (HR.out.below hb3) HT2.out).mono ?_); rintro r w4 hw; obtain ⟨rfl, hb4⟩ := hw.many HH.out h6; clear hw; have hB4 := below_then hb3 hb4)
            | (go_at_call 14; (with_reducible refine (sameentries_any none 0 none 0 0 [] _ (REnts.nil _) (REnts.nil _)).mono ?_); rintro r w5 ⟨rfl, hb5⟩))
          go_roundw
          case rel => exact ⟨2, by omega, by go_num, below_then hB (below_then hB4 hb5)⟩
          case measure => simp [intOf]
        · have HH := hid h
          clear h
          go_wp2_with (first
            | (go_at_call 12; (with_reducible refine (merge_want A2 n c2 R2 _ HR.out HT2.out HSm2.out).mono ?_); rintro r w3 hw; obtain ⟨A3, c3, o3, rfl, hm3, hc3, hr3, hb3⟩ := hw.fine HH.out h6; clear hw; have HM3 := hid hm3; have HR3 := hid hr3; clear hm3 hr3)
            | (go_at_call 13; (with_reducible refine (want_any A2 n c2 R2 _ (HR.out.below hb3) HT2.out).mono ?_); rintro r w4 hw; obtain ⟨A4, c4, o4, rfl, hm4, hc4, hr4, hb4⟩ := hw.fine HH.out h6; clear hw; have he4 := MRel.unique hm4 HM3.out; subst he4; have HR4 := hid hr4; clear hm4 hr4; have hB4 := below_then hb3 hb4)
            | (go_at_call 14; (with_reducible refine (sameentries_any A3 c3 A4 c4 _ _ _ (HR3.out.below hb4) HR4.out).mono ?_); rintro r w5 ⟨rfl, hb5⟩))
          go_roundw
          case rel => exact ⟨2, by omega, by go_num, below_then hB (below_then hB4 hb5)⟩
          case measure => simp [intOf]
      · go_wp2_with (go_at_call 10; (with_reducible refine (awake_any _).mono ?_); rintro r w9 ⟨rfl, hb9⟩)
        go_ret
        exact ⟨rfl, below_then hBw hb9⟩
end Go.Proofs.Ytnjhiiakpndnnaa
