/- How the arguments of a statement are opened: bytes that came in. -/
import Derived.Test.YteediedhofapkaaW
import Derived.ProofKit
import Derived.OpenShut
import Derived.ShutString
import Derived.ChangeOld
import Derived.Below
import Derived.SizedLaws
import Derived.ChangeSlices
import Derived.Deep.Slices
namespace Go.Proofs.Yteediedhofapkaa
open Go.RowKit Go.ChangeShapes Go.WideShapes
set_option linter.unusedVariables false
set_option linter.unusedSimpArgs false

theorem UInt8.ofNat_back {z : Int} (h0 : 0 ≤ z) (h1 : z < 256) : ((UInt8.ofNat z.toNat).toNat : Int) = z := by
  rw [UInt8.toNat_ofNat']
  omega
theorem wf_u8 {z : Int} (h : (Lit.int .u8 z).wf = true) : 0 ≤ z ∧ z < 256 := by
  have := h
  simp [Lit.wf] at this
  have m : IntKind.u8.min = 0 := rfl
  have M : IntKind.u8.max = 255 := rfl
  omega
theorem wf_u32 {z : Int} (h : (Lit.int .u32 z).wf = true) : 0 ≤ z ∧ z < 4294967296 := by
  have := h
  simp [Lit.wf] at this
  have m : IntKind.u32.min = 0 := rfl
  have M : IntKind.u32.max = 4294967295 := rfl
  omega
theorem wf_u64 {z : Int} (h : (Lit.int .u64 z).wf = true) : 0 ≤ z ∧ z < 18446744073709551616 := by
  have := h
  simp [Lit.wf] at this
  have m : IntKind.u64.min = 0 := rfl
  have M : IntKind.u64.max = 18446744073709551615 := rfl
  omega
theorem wf_i64 {z : Int} (h : (Lit.int .i64 z).wf = true) : -9223372036854775808 ≤ z ∧ z ≤ 9223372036854775807 := by
  have := h
  simp [Lit.wf] at this
  have m : IntKind.i64.min = -9223372036854775808 := rfl
  have M : IntKind.i64.max = 9223372036854775807 := rfl
  omega
/-- A slice of bytes that came in reads as a list of bytes. -/
theorem RB_of_trod {H : Type} {enc : TypeId × Value → H} {P : Program} {W : World} {base : Nat} {spare : Nat → Bool} {held : Bool} {t e : TypeId} {a : Option Addr} {len cap : Nat} {d : DataW H} {ps : List MemPlace}
    (hu : P.underlying t = some (.slice e)) (he : P.underlying e = some (.int .u8)) (hc : P.cellsOf e = 1) (h : DataW.Trod enc P W base spare held t (.slice a len cap) d ps) : ∃ xs, RB W a len xs ∧ len ≤ cap := by
  obtain ⟨fuel, hf⟩ := h
  rcases open_ints hu he hc hf with ⟨hcs, _⟩ | ⟨x, l, c, zs, hcs, _, hl, hm, hz, _, hcell, hwz⟩
  · simp [Value.cells] at hcs
    obtain ⟨rfl, rfl, rfl⟩ := hcs
    exact ⟨[], RB.nil W, Nat.le_refl _⟩
  · simp [Value.cells] at hcs
    obtain ⟨rfl, rfl, rfl⟩ := hcs
    have hl2 : len ≤ zs.length := by
      rw [hz]
      split
      · exact hl
      · exact Nat.le_refl _
    refine ⟨(zs.take len).map fun z => UInt8.ofNat z.toNat, ⟨by simp; omega, by simp only [maxLen] at hm; omega, fun _ => ⟨_, rfl, fun j hj => ?_⟩⟩, hl⟩
    rw [hcell j (by omega)]
    have hj2 : j < zs.length := by omega
    have hw := wf_u8 (hwz (zs[j]) (List.getElem_mem _))
    have hb := UInt8.ofNat_back hw.1 hw.2
    simp [bAt, List.getElem?_take, hj, hj2] at hb ⊢
    exact hb.symm
/-- .. and a slice of slices of bytes as a list of lists. -/
theorem RBs_of_trod {H : Type} {enc : TypeId × Value → H} {P : Program} {W : World} {base : Nat} {spare : Nat → Bool} {held : Bool} {t t1 e : TypeId} {a : Option Addr} {len cap : Nat} {d : DataW H} {ps : List MemPlace}
    (hu : P.underlying t = some (.slice t1)) (hu1 : P.underlying t1 = some (.slice e)) (he : P.underlying e = some (.int .u8)) (hc : P.cellsOf e = 1) (hc1 : P.cellsOf t1 = 1) (h : DataW.Trod enc P W base spare held t (.slice a len cap) d ps) : ∃ xss, RBs W a len xss ∧ len ≤ cap := by
  obtain ⟨fuel, hf⟩ := h
  rcases Go.Deep.open_slice1 hu hc1 hf with ⟨hcs, _⟩ | ⟨x, l, c, m, n, V, D, Pl, hcs, _, hl, hm, hmm, _, hcell⟩
  · simp [Value.cells] at hcs
    obtain ⟨rfl, rfl, rfl⟩ := hcs
    exact ⟨[], RBs.nil W, Nat.le_refl _⟩
  · simp [Value.cells] at hcs
    obtain ⟨rfl, rfl, rfl⟩ := hcs
    have hl2 : len ≤ m := by
      rw [hmm]
      split
      · exact hl
      · exact Nat.le_refl _
    have each : ∀ j, ∃ ys : List UInt8, j < len → ∃ Aj nj cj, V j = .slice Aj nj cj ∧ RB W Aj nj ys ∧ nj ≤ cj := by
      intro j
      by_cases hj : j < len
      · obtain ⟨h1, h2⟩ := hcell j (by omega)
        have hform : ∃ Aj nj cj, V j = .slice Aj nj cj := by
          rcases DataW.trod_slice hu1 h2 with ⟨h0, _⟩ | ⟨_, _, _, _, _, _, _, h0, _⟩
          · exact ⟨none, 0, 0, by simpa using h0⟩
          · exact ⟨_, _, _, by simpa using h0⟩
        obtain ⟨Aj, nj, cj, hV⟩ := hform
        rw [hV] at h2
        obtain ⟨ys, h3, h4⟩ := RB_of_trod (d := D j) (ps := Pl j) hu1 he hc ⟨n, by simpa [Value.cells] using h2⟩
        exact ⟨ys, fun _ => ⟨Aj, nj, cj, hV, h3, h4⟩⟩
      · exact ⟨[], fun h => absurd h hj⟩
    obtain ⟨F, hF⟩ := Classical.axiomOfChoice each
    refine ⟨(List.range len).map F, ⟨by simp, by simp only [maxLen] at hm; omega, fun _ => ⟨_, rfl, fun j hj => ?_⟩⟩, hl⟩
    obtain ⟨Aj, nj, cj, h1, h2, h3⟩ := hF j hj
    refine ⟨Aj, nj, cj, by rw [← h1]; exact (hcell j (by omega)).1, ?_, h3⟩
    simpa [elt, hj] using h2
/-- A row's slice of bytes is no longer than its weight allows. -/
theorem sized_bytes {H : Type} {enc : TypeId × Value → H} {P : Program} {W : World} {base : Nat} {spare : Nat → Bool} {held : Bool} {t e : TypeId} {a : Option Addr} {len cap : Nat} {d : DataW H} {ps : List MemPlace} {ts : List TypeId} {ds : List (DataW H)} {j : Nat}
    (hsz : (DataW.weightsEach P ts ds).all (· ≤ reachBytes) = true) (ht : ts[j]? = some t) (hd : ds[j]? = some d) (hu : P.underlying t = some (.slice e)) (he : P.underlying e = some (.int .u8)) (hc : P.cellsOf e = 1) (hB : P.bytesOf e = 1)
    (h : DataW.Trod enc P W base spare held t (.slice a len cap) d ps) : len ≤ 140737488351232 := by
  obtain ⟨fuel, hf⟩ := h
  rcases open_ints hu he hc hf with ⟨hcs, _⟩ | ⟨x, l, c, zs, hcs, _, hl, _, hz, hx, _, _⟩
  · simp [Value.cells] at hcs
    obtain ⟨rfl, rfl, rfl⟩ := hcs
    simp
  · simp [Value.cells] at hcs
    obtain ⟨rfl, rfl, rfl⟩ := hcs
    obtain ⟨hx, _⟩ := Prod.mk.inj hx
    subst hx
    have z := sized_slice hsz ht hd hu
    rw [hB] at z
    have hl2 : len ≤ zs.length := by
      rw [hz]
      split
      · exact hl
      · exact Nat.le_refl _
    have h1 : (lits (H := H) .u8 (zs.take len)).length + (lits (H := H) .u8 (zs.drop len)).length = zs.length := by
      simp [lits]
      omega
    rw [h1] at z
    have : (140737488351232 : Nat) = reachBytes := by decide
    omega
end Go.Proofs.Yteediedhofapkaa
