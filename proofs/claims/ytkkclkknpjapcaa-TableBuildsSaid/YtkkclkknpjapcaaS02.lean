/- Shared texts, part S02: O, MmM, MmP, Vint, VintC, VintP, VintD, VintQ, VintT. -/
import Derived.ProofKit
import Derived.OpenShut
import Derived.ShutString
import Derived.ChangeOld
import Derived.Below
import Derived.SizedLaws
import Derived.ChangeSlices
import Derived.Deep.Slices
import Derived.Test.YtkkclkknpjapcaaProg
import Derived.Handy
import Derived.Test.YtkkclkknpjapcaaS01
/-! ### O -/
namespace Go.Proofs.Ytkkclkknpjapcaa
open Go.RowKit Go.ChangeShapes Go.WideShapes
set_option linter.unusedVariables false
set_option linter.unusedSimpArgs false

theorem UInt8.ofNat_back {z : Int} (h0 : 0 ≤ z) (h1 : z < 256) : ((UInt8.ofNat z.toNat).toNat : Int) = z := by
  rw [UInt8.toNat_ofNat']
  omega
theorem wf_u8 {z : Int} (h : (Lit.int .u8 z).wf = true) : 0 ≤ z ∧ z < 256 := by
  have := h
  simp [Lit.wf] at this
  have m : IntKind.u8.min = 0 := rfl
  have M : IntKind.u8.max = 255 := rfl
  omega
theorem wf_u32 {z : Int} (h : (Lit.int .u32 z).wf = true) : 0 ≤ z ∧ z < 4294967296 := by
  have := h
  simp [Lit.wf] at this
  have m : IntKind.u32.min = 0 := rfl
  have M : IntKind.u32.max = 4294967295 := rfl
  omega
theorem wf_u64 {z : Int} (h : (Lit.int .u64 z).wf = true) : 0 ≤ z ∧ z < 18446744073709551616 := by
  have := h
  simp [Lit.wf] at this
  have m : IntKind.u64.min = 0 := rfl
  have M : IntKind.u64.max = 18446744073709551615 := rfl
  omega
theorem wf_i64 {z : Int} (h : (Lit.int .i64 z).wf = true) : -9223372036854775808 ≤ z ∧ z ≤ 9223372036854775807 := by
  have := h
  simp [Lit.wf] at this
  have m : IntKind.i64.min = -9223372036854775808 := rfl
  have M : IntKind.i64.max = 9223372036854775807 := rfl
  omega
/-- A slice of bytes that came in reads as a list of bytes. -/
theorem RB_of_trod {H : Type} {enc : TypeId × Value → H} {P : Program} {W : World} {base : Nat} {spare : Nat → Bool} {held : Bool} {t e : TypeId} {a : Option Addr} {len cap : Nat} {d : DataW H} {ps : List MemPlace}
    (hu : P.underlying t = some (.slice e)) (he : P.underlying e = some (.int .u8)) (hc : P.cellsOf e = 1) (h : DataW.Trod enc P W base spare held t (.slice a len cap) d ps) : ∃ xs, RB W a len xs ∧ len ≤ cap := by
  obtain ⟨fuel, hf⟩ := h
  rcases open_ints hu he hc hf with ⟨hcs, _⟩ | ⟨x, l, c, zs, hcs, _, hl, hm, hz, _, hcell, hwz⟩
  · simp [Value.cells] at hcs
    obtain ⟨rfl, rfl, rfl⟩ := hcs
    exact ⟨[], RB.nil W, Nat.le_refl _⟩
  · simp [Value.cells] at hcs
    obtain ⟨rfl, rfl, rfl⟩ := hcs
    have hl2 : len ≤ zs.length := by
      rw [hz]
      split
      · exact hl
      · exact Nat.le_refl _
    refine ⟨(zs.take len).map fun z => UInt8.ofNat z.toNat, ⟨by simp; omega, by simp only [maxLen] at hm; omega, fun _ => ⟨_, rfl, fun j hj => ?_⟩⟩, hl⟩
    rw [hcell j (by omega)]
    have hj2 : j < zs.length := by omega
    have hw := wf_u8 (hwz (zs[j]) (List.getElem_mem _))
    have hb := UInt8.ofNat_back hw.1 hw.2
    simp [bAt, List.getElem?_take, hj, hj2] at hb ⊢
    exact hb.symm
/-- .. and a slice of slices of bytes as a list of lists. -/
theorem RBs_of_trod {H : Type} {enc : TypeId × Value → H} {P : Program} {W : World} {base : Nat} {spare : Nat → Bool} {held : Bool} {t t1 e : TypeId} {a : Option Addr} {len cap : Nat} {d : DataW H} {ps : List MemPlace}
    (hu : P.underlying t = some (.slice t1)) (hu1 : P.underlying t1 = some (.slice e)) (he : P.underlying e = some (.int .u8)) (hc : P.cellsOf e = 1) (hc1 : P.cellsOf t1 = 1) (h : DataW.Trod enc P W base spare held t (.slice a len cap) d ps) : ∃ xss, RBs W a len xss ∧ len ≤ cap := by
  obtain ⟨fuel, hf⟩ := h
  rcases Go.Deep.open_slice1 hu hc1 hf with ⟨hcs, _⟩ | ⟨x, l, c, m, n, V, D, Pl, hcs, _, hl, hm, hmm, _, hcell⟩
  · simp [Value.cells] at hcs
    obtain ⟨rfl, rfl, rfl⟩ := hcs
    exact ⟨[], RBs.nil W, Nat.le_refl _⟩
  · simp [Value.cells] at hcs
    obtain ⟨rfl, rfl, rfl⟩ := hcs
    have hl2 : len ≤ m := by
      rw [hmm]
      split
      · exact hl
      · exact Nat.le_refl _
    have each : ∀ j, ∃ ys : List UInt8, j < len → ∃ Aj nj cj, V j = .slice Aj nj cj ∧ RB W Aj nj ys ∧ nj ≤ cj := by
      intro j
      by_cases hj : j < len
      · obtain ⟨h1, h2⟩ := hcell j (by omega)
        have hform : ∃ Aj nj cj, V j = .slice Aj nj cj := by
          rcases DataW.trod_slice hu1 h2 with ⟨h0, _⟩ | ⟨_, _, _, _, _, _, _, h0, _⟩
          · exact ⟨none, 0, 0, by simpa using h0⟩
          · exact ⟨_, _, _, by simpa using h0⟩
        obtain ⟨Aj, nj, cj, hV⟩ := hform
        rw [hV] at h2
        obtain ⟨ys, h3, h4⟩ := RB_of_trod (d := D j) (ps := Pl j) hu1 he hc ⟨n, by simpa [Value.cells] using h2⟩
        exact ⟨ys, fun _ => ⟨Aj, nj, cj, hV, h3, h4⟩⟩
      · exact ⟨[], fun h => absurd h hj⟩
    obtain ⟨F, hF⟩ := Classical.axiomOfChoice each
    refine ⟨(List.range len).map F, ⟨by simp, by simp only [maxLen] at hm; omega, fun _ => ⟨_, rfl, fun j hj => ?_⟩⟩, hl⟩
    obtain ⟨Aj, nj, cj, h1, h2, h3⟩ := hF j hj
    refine ⟨Aj, nj, cj, by rw [← h1]; exact (hcell j (by omega)).1, ?_, h3⟩
    simpa [elt, hj] using h2
/-- A row's slice of bytes is no longer than its weight allows. -/
theorem sized_bytes {H : Type} {enc : TypeId × Value → H} {P : Program} {W : World} {base : Nat} {spare : Nat → Bool} {held : Bool} {t e : TypeId} {a : Option Addr} {len cap : Nat} {d : DataW H} {ps : List MemPlace} {ts : List TypeId} {ds : List (DataW H)} {j : Nat}
    (hsz : (DataW.weightsEach P ts ds).all (· ≤ reachBytes) = true) (ht : ts[j]? = some t) (hd : ds[j]? = some d) (hu : P.underlying t = some (.slice e)) (he : P.underlying e = some (.int .u8)) (hc : P.cellsOf e = 1) (hB : P.bytesOf e = 1)
    (h : DataW.Trod enc P W base spare held t (.slice a len cap) d ps) : len ≤ 140737488351232 := by
  obtain ⟨fuel, hf⟩ := h
  rcases open_ints hu he hc hf with ⟨hcs, _⟩ | ⟨x, l, c, zs, hcs, _, hl, _, hz, hx, _, _⟩
  · simp [Value.cells] at hcs
    obtain ⟨rfl, rfl, rfl⟩ := hcs
    simp
  · simp [Value.cells] at hcs
    obtain ⟨rfl, rfl, rfl⟩ := hcs
    obtain ⟨hx, _⟩ := Prod.mk.inj hx
    subst hx
    have z := sized_slice hsz ht hd hu
    rw [hB] at z
    have hl2 : len ≤ zs.length := by
      rw [hz]
      split
      · exact hl
      · exact Nat.le_refl _
    have h1 : (lits (H := H) .u8 (zs.take len)).length + (lits (H := H) .u8 (zs.drop len)).length = zs.length := by
      simp [lits]
      omega
    rw [h1] at z
    have : (140737488351232 : Nat) = reachBytes := by decide
    omega
end Go.Proofs.Ytkkclkknpjapcaa
/-! ### MmM -/
namespace Go.Proofs.Ytkkclkknpjapcaa
open Go.RowKit
set_option linter.unusedVariables false
set_option linter.unusedSimpArgs false

/-- An entry: its key, its number, whether it takes away, till when, its value. -/
def EntR : Type := List UInt8 × Int × Bool × Int × List UInt8
def eKey (e : EntR) : List UInt8 := e.1
def eSeq (e : EntR) : Int := e.2.1
def eGone (e : EntR) : Bool := e.2.2.1
def eTil (e : EntR) : Int := e.2.2.2.1
def eVal (e : EntR) : List UInt8 := e.2.2.2.2
def mkEnt (k : List UInt8) (s : Int) (g : Bool) (t : Int) (v : List UInt8) : EntR := (k, s, g, t, v)
def noEnt : EntR := mkEnt [] 0 false 0 []
def mayN (nk : Nat) (s : Int) (g : Bool) (u : Int) (nv : Nat) : Bool :=
  decide (1 ≤ nk ∧ nk ≤ 512 ∧ nv ≤ 2048 ∧ 1 ≤ s ∧ s ≤ 4611686018427387904 ∧ 0 ≤ u ∧ u ≤ 4611686018427387904 ∧ (g = false ∨ (u = 0 ∧ nv = 0)))
def mayE (e : EntR) : Bool := mayN (eKey e).length (eSeq e) (eGone e) (eTil e) (eVal e).length
theorem ret_bool {a b : Bool} (h : a = b) : Ending.returned (.bool a) = .returned (.bool b) := by rw [h]
set_option maxHeartbeats 16000000 in
set_option maxRecDepth 100000 in
theorem refmay_any (Ak : Option Addr) (nk ck : Nat) (s : Int) (g : Bool) (u : Int) (Av : Option Addr) (nv cv : Nat) (w : World) (hk : nk ≤ 9223372036854775807) (hv : nv ≤ 9223372036854775807) :
    Calls Try.prog 41 #[.agg #[.slice Ak nk ck, .int .i64 s, .bool g, .int .i64 u, .slice Av nv cv]] w fun e w' => e = .returned (.bool (mayN nk s g u nv)) ∧ Below w.heap.size w w' := by
  cases g
  all_goals
    go_enter Try.func41, Try.ntmps41
    go_wp2
    all_goals
      go_ret
      refine ⟨ret_bool ?_, below_alloc' (Below.refl _ _) _⟩
      try simp only [beq_iff_eq, beq_eq_false_iff_ne] at *
      unfold mayN
      first
      | rfl
      | (rw [eq_comm, decide_eq_false_iff_not]; simp; omega)
      | (rw [eq_comm, decide_eq_true_iff]; simp; omega)
      | (rw [decide_eq_decide]; simp; omega)
      | (rw [Bool.eq_iff_iff]; simp; omega)
      | (trace_state; simp; omega)
/-- Is an entry ahead of a key and a number? -/
def aheadK (e : EntR) (key : List UInt8) (s : Int) : Bool := decide (cmpB (eKey e) key < 0 ∨ (cmpB (eKey e) key = 0 ∧ s < eSeq e))
set_option maxHeartbeats 8000000 in
theorem equal_any (A : Option Addr) (n c : Nat) (xs : List UInt8) (A' : Option Addr) (n' c' : Nat) (ys : List UInt8) (w : World) (h : RB w A n xs) (h' : RB w A' n' ys) :
    Calls Try.prog 33 #[.slice A n c, .slice A' n' c'] w fun e w' => e = .returned (.bool (decide (xs = ys))) ∧ w = w' := by
  have q1 := h.conv c
  have q2 := h'.conv c'
  have b1 : (bstr xs).toList = xs := ByteArray.toList_mk xs
  have b2 : (bstr ys).toList = ys := ByteArray.toList_mk ys
  have HB : Hid (((bstr xs).toList == (bstr ys).toList) = decide (xs = ys)) := by
    unfold Hid
    rw [b1, b2]
    exact Bool.eq_iff_iff.2 (by simp)
  clear h h' b1 b2
  go_enter Try.func33, Try.ntmps33
  go_wp2
  go_ret
  exact ⟨by rw [← HB.out]; rfl, rfl⟩
end Go.Proofs.Ytkkclkknpjapcaa
/-! ### MmP -/
namespace Go.Proofs.Ytkkclkknpjapcaa
open Go.RowKit
set_option linter.unusedVariables false
set_option linter.unusedSimpArgs false

theorem cmpB_cons (x y : UInt8) (xs ys : List UInt8) : cmpB (x :: xs) (y :: ys) = if x < y then -1 else if y < x then 1 else cmpB xs ys := rfl
theorem cmpB_swap : ∀ (xs ys : List UInt8), cmpB ys xs = - cmpB xs ys := by
  intro xs
  induction xs with
  | nil => intro ys; cases ys <;> rfl
  | cons x xs ih =>
    intro ys
    cases ys with
    | nil => rfl
    | cons y ys =>
      rw [cmpB_cons, cmpB_cons, ih ys]
      by_cases h1 : x < y
      · have h2 : ¬ y < x := by
          intro h
          have a : x.toNat < y.toNat := h1
          have b : y.toNat < x.toNat := h
          omega
        rw [if_neg h2, if_pos h1, if_pos h1]
        decide
      · rw [if_neg h1, if_neg h1]
        by_cases h2 : y < x
        · rw [if_pos h2, if_pos h2]
        · rw [if_neg h2, if_neg h2]
theorem cmpB_trans : ∀ (xs ys zs : List UInt8), cmpB xs ys < 0 → cmpB ys zs < 0 → cmpB xs zs < 0 := by
  intro xs
  induction xs with
  | nil =>
    intro ys zs h1 h2
    cases ys with
    | nil => exact h2
    | cons y ys =>
      cases zs with
      | nil => exact absurd h2 (by simp [cmpB, Lib.compareBytes])
      | cons z zs => exact h1
  | cons x xs ih =>
    intro ys zs h1 h2
    cases ys with
    | nil => exact absurd h1 (by simp [cmpB, Lib.compareBytes])
    | cons y ys =>
      cases zs with
      | nil => exact absurd h2 (by simp [cmpB, Lib.compareBytes])
      | cons z zs =>
        rw [cmpB_cons] at h1 h2 ⊢
        by_cases a1 : x < y
        · have b1 : x.toNat < y.toNat := a1
          by_cases a2 : y < z
          · have b2 : y.toNat < z.toNat := a2
            rw [if_pos (show x < z from (by show x.toNat < z.toNat; omega))]; decide
          · rw [if_neg a2] at h2
            by_cases a3 : z < y
            · rw [if_pos a3] at h2; omega
            · have b2 : ¬ y.toNat < z.toNat := a2
              have b3 : ¬ z.toNat < y.toNat := a3
              rw [if_pos (show x < z from (by show x.toNat < z.toNat; omega))]; decide
        · rw [if_neg a1] at h1
          by_cases a1' : y < x
          · rw [if_pos a1'] at h1; omega
          · rw [if_neg a1'] at h1
            have b1 : ¬ x.toNat < y.toNat := a1
            have b1' : ¬ y.toNat < x.toNat := a1'
            by_cases a2 : y < z
            · have b2 : y.toNat < z.toNat := a2
              rw [if_pos (show x < z from (by show x.toNat < z.toNat; omega))]; decide
            · rw [if_neg a2] at h2
              by_cases a3 : z < y
              · rw [if_pos a3] at h2; omega
              · rw [if_neg a3] at h2
                have b2 : ¬ y.toNat < z.toNat := a2
                have b3 : ¬ z.toNat < y.toNat := a3
                rw [if_neg (show ¬ x < z from fun h => by have : x.toNat < z.toNat := h; omega), if_neg (show ¬ z < x from fun h => by have : z.toNat < x.toNat := h; omega)]
                exact ih ys zs h1 h2
theorem aheadK_iff {e : EntR} {key : List UInt8} {s : Int} : aheadK e key s = true ↔ (cmpB (eKey e) key < 0 ∨ (eKey e = key ∧ s < eSeq e)) := by
  unfold aheadK
  rw [decide_eq_true_iff, cmpB_zero]
theorem aheadK_not {e : EntR} {key : List UInt8} {s : Int} : aheadK e key s = false ↔ (0 < cmpB (eKey e) key ∨ (eKey e = key ∧ eSeq e ≤ s)) := by
  unfold aheadK
  rw [decide_eq_false_iff_not, cmpB_zero]
  constructor
  · intro h
    by_cases hk : eKey e = key
    · exact .inr ⟨hk, by rcases Int.lt_or_le s (eSeq e) with h1 | h1; exact absurd (.inr ⟨hk, h1⟩) h; exact h1⟩
    · refine .inl ?_
      have h0 : cmpB (eKey e) key ≠ 0 := fun h0 => hk ((cmpB_zero _ _).1 h0)
      have h1 : ¬ cmpB (eKey e) key < 0 := fun h1 => h (.inl h1)
      omega
  · rintro (h | ⟨h1, h2⟩) h3
    · rcases h3 with h3 | ⟨h3, _⟩
      · omega
      · rw [(cmpB_zero _ _).2 h3] at h; omega
    · rcases h3 with h3 | ⟨_, h3⟩
      · rw [(cmpB_zero _ _).2 h1] at h3; omega
      · omega
/-- An entry ahead of another one. -/
def aheadE (a b : EntR) : Bool := aheadK a (eKey b) (eSeq b)
theorem ahead_trans {a b : EntR} {key : List UInt8} {s : Int} (h1 : aheadE a b = true) (h2 : aheadK b key s = true) : aheadK a key s = true := by
  rw [aheadE, aheadK_iff] at h1
  rw [aheadK_iff] at h2 ⊢
  rcases h1 with h1 | ⟨h1, h1'⟩
  · rcases h2 with h2 | ⟨h2, h2'⟩
    · exact .inl (cmpB_trans _ _ _ h1 h2)
    · rw [← h2]; exact .inl h1
  · rcases h2 with h2 | ⟨h2, h2'⟩
    · rw [h1]; exact .inl h2
    · exact .inr ⟨h1.trans h2, by omega⟩
theorem ahead_irrefl (a : EntR) : aheadE a a = false := by
  rw [aheadE, aheadK_not]
  exact .inr ⟨rfl, Int.le_refl _⟩
/-- Two entries of which neither is ahead have one key and one number. -/
theorem ahead_total {a b : EntR} (h1 : aheadE a b = false) (h2 : aheadE b a = false) : eKey a = eKey b ∧ eSeq a = eSeq b := by
  rw [aheadE, aheadK_not] at h1 h2
  rcases h1 with h1 | ⟨h1, h1'⟩
  · rcases h2 with h2 | ⟨h2, h2'⟩
    · rw [cmpB_swap] at h2; omega
    · rw [h2, (cmpB_zero _ _).2 rfl] at h1; omega
  · rcases h2 with h2 | ⟨h2, h2'⟩
    · rw [h1, (cmpB_zero _ _).2 rfl] at h2; omega
    · exact ⟨h1, by omega⟩
/-- In order, none twice. -/
def Srt : List EntR → Prop
  | [] => True
  | x :: l => (∀ y ∈ l, aheadE x y = true) ∧ Srt l
/-- What is ahead of a key and a number; what is not. -/
def preK (key : List UInt8) (s : Int) : List EntR → List EntR
  | [] => []
  | x :: l => if aheadK x key s then x :: preK key s l else []
def sufK (key : List UInt8) (s : Int) : List EntR → List EntR
  | [] => []
  | x :: l => if aheadK x key s then sufK key s l else x :: l
theorem pre_suf (key : List UInt8) (s : Int) (l : List EntR) : preK key s l ++ sufK key s l = l := by
  induction l with
  | nil => rfl
  | cons x l ih =>
    rw [preK, sufK]
    cases aheadK x key s
    · rfl
    · simp only [if_true, List.cons_append]; rw [ih]
theorem pre_all {key : List UInt8} {s : Int} {l : List EntR} : ∀ x ∈ preK key s l, aheadK x key s = true := by
  induction l with
  | nil => intro x h; cases h
  | cons y l ih =>
    intro x h
    rw [preK] at h
    cases hy : aheadK y key s
    · rw [hy] at h; cases h
    · rw [hy] at h
      rcases List.mem_cons.1 h with rfl | h
      · exact hy
      · exact ih x h
theorem suf_none {key : List UInt8} {s : Int} {l : List EntR} (hs : Srt l) : ∀ x ∈ sufK key s l, aheadK x key s = false := by
  induction l with
  | nil => intro x h; cases h
  | cons y l ih =>
    intro x h
    rw [sufK] at h
    cases hy : aheadK y key s
    · rw [hy] at h
      simp only [Bool.false_eq_true, if_false] at h
      rcases List.mem_cons.1 h with rfl | h
      · exact hy
      · cases hx : aheadK x key s
        · rfl
        · rw [ahead_trans (hs.1 x h) hx] at hy; cases hy
    · rw [hy] at h
      exact ih hs.2 x h
theorem Srt.app {l m : List EntR} (h1 : Srt l) (h2 : Srt m) (h3 : ∀ x ∈ l, ∀ y ∈ m, aheadE x y = true) : Srt (l ++ m) := by
  induction l with
  | nil => exact h2
  | cons x l ih =>
    refine ⟨fun y hy => ?_, ih h1.2 fun z hz => h3 z (by simp [hz])⟩
    rcases List.mem_append.1 hy with hy | hy
    · exact h1.1 y hy
    · exact h3 x (by simp) y hy
theorem Srt.parts {l m : List EntR} (h : Srt (l ++ m)) : Srt l ∧ Srt m ∧ ∀ x ∈ l, ∀ y ∈ m, aheadE x y = true := by
  induction l with
  | nil => exact ⟨trivial, h, fun x hx => by cases hx⟩
  | cons x l ih =>
    obtain ⟨h1, h2⟩ := h
    obtain ⟨i1, i2, i3⟩ := ih h2
    refine ⟨⟨fun y hy => h1 y (List.mem_append_left _ hy), i1⟩, i2, fun z hz y hy => ?_⟩
    rcases List.mem_cons.1 hz with rfl | hz
    · exact h1 y (List.mem_append_right _ hy)
    · exact i3 z hz y hy
/-- Is there one with this key and this number? -/
def hasE (l : List EntR) (e : EntR) : Bool := match sufK (eKey e) (eSeq e) l with | [] => false | x :: _ => decide (eSeq x = eSeq e) && decide (eKey x = eKey e)
def insE (l : List EntR) (e : EntR) : List EntR := preK (eKey e) (eSeq e) l ++ e :: sufK (eKey e) (eSeq e) l
/-- An entry put into its place, where there is none like it. -/
def putE (l : List EntR) (e : EntR) : List EntR := if hasE l e then l else insE l e
theorem ins_srt {l : List EntR} {e : EntR} (h : Srt l) (hn : hasE l e = false) : Srt (insE l e) := by
  have hp := pre_suf (eKey e) (eSeq e) l
  have h' := h
  rw [← hp] at h'
  obtain ⟨h1, h2, h3⟩ := h'.parts
  refine h1.app ⟨fun y hy => ?_, h2⟩ fun x hx y hy => ?_
  · have hall := suf_none (key := eKey e) (s := eSeq e) h
    unfold hasE at hn
    cases hsf : sufK (eKey e) (eSeq e) l with
    | nil => rw [hsf] at hy; cases hy
    | cons z m =>
      rw [hsf] at hn hy hall h2
      have hz : aheadE e z = true := by
        cases hez : aheadE e z
        · obtain ⟨k1, k2⟩ := ahead_total (a := z) (b := e) (hall z (by simp)) hez
          simp [k1, k2] at hn
        · rfl
      rcases List.mem_cons.1 hy with rfl | hy
      · exact hz
      · exact ahead_trans hz (h2.1 y hy)
  · have hx' := pre_all x hx
    rcases List.mem_cons.1 hy with rfl | hy
    · exact hx'
    · exact h3 x hx y hy
theorem put_srt {l : List EntR} {e : EntR} (h : Srt l) : Srt (putE l e) := by
  unfold putE
  cases hn : hasE l e
  · exact ins_srt h hn
  · exact h
end Go.Proofs.Ytkkclkknpjapcaa
/-! ### Vint -/
namespace Go.Proofs.Ytkkclkknpjapcaa
set_option linter.unusedVariables false
set_option linter.unusedSimpArgs false

/-! ## uvarints -/
def uvarF : Nat → Nat → List UInt8
  | 0, _ => []
  | f + 1, n => if n < 128 then [UInt8.ofNat n] else UInt8.ofNat (n % 128 + 128) :: uvarF f (n / 128)
/-- A uvarint of a number of 64 bits. -/
def uvar (n : Nat) : List UInt8 := uvarF 10 n
theorem uvarF_small {f n : Nat} (h : n < 128) : uvarF (f + 1) n = [UInt8.ofNat n] := by unfold uvarF; rw [if_pos h]
theorem uvarF_big {f n : Nat} (h : ¬ n < 128) : uvarF (f + 1) n = UInt8.ofNat (n % 128 + 128) :: uvarF f (n / 128) := by
  conv => lhs; unfold uvarF
  rw [if_neg h]
theorem uvarF_len (f : Nat) : ∀ n, (uvarF f n).length ≤ f := by
  induction f with
  | zero => intro n; simp [uvarF]
  | succ f ih =>
    intro n
    by_cases h : n < 128
    · rw [uvarF_small h]; simp
    · rw [uvarF_big h]; have := ih (n / 128); simp; omega
theorem uvar_len (n : Nat) : (uvar n).length ≤ 10 := uvarF_len 10 n
theorem uvarF_pos {f n : Nat} (h : 0 < f) : 0 < (uvarF f n).length := by
  obtain ⟨g, rfl⟩ : ∃ g, f = g + 1 := ⟨f - 1, by omega⟩
  by_cases h : n < 128
  · rw [uvarF_small h]; simp
  · rw [uvarF_big h]; simp
/-- How many bytes at the front have the highest bit. -/
def leadU : List UInt8 → Nat
  | [] => 0
  | x :: l => if 128 ≤ x.toNat then leadU l + 1 else 0
def valU : List UInt8 → Nat
  | [] => 0
  | x :: l => x.toNat % 128 + 128 * valU l
/-- The number at the front, how many bytes it has, the error. -/
def takeU (l : List UInt8) : Nat × Nat × Nat :=
  if leadU l = l.length then (0, 0, 5)
  else if 9 < leadU l ∨ (leadU l = 9 ∧ 1 < bAt l (leadU l)) ∨ (0 < leadU l ∧ bAt l (leadU l) = 0) then (0, 0, 3)
  else (valU (l.take (leadU l + 1)), leadU l + 1, 0)
theorem leadU_le : ∀ l : List UInt8, leadU l ≤ l.length := by
  intro l
  induction l with
  | nil => exact Nat.le_refl _
  | cons x l ih => unfold leadU; split <;> simp <;> omega
theorem leadU_eq : ∀ (l : List UInt8) (k : Nat), k ≤ l.length → (∀ j, j < k → 128 ≤ bAt l j) → (k = l.length ∨ bAt l k < 128) → leadU l = k := by
  intro l
  induction l with
  | nil => intro k hk _ _; simp at hk; subst hk; rfl
  | cons x l ih =>
    intro k hk hj he
    unfold leadU
    cases k with
    | zero =>
      rcases he with he | he
      · simp at he
      · have : x.toNat < 128 := by simpa [bAt] using he
        rw [if_neg (by omega)]
    | succ k =>
      have h0 : 128 ≤ x.toNat := by simpa [bAt] using hj 0 (by omega)
      rw [if_pos h0, ih k (by simpa using hk) (fun j hjk => by simpa [bAt] using hj (j + 1) (by omega)) (by
        rcases he with he | he
        · exact .inl (by simpa using he)
        · exact .inr (by simpa [bAt] using he))]
theorem leadU_high : ∀ (l : List UInt8) (j : Nat), j < leadU l → 128 ≤ bAt l j := by
  intro l
  induction l with
  | nil => intro j h; simp [leadU] at h
  | cons x l ih =>
    intro j h
    unfold leadU at h
    split at h
    · cases j with
      | zero => simpa [bAt]
      | succ j => simpa [bAt] using ih j (by omega)
    · omega
theorem leadU_low (l : List UInt8) (h : leadU l < l.length) : bAt l (leadU l) < 128 := by
  induction l with
  | nil => simp at h
  | cons x l ih =>
    unfold leadU at h ⊢
    split
    · rename_i hx
      rw [if_pos hx] at h
      simpa [bAt] using ih (by simpa using h)
    · simp [bAt]; omega
theorem valU_lt : ∀ l : List UInt8, valU l < 128 ^ l.length := by
  intro l
  induction l with
  | nil => simp [valU]
  | cons x l ih =>
    have := Nat.mod_lt x.toNat (show 128 > 0 by omega)
    simp only [valU, List.length_cons, Nat.pow_succ]
    omega
theorem valU_append : ∀ l m : List UInt8, valU (l ++ m) = valU l + 128 ^ l.length * valU m := by
  intro l
  induction l with
  | nil => intro m; simp [valU]
  | cons x l ih =>
    intro m
    simp only [List.cons_append, valU, ih, List.length_cons, Nat.pow_succ]
    rw [Nat.mul_add, ← Nat.mul_assoc, Nat.mul_comm 128 (128 ^ l.length)]
    omega
/-- What has been gathered from the last byte down to byte j. -/
def partU (l : List UInt8) (k j : Nat) : Nat := valU ((l.take (k + 1)).drop j)
theorem partU_end (l : List UInt8) (k : Nat) : partU l k (k + 1) = 0 := by
  unfold partU
  rw [List.drop_eq_nil_of_le (by simp; omega)]
  rfl
theorem partU_step (l : List UInt8) (k j : Nat) (hj : j ≤ k) (hk : k < l.length) : partU l k j = bAt l j % 128 + 128 * partU l k (j + 1) := by
  unfold partU
  rw [List.drop_eq_getElem_cons (by simp; omega)]
  simp only [valU, List.getElem_take]
  rw [bAt_get (by omega)]
theorem partU_zero (l : List UInt8) (k : Nat) : partU l k 0 = valU (l.take (k + 1)) := by simp [partU]
theorem pow128_le {a b : Nat} (h : a ≤ b) : 128 ^ a ≤ 128 ^ b := Nat.pow_le_pow_right (by omega) h
/-- A number that may be keeps within 64 bits all the way. -/
theorem partU_lt (l : List UInt8) (k j : Nat) (hk : k < l.length) (h9 : k ≤ 9) (ht : k = 9 → bAt l k ≤ 1) (hj : 1 ≤ j) (hjk : j ≤ k + 1) : partU l k j < 144115188075855872 := by
  by_cases h : k < 9
  · have h1 := valU_lt ((l.take (k + 1)).drop j)
    have h2 : ((l.take (k + 1)).drop j).length ≤ 8 := by simp; omega
    exact Nat.lt_of_lt_of_le h1 (Nat.le_trans (pow128_le h2) (by decide))
  · obtain rfl : k = 9 := by omega
    by_cases hj10 : j = 10
    · subst hj10; rw [partU_end]; omega
    · have e : (l.take 10).drop j = (l.take 9).drop j ++ [l[9]] := by
        rw [List.take_succ_eq_append_getElem hk, List.drop_append_of_le_length (by simp; omega)]
      have hb : (l[9]).toNat ≤ 1 := by rw [← bAt_get hk]; exact ht rfl
      unfold partU
      rw [e, valU_append]
      have h1 := valU_lt ((l.take 9).drop j)
      have hlen : ((l.take 9).drop j).length ≤ 8 := by simp; omega
      have h2 := pow128_le hlen
      have h3 : valU [l[9]] ≤ 1 := by simp [valU]; omega
      have h4 : 128 ^ ((l.take 9).drop j).length * valU [l[9]] ≤ 128 ^ 8 * 1 := Nat.mul_le_mul h2 h3
      have e8 : (128 : Nat) ^ 8 = 72057594037927936 := by decide
      omega
theorem partU_lt64 (l : List UInt8) (k : Nat) (hk : k < l.length) (h9 : k ≤ 9) (ht : k = 9 → bAt l k ≤ 1) : partU l k 0 < 18446744073709551616 := by
  rw [partU_step l k 0 (by omega) hk, Nat.zero_add]
  have := partU_lt l k 1 hk h9 ht (by omega) (by omega)
  omega
theorem takeU_lt (l : List UInt8) : (takeU l).1 < 18446744073709551616 ∧ (takeU l).2.1 ≤ l.length ∧ (takeU l).2.1 ≤ 10 ∧ (takeU l).2.2 ≤ 5 := by
  have hl := leadU_le l
  unfold takeU
  split
  · simp
  · split
    · simp
    · rename_i h1 h2
      have := partU_lt64 l (leadU l) (by omega) (by omega) (by omega)
      rw [partU_zero] at this
      exact ⟨this, by simp; omega, by simp; omega, by simp⟩
end Go.Proofs.Ytkkclkknpjapcaa
/-! ### VintC -/
namespace Go.Proofs.Ytkkclkknpjapcaa
open Go.RowKit
set_option linter.unusedVariables false
set_option linter.unusedSimpArgs false

theorem ret3 {k1 k2 k3 : IntKind} {a b c a' b' c' : Int} (h1 : a = a') (h2 : b = b') (h3 : c = c') : Ending.returned (.tuple #[.int k1 a, .int k2 b, .int k3 c]) = .returned (.tuple #[.int k1 a', .int k2 b', .int k3 c']) := by rw [h1, h2, h3]
theorem and127 (xs : List UInt8) (j : Nat) : bits .and .u8 (bAt xs j : Int) 127 = ((bAt xs j % 128 : Nat) : Int) := by
  have h := u8_and_nat (bAt xs j) 127 (bAt_lt _ _) (by omega)
  rw [show ((127 : Nat) : Int) = 127 from rfl] at h
  rw [h, show (127 : Nat) = 2 ^ 7 - 1 from rfl, Nat.and_two_pow_sub_one_eq_mod]
theorem or_shl7 {v x : Nat} (hv : v < 144115188075855872) (hx : x < 128) : bits .or .u64 ((v : Int) * 128) (x : Int) = ((x + 128 * v : Nat) : Int) := by
  have h := u64_or_nat (v * 128) x (by omega) (by omega)
  have e : v * 128 ||| x = v * 128 + x := by
    have := Nat.two_pow_add_eq_or_of_lt (i := 7) (b := x) hx v
    rw [Nat.mul_comm]
    exact this.symm
  rw [e] at h
  rw [show (v : Int) * 128 = ((v * 128 : Nat) : Int) from by omega, h]
  omega
theorem or_shl7' {v y : Nat} (hv : v < 144115188075855872) : bits .or .u64 ((v : Int) * 128) ((y : Int) % 128) = ((y % 128 + 128 * v : Nat) : Int) := by
  have := or_shl7 hv (Nat.mod_lt y (show 128 > 0 by omega))
  rw [← this]
  rfl
set_option maxHeartbeats 4000000 in
set_option maxRecDepth 100000 in
theorem take_any (A : Option Addr) (n c : Nat) (xs : List UInt8) (w : World) (h : RB w A n xs) :
    Calls Try.prog 76 #[.slice A n c] w fun e w' => e = .returned (.tuple #[.int .u64 ((takeU xs).1 : Nat), .int .i64 ((takeU xs).2.1 : Nat), .int .i64 ((takeU xs).2.2 : Nat)]) ∧ w = w' := by
  have hm := h.max
  have hl := h.1
  have HL := hid hl
  clear hl
  go_enter Try.func76, Try.ntmps76
  go_wp2
  go_loop [5] (fun i => ∃ k : Nat, k ≤ n ∧ i = .int .i64 k ∧ ∀ j, j < k → 128 ≤ bAt xs j) (fun i => n - (intOf i).toNat)
  case atStart => exact ⟨0, Nat.zero_le _, rfl, fun j hj => absurd hj (by omega)⟩
  case round =>
    obtain ⟨k, hk, rfl, hall⟩ := hrel
    have HA := hid hall
    clear hall
    have hb := bAt_lt xs k
    by_cases hlt : k < n
    · obtain ⟨ad, rfl, hc⟩ := h.at_ hlt
      by_cases hbig : 128 ≤ bAt xs k
      · go_wp2
        go_round
        case rel => exact ⟨k + 1, by omega, by go_num, fun j hj => by
            rcases Nat.lt_or_ge j k with h1 | h1
            · exact HA.out j h1
            · obtain rfl : j = k := by omega
              exact hbig⟩
        case measure => simp [intOf]; omega
      · have hlead : leadU xs = k := leadU_eq xs k (by rw [HL.out]; exact hk) HA.out (.inr (by omega))
        have hne : (k : Int) ≠ (n : Int) := by omega
        by_cases hbad : 9 < k ∨ (k = 9 ∧ 1 < bAt xs k) ∨ (0 < k ∧ bAt xs k = 0)
        · have HT : Hid (takeU xs = (0, 0, 3)) := by
            unfold Hid takeU
            rw [hlead, HL.out, if_neg (by omega), if_pos hbad]
          have HLD := hid hlead
          clear hlead
          by_cases c1 : 9 < k
          · go_wp2
            go_ret3
            rw [HT.out]
            exact ⟨rfl, rfl⟩
          · by_cases c2 : k = 9 ∧ 1 < bAt xs k
            · obtain ⟨c3, c4⟩ := c2
              have c3a : k ≤ 9 := by omega
              have c3b : 9 ≤ k := by omega
              have b9 : ((k : Int) == 9) = true := by rw [beq_iff_eq]; omega
              clear c3 hbad
              go_wp2
              go_ret3
              rw [HT.out]
              exact ⟨rfl, rfl⟩
            · have c5 : 0 < k := by omega
              have c6 : bAt xs k = 0 := by omega
              by_cases c3 : k = 9
              · have c3a : k ≤ 9 := by omega
                have c3b : 9 ≤ k := by omega
                have b9 : ((k : Int) == 9) = true := by rw [beq_iff_eq]; omega
                clear c3 hbad
                go_wp2
                go_ret3
                rw [HT.out]
                exact ⟨rfl, rfl⟩
              · go_wp2
                go_ret3
                rw [HT.out]
                exact ⟨rfl, rfl⟩
        · have c1 : k ≤ 9 := by omega
          have c2 : k = 9 → bAt xs k ≤ 1 := by omega
          have c4 : 0 < k → bAt xs k ≠ 0 := by omega
          have hkl : k < xs.length := by rw [HL.out]; exact hlt
          have HT : Hid (takeU xs = (partU xs k 0, k + 1, 0)) := by
            unfold Hid takeU
            rw [hlead, HL.out, if_neg (by omega), if_neg hbad, partU_zero]
          have HP : Hid (∀ j, 1 ≤ j → j ≤ k + 1 → partU xs k j < 144115188075855872) := fun j h1 h2 => partU_lt xs k j hkl c1 c2 h1 h2
          have HS : Hid (∀ j, j ≤ k → partU xs k j = bAt xs j % 128 + 128 * partU xs k (j + 1)) := fun j h1 => partU_step xs k j h1 hkl
          have HE : Hid (partU xs k (k + 1) = 0) := partU_end xs k
          obtain ⟨ad2, e2, hcell⟩ := h.2.2 (by omega)
          have HC2 := hid hcell
          injection e2 with e2
          subst e2
          clear hlead hbad hkl hcell
          obtain ⟨b9v, hb9⟩ : ∃ b, ((k : Int) == 9) = b := ⟨_, rfl⟩
          have c7 : b9v = true → bAt xs k ≤ 1 := by
            intro e
            rw [e, beq_iff_eq] at hb9
            exact c2 (by omega)
          clear c2
          cases b9v
          all_goals
            by_cases c5 : 0 < k
          all_goals
            try have c8 := c7 rfl
            try have c9 := c4 c5
            try have b0 : ((bAt xs k : Int) == 0) = false := by rw [beq_eq_false_iff_ne]; omega
            clear c7 c4
            go_wp2
          all_goals
            go_loop [6, 7] (fun v i => ∃ j : Nat, j ≤ k + 1 ∧ v = .int .u64 (partU xs k j : Nat) ∧ i = .int .i64 ((j : Int) - 1)) (fun _ i => (intOf i + 1).toNat)
            case atStart => exact ⟨k + 1, by omega, by rw [HE.out]; rfl, by go_num⟩
            case round =>
              obtain ⟨j, hj, rfl, rfl⟩ := hrel
              cases j with
              | zero =>
                go_wp2
                go_ret3
                rw [HT.out]
                exact ⟨ret3 rfl (by dsimp only; omega) rfl, rfl⟩
              | succ j =>
                have hcj := HC2.out j (by omega)
                have hp := HP.out (j + 1) (by omega) hj
                have ea := and127 xs j
                have eo := or_shl7' (y := bAt xs j) hp
                have HS2 : Hid (bAt xs j % 128 + 128 * partU xs k (j + 1) = partU xs k j) := (HS.out j (by omega)).symm
                go_wp2
                go_round
                case rel => exact ⟨j, by omega, (by have := HS2.out; go_num), by go_num⟩
                case measure => simp [intOf]
    · obtain rfl : k = n := by omega
      have HT : Hid (takeU xs = (0, 0, 5)) := by
        have hlead : leadU xs = k := leadU_eq xs k (by rw [HL.out]; exact hk) HA.out (.inl HL.out.symm)
        unfold Hid takeU
        rw [hlead, HL.out, if_pos rfl]
      go_wp2
      go_ret3
      rw [HT.out]
      exact ⟨rfl, rfl⟩
end Go.Proofs.Ytkkclkknpjapcaa
/-! ### VintP -/
namespace Go.Proofs.Ytkkclkknpjapcaa
open Go.RowKit
set_option linter.unusedVariables false
set_option linter.unusedSimpArgs false

theorem or128_all : ∀ x, x < 256 → x ||| 128 = x % 128 + 128 := by decide +kernel
theorem or128 {m : Nat} : bits .or .u8 ((m : Int) % 256) 128 = ((UInt8.ofNat (m % 128 + 128)).toNat : Int) := by
  have h := u8_or_nat (m % 256) 128 (by omega) (by omega)
  rw [show ((128 : Nat) : Int) = 128 from rfl, show ((m % 256 : Nat) : Int) = (m : Int) % 256 from by omega] at h
  rw [h, or128_all _ (Nat.mod_lt _ (by omega)), UInt8.toNat_ofNat']
  omega
theorem byte_small {m : Nat} (h : m < 128) : (m : Int) % 256 = ((UInt8.ofNat m).toNat : Int) := by
  rw [UInt8.toNat_ofNat', Nat.mod_eq_of_lt (by omega)]
  omega
theorem pow128_10 : (18446744073709551616 : Nat) ≤ 128 ^ 10 := by decide
/-- What is put, from a number on: one round. -/
theorem uvarF_round {out b : List UInt8} {f m g : Nat} (h : out ++ uvarF f m = b ++ uvarF 10 g) (hf : m < 128 ^ f) (hm : ¬ m < 128) : ∃ f', f = f' + 1 ∧ 1 ≤ f' ∧ m / 128 < 128 ^ f' ∧ (out ++ [UInt8.ofNat (m % 128 + 128)]) ++ uvarF f' (m / 128) = b ++ uvarF 10 g := by
  cases f with
  | zero => simp at hf; omega
  | succ f =>
    refine ⟨f, rfl, ?_, ?_, ?_⟩
    · cases f with
      | zero => simp at hf; omega
      | succ f => omega
    · rw [Nat.pow_succ] at hf
      exact Nat.div_lt_of_lt_mul (by rw [Nat.mul_comm]; exact hf)
    · rw [← h, uvarF_big hm]
      simp
theorem uvarF_last {out b : List UInt8} {f m g : Nat} (h : out ++ uvarF f m = b ++ uvarF 10 g) (hf : 1 ≤ f) (hm : m < 128) : out ++ [UInt8.ofNat m] = b ++ uvarF 10 g := by
  obtain ⟨f', rfl⟩ : ∃ f', f = f' + 1 := ⟨f - 1, by omega⟩
  rw [← h, uvarF_small hm]

set_option maxHeartbeats 1000000 in
set_option maxRecDepth 100000 in
theorem put_any (A : Option Addr) (n c : Nat) (xs : List UInt8) (g : Nat) (w : World) (h : RB w A n xs) (hg : g < 18446744073709551616) (hsz : n + 10 ≤ 140737488355328) :
    Calls Try.prog 37 #[.slice A n c, .int .u64 (g : Int)] w fun e w' => ∃ v, e = .returned v ∧ OB w' w.heap.size v (xs ++ uvar g) ∧ Below w.heap.size w w' := by
  have hl := h.1
  have HL := hid hl
  clear hl
  go_enter Try.func37, Try.ntmps37
  go_wp2
  refine wp_scope_ghost 0 (fun k a' w' => ∃ (m f : Nat) (out : List UInt8) (v u6 u7 u8 u9 u10 u11 u12 u13 u14 u15 u16 u17 u18 u19 u20 u21 u22 : Value), a' = { tmps := #[.slice A n c, .int .u64 m, undef, undef, .slice none 0 0, v, u6, u7, u8, u9, u10, u11, u12, u13, u14, u15, u16, u17, u18, u19, u20, u21, u22], defers := [] } ∧ OB w' w.heap.size v out ∧ Below w.heap.size w w' ∧ out ++ uvarF f m = xs ++ uvarF 10 g ∧ m < 128 ^ f ∧ 1 ≤ f ∧ k = f ∧ m < 18446744073709551616 ∧ out.length + f ≤ n + 10) rfl ?_ ?_
  · rintro k a' w' ⟨m, f, out, v, u6, u7, u8, u9, u10, u11, u12, u13, u14, u15, u16, u17, u18, u19, u20, u21, u22, rfl, hown, hB, he, hmf, hf1, rfl, hm64, hlen⟩
    have HE := hid he
    have HM := hid hmf
    clear he hmf
    by_cases hm : m < 128
    · have HX := hid (uvarF_last HE.out hf1 hm)
      go_wp2_with (at_builtin; refine wpB_append1 w w' w.heap.size rfl (.tmp 18) (.tmp 21) rfl v out rfl hown (UInt8.ofNat m) _ (by rw [UInt8.toNat_ofNat']; omega) 1 rfl (by omega) hB hB.size ?_; intro v1 w1 hown1 hB1 _ _)
      simp only [Exit.jump]
      go_ret
      exact ⟨v1, rfl, by rw [HX.out] at hown1; exact hown1, hB1⟩
    · go_wp2_with (at_builtin; refine wpB_append1 w w' w.heap.size rfl (.tmp 10) (.tmp 14) rfl v out rfl hown (UInt8.ofNat (m % 128 + 128)) _ (by exact or128) 1 rfl (by omega) hB hB.size ?_; intro v1 w1 hown1 hB1 _ _)
      obtain ⟨f', rfl, hf1', hmf', he'⟩ := uvarF_round HE.out HM.out hm
      refine wp_goto_k (Jumped.mk f' (by omega) ⟨m / 128, f', _, v1, _, _, _, _, _, _, _, _, _, _, _, _, _, _, _, _, _, rfl, hown1, hB1, he', hmf', hf1', rfl, by omega, by simp; omega⟩)
  · intro hpass
    go_wp2_with (at_builtin; refine wpB_append w w w.heap.size rfl (.const (.slice none 0 0)) (.tmp 6) rfl _ [] rfl (OB.nil _ _) A n c xs rfl h (by rw [HL.out]; simp; omega) (Below.refl _ _) (Nat.le_refl _) ?_; intro v1 w1 hown1 hB1 _ _)
    refine wp_label_k (by assumption) (hpass 10 _ _ ?_)
    exact ⟨g, 10, xs, v1, _, _, _, _, _, _, _, _, _, _, _, _, _, _, _, _, _, rfl, hown1, hB1, rfl, Nat.lt_of_lt_of_le hg pow128_10, by omega, rfl, hg, by rw [HL.out]; exact Nat.le_refl _⟩
end Go.Proofs.Ytkkclkknpjapcaa
/-! ### VintD -/
namespace Go.Proofs.Ytkkclkknpjapcaa
open Go.RowKit
set_option linter.unusedVariables false
set_option linter.unusedSimpArgs false

set_option maxHeartbeats 4000000 in
set_option maxRecDepth 100000 in
theorem reftake_any (A : Option Addr) (n c : Nat) (xs : List UInt8) (w : World) (h : RB w A n xs) :
    Calls Try.prog 79 #[.slice A n c] w fun e w' => e = .returned (.tuple #[.int .u64 ((takeU xs).1 : Nat), .int .i64 ((takeU xs).2.1 : Nat), .int .i64 ((takeU xs).2.2 : Nat)]) ∧ w = w' := by
  have hm := h.max
  have hl := h.1
  have HL := hid hl
  clear hl
  go_enter Try.func79, Try.ntmps79
  go_wp2
  go_loop [5] (fun i => ∃ k : Nat, k ≤ n ∧ i = .int .i64 k ∧ ∀ j, j < k → 128 ≤ bAt xs j) (fun i => n - (intOf i).toNat)
  case atStart => exact ⟨0, Nat.zero_le _, rfl, fun j hj => absurd hj (by omega)⟩
  case round =>
    obtain ⟨k, hk, rfl, hall⟩ := hrel
    have HA := hid hall
    clear hall
    have hb := bAt_lt xs k
    by_cases hlt : k < n
    · obtain ⟨ad, rfl, hc⟩ := h.at_ hlt
      by_cases hbig : 128 ≤ bAt xs k
      · go_wp2
        go_round
        case rel => exact ⟨k + 1, by omega, by go_num, fun j hj => by
            rcases Nat.lt_or_ge j k with h1 | h1
            · exact HA.out j h1
            · obtain rfl : j = k := by omega
              exact hbig⟩
        case measure => simp [intOf]; omega
      · have hlead : leadU xs = k := leadU_eq xs k (by rw [HL.out]; exact hk) HA.out (.inr (by omega))
        have hne : (k : Int) ≠ (n : Int) := by omega
        by_cases hbad : 9 < k ∨ (k = 9 ∧ 1 < bAt xs k) ∨ (0 < k ∧ bAt xs k = 0)
        · have HT : Hid (takeU xs = (0, 0, 3)) := by
            unfold Hid takeU
            rw [hlead, HL.out, if_neg (by omega), if_pos hbad]
          have HLD := hid hlead
          clear hlead
          by_cases c1 : 9 < k
          · clear hbad
            by_cases c0 : bAt xs k = 0
            all_goals
              go_wp2
              go_ret3
              rw [HT.out]
              exact ⟨rfl, rfl⟩
          · by_cases c2 : k = 9 ∧ 1 < bAt xs k
            · obtain ⟨c3, c4⟩ := c2
              have c3a : k ≤ 9 := by omega
              have c3b : 9 ≤ k := by omega
              have b9 : ((k : Int) == 9) = true := by rw [beq_iff_eq]; omega
              clear c3 hbad
              go_wp2
              go_ret3
              rw [HT.out]
              exact ⟨rfl, rfl⟩
            · have c5 : 0 < k := by omega
              have c6 : bAt xs k = 0 := by omega
              by_cases c3 : k = 9
              · have c3a : k ≤ 9 := by omega
                have c3b : 9 ≤ k := by omega
                have b9 : ((k : Int) == 9) = true := by rw [beq_iff_eq]; omega
                clear c3 hbad
                go_wp2
                go_ret3
                rw [HT.out]
                exact ⟨rfl, rfl⟩
              · go_wp2
                go_ret3
                rw [HT.out]
                exact ⟨rfl, rfl⟩
        · have c1 : k ≤ 9 := by omega
          have c2 : k = 9 → bAt xs k ≤ 1 := by omega
          have c4 : 0 < k → bAt xs k ≠ 0 := by omega
          have hkl : k < xs.length := by rw [HL.out]; exact hlt
          have HT : Hid (takeU xs = (partU xs k 0, k + 1, 0)) := by
            unfold Hid takeU
            rw [hlead, HL.out, if_neg (by omega), if_neg hbad, partU_zero]
          have HP : Hid (∀ j, 1 ≤ j → j ≤ k + 1 → partU xs k j < 144115188075855872) := fun j h1 h2 => partU_lt xs k j hkl c1 c2 h1 h2
          have HS : Hid (∀ j, j ≤ k → partU xs k j = bAt xs j % 128 + 128 * partU xs k (j + 1)) := fun j h1 => partU_step xs k j h1 hkl
          have HE : Hid (partU xs k (k + 1) = 0) := partU_end xs k
          obtain ⟨ad2, e2, hcell⟩ := h.2.2 (by omega)
          have HC2 := hid hcell
          injection e2 with e2
          subst e2
          clear hlead hbad hkl hcell
          obtain ⟨b9v, hb9⟩ : ∃ b, ((k : Int) == 9) = b := ⟨_, rfl⟩
          have c7 : b9v = true → bAt xs k ≤ 1 := by
            intro e
            rw [e, beq_iff_eq] at hb9
            exact c2 (by omega)
          clear c2
          cases b9v
          all_goals
            by_cases c5 : 0 < k
          all_goals
            try have c8 := c7 rfl
            try have c9 := c4 c5
            try have b0 : ((bAt xs k : Int) == 0) = false := by rw [beq_eq_false_iff_ne]; omega
            clear c7 c4
            go_wp2
          all_goals
            go_loop [6, 7] (fun v i => ∃ j : Nat, j ≤ k + 1 ∧ v = .int .u64 (partU xs k j : Nat) ∧ i = .int .i64 ((j : Int) - 1)) (fun _ i => (intOf i + 1).toNat)
            case atStart => exact ⟨k + 1, by omega, by rw [HE.out]; rfl, by go_num⟩
            case round =>
              obtain ⟨j, hj, rfl, rfl⟩ := hrel
              cases j with
              | zero =>
                go_wp2
                go_ret3
                rw [HT.out]
                exact ⟨ret3 rfl (by dsimp only; omega) rfl, rfl⟩
              | succ j =>
                have hcj := HC2.out j (by omega)
                have hp := HP.out (j + 1) (by omega) hj
                have ea := and127 xs j
                have eo := or_shl7' (y := bAt xs j) hp
                have HS2 : Hid (bAt xs j % 128 + 128 * partU xs k (j + 1) = partU xs k j) := (HS.out j (by omega)).symm
                go_wp2
                go_round
                case rel => exact ⟨j, by omega, (by have := HS2.out; go_num), by go_num⟩
                case measure => simp [intOf]
    · obtain rfl : k = n := by omega
      have HT : Hid (takeU xs = (0, 0, 5)) := by
        have hlead : leadU xs = k := leadU_eq xs k (by rw [HL.out]; exact hk) HA.out (.inl HL.out.symm)
        unfold Hid takeU
        rw [hlead, HL.out, if_pos rfl]
      go_wp2
      go_ret3
      rw [HT.out]
      exact ⟨rfl, rfl⟩
end Go.Proofs.Ytkkclkknpjapcaa
/-! ### VintQ -/
namespace Go.Proofs.Ytkkclkknpjapcaa
open Go.RowKit
set_option linter.unusedVariables false
set_option linter.unusedSimpArgs false

theorem or128b {m : Nat} : bits .or .u8 ((m : Int) % 128) 128 = ((UInt8.ofNat (m % 128 + 128)).toNat : Int) := by
  have h := @or128 (m % 128)
  rw [show (((m % 128 : Nat)) : Int) % 256 = (m : Int) % 128 from by omega] at h
  rw [h, show m % 128 % 128 = m % 128 from by omega]
theorem uvarF_next {f m : Nat} (hf : m < 128 ^ f) (hm : ¬ m < 128) : ∃ f', f = f' + 1 ∧ 1 ≤ f' ∧ m / 128 < 128 ^ f' ∧ uvarF f m = UInt8.ofNat (m % 128 + 128) :: uvarF f' (m / 128) := by
  cases f with
  | zero => simp at hf; omega
  | succ f =>
    refine ⟨f, rfl, ?_, ?_, uvarF_big hm⟩
    · cases f with
      | zero => simp at hf; omega
      | succ f => omega
    · rw [Nat.pow_succ] at hf
      exact Nat.div_lt_of_lt_mul (by rw [Nat.mul_comm]; exact hf)
theorem and127_u64 {m : Nat} (hm : m < 18446744073709551616) : bits .and .u64 (m : Int) 127 = (m : Int) % 128 := by
  have h := u64_and_nat m 127 hm (by omega)
  rw [show ((127 : Nat) : Int) = 127 from rfl] at h
  rw [h, show (127 : Nat) = 2 ^ 7 - 1 from rfl, Nat.and_two_pow_sub_one_eq_mod]
  rfl
set_option maxHeartbeats 1000000 in
set_option maxRecDepth 100000 in
theorem refput_any (v0 : Value) (base : Nat) (xs : List UInt8) (g : Nat) (w : World) (h : OB w base v0 xs) (hb : base ≤ w.heap.size) (hg : g < 18446744073709551616) (hsz : xs.length + 10 ≤ 140737488355328) :
    Calls Try.prog 45 #[v0, .int .u64 (g : Int)] w fun e w' => ∃ v, e = .returned v ∧ OB w' base v (xs ++ uvar g) ∧ w.grownBy w' v0.ownBlock ∧ AtRow w.heap.size v0 v := by
  go_enter Try.func45, Try.ntmps45
  go_wp2
  go_loopw [0, 1] (fun v m wr => ∃ (f x : Nat) (out : List UInt8), m = .int .u64 x ∧ OB wr base v out ∧ w.grownBy wr v0.ownBlock ∧ AtRow w.heap.size v0 v ∧ out ++ uvarF f x = xs ++ uvarF 10 g ∧ x < 128 ^ f ∧ 1 ≤ f ∧ x < 18446744073709551616 ∧ out.length + f ≤ xs.length + 10) (fun _ m _ => (intOf m).toNat)
  case atStart => exact ⟨10, g, xs, rfl, h, grown_refl _ _, .inl rfl, rfl, Nat.lt_of_lt_of_le hg pow128_10, by omega, hg, Nat.le_refl _⟩
  case round =>
    obtain ⟨f, x, out, rfl, hown, hgr, hat, he, hx, hf, hx64, hlen⟩ := hrel
    have HX := hid hx
    have HE := hid he
    clear hx he
    have hbw : base ≤ wr.heap.size := Nat.le_trans hb hgr.size
    by_cases hm : x < 128
    · have HL := hid (uvarF_last HE.out hf hm)
      go_wp2_with (at_builtin; refine wpB_append1 wr wr base rfl (.tmp 16) (.tmp 19) rfl u0 out rfl hown (UInt8.ofNat x) _ (by rw [UInt8.toNat_ofNat']; omega) 1 rfl (by omega) (Below.refl _ _) hbw ?_; intro v1 w1 hown1 _ hg1 hat1)
      go_ret
      exact ⟨v1, rfl, by rw [HL.out] at hown1; exact hown1, grown_step hgr hat hg1, hat.trans hat1 hgr.size⟩
    · have ea := and127_u64 hx64
      go_wp2_with (at_builtin; refine wpB_append1 wr wr base rfl (.tmp 7) (.tmp 12) rfl u0 out rfl hown (UInt8.ofNat (x % 128 + 128)) _ (by exact or128b) 1 rfl (by omega) (Below.refl _ _) hbw ?_; intro v1 w1 hown1 _ hg1 hat1)
      obtain ⟨f', rfl, hf1', hmf', he'⟩ := uvarF_round HE.out HX.out hm
      go_roundw
      case rel => exact ⟨f', x / 128, _, rfl, hown1, grown_step hgr hat hg1, hat.trans hat1 hgr.size, he', hmf', hf1', by omega, by simp; omega⟩
      case measure => simp [intOf]; omega
theorem putbytes_any (A : Option Addr) (n c : Nat) (xs : List UInt8) (A' : Option Addr) (m c' : Nat) (ys : List UInt8) (w : World) (h : RB w A n xs) (h' : RB w A' m ys) (hsz : n + m + 10 ≤ 140737488355328) :
    Calls Try.prog 36 #[.slice A n c, .slice A' m c'] w fun e w' => ∃ v, e = .returned v ∧ OB w' w.heap.size v (xs ++ uvar ys.length ++ ys) ∧ Below w.heap.size w w' := by
  have hl := h'.1
  have HL := hid hl
  have hl2 := h.1
  have HL2 := hid hl2
  have hu := uvar_len m
  clear hl hl2
  go_enter Try.func36, Try.ntmps36
  go_wp2_with (first
    | (go_at_call 37; refine (put_any _ _ _ xs m _ h (by omega) (by omega)).mono ?_; rintro e w1 ⟨v1, rfl, hown1, hB1⟩)
    | (at_builtin; refine wpB_append w w1 w.heap.size rfl (.tmp 9) (.tmp 10) rfl v1 _ rfl hown1 A' m c' ys rfl (h'.below hB1) (by rw [List.length_append, HL.out, HL2.out]; omega) hB1 hB1.size ?_; intro v2 w2 hown2 hB2 _ _))
  go_ret
  exact ⟨v2, rfl, by rw [HL.out]; exact hown2, hB2⟩
theorem refputbytes_any (v0 : Value) (base : Nat) (xs : List UInt8) (A' : Option Addr) (m c' : Nat) (ys : List UInt8) (w : World) (h : OB w base v0 xs) (hb : base ≤ w.heap.size) (h' : RB w A' m ys) (hne : 0 < m → ∀ ad, A' = some ad → v0.ownBlock ≠ some ad.block) (hsz : xs.length + m + 10 ≤ 140737488355328) :
    Calls Try.prog 44 #[v0, .slice A' m c'] w fun e w' => ∃ v, e = .returned v ∧ OB w' base v (xs ++ uvar ys.length ++ ys) ∧ w.grownBy w' v0.ownBlock ∧ AtRow w.heap.size v0 v := by
  have hl := h'.1
  have HL := hid hl
  have hu := uvar_len m
  have HN := hid hne
  clear hl hne
  go_enter Try.func44, Try.ntmps44
  go_wp2_with (first
    | (go_at_call 45; refine (refput_any v0 base xs m _ h hb (by omega) (by omega)).mono ?_; rintro e w1 ⟨v1, rfl, hown1, hg1, hat1⟩)
    | (at_builtin; refine wpB_append w1 w1 base rfl (.tmp 9) (.tmp 10) rfl v1 _ rfl hown1 A' m c' ys rfl (h'.keep fun ad e j hj hc => hg1.cell hc (by rw [block_of_add]; exact Ne.symm (HN.out (by omega) ad e))) (by rw [List.length_append, HL.out]; omega) (Below.refl _ _) (Nat.le_trans hb hg1.size) ?_; intro v2 w2 hown2 hB2 hg2 hat2))
  go_ret
  exact ⟨v2, rfl, by rw [HL.out]; exact hown2, grown_step hg1 hat1 hg2, hat1.trans hat2 hg1.size⟩
end Go.Proofs.Ytkkclkknpjapcaa
/-! ### VintT -/
namespace Go.Proofs.Ytkkclkknpjapcaa
open Go.RowKit
set_option linter.unusedVariables false
set_option linter.unusedSimpArgs false

/-- Bytes with their length at the front: they, how many bytes all has, the error. -/
def takeB (l : List UInt8) (most : Int) : List UInt8 × Nat × Nat :=
  if (takeU l).2.2 ≠ 0 then ([], 0, (takeU l).2.2)
  else if most < 0 ∨ most < ((takeU l).1 : Int) then ([], 0, 2)
  else if l.length - (takeU l).2.1 < (takeU l).1 then ([], 0, 5)
  else ((l.drop (takeU l).2.1).take (takeU l).1, (takeU l).2.1 + (takeU l).1, 0)
theorem tup3 {v : Value} {a b a' b' : Int} (h1 : a = a') (h2 : b = b') : Ending.returned (.tuple #[v, .int .i64 a, .int .i64 b]) = .returned (.tuple #[v, .int .i64 a', .int .i64 b']) := by rw [h1, h2]
set_option maxHeartbeats 4000000 in
set_option maxRecDepth 100000 in
theorem takebytes_any (A : Option Addr) (n c : Nat) (xs : List UInt8) (most : Int) (w : World) (h : RB w A n xs) (hc : n ≤ c) (hm : -9223372036854775808 ≤ most ∧ most ≤ 9223372036854775807) (hsz : n ≤ 140737488355328) :
    Calls Try.prog 75 #[.slice A n c, .int .i64 most] w fun e w' => ∃ v, e = .returned (.tuple #[v, .int .i64 ((takeB xs most).2.1 : Nat), .int .i64 ((takeB xs most).2.2 : Nat)]) ∧ OB w' w.heap.size v (takeB xs most).1 ∧ Below w.heap.size w w' := by
  have hl := h.1
  have HL := hid hl
  obtain ⟨u, k, er, hT, hu, hk, hk10, her⟩ : ∃ u k er, takeU xs = (u, k, er) ∧ u < 18446744073709551616 ∧ k ≤ n ∧ k ≤ 10 ∧ er ≤ 5 := by
    have := takeU_lt xs
    rw [hl] at this
    exact ⟨_, _, _, rfl, this⟩
  have HT := hid hT
  clear hl hT
  obtain ⟨m1, m2⟩ := hm
  have HC := take_any A n c xs w h
  rw [HT.out] at HC
  have HC' := hid HC
  clear HC
  by_cases he : er = 0
  · have HB : Hid (takeB xs most = if most < 0 ∨ most < (u : Int) then ([], 0, 2) else if n - k < u then ([], 0, 5) else ((xs.drop k).take u, k + u, 0)) := by
      unfold Hid takeB
      rw [HT.out, HL.out]
      simp [he]
    subst he
    by_cases hneg : most < 0
    · have HR : Hid (takeB xs most = ([], 0, 2)) := by rw [HB.out, if_pos (.inl hneg)]; rfl
      go_enter Try.func75, Try.ntmps75
      go_wp2_with (go_at_call 76; refine (HC'.out).mono ?_; rintro e w' ⟨rfl, rfl⟩)
      go_ret3
      rw [HR.out]
      exact ⟨_, rfl, OB.nil _ _, Below.refl _ _⟩
    · obtain ⟨p, rfl⟩ := Int.eq_ofNat_of_zero_le (show 0 ≤ most by omega)
      by_cases hlong : p < u
      · have HR : Hid (takeB xs p = ([], 0, 2)) := by rw [HB.out, if_pos (.inr (by omega))]; rfl
        go_enter Try.func75, Try.ntmps75
        go_wp2_with (go_at_call 76; refine (HC'.out).mono ?_; rintro e w' ⟨rfl, rfl⟩)
        go_ret3
        rw [HR.out]
        exact ⟨_, rfl, OB.nil _ _, Below.refl _ _⟩
      · by_cases hshort : n - k < u
        · have HR : Hid (takeB xs p = ([], 0, 5)) := by rw [HB.out, if_neg (by omega), if_pos hshort]; rfl
          go_enter Try.func75, Try.ntmps75
          go_wp2_with (go_at_call 76; refine (HC'.out).mono ?_; rintro e w' ⟨rfl, rfl⟩)
          go_ret3
          rw [HR.out]
          exact ⟨_, rfl, OB.nil _ _, Below.refl _ _⟩
        · have HR : Hid (takeB xs p = ((xs.drop k).take u, k + u, 0)) := by rw [HB.out, if_neg (by omega), if_neg hshort]; rfl
          obtain ⟨A2, c2, hsl, hrs, hc2⟩ := cutB (A := A) (n := n) (c := c) hc (lo := k) (hi := k + u) (by omega) (by omega) (k : Int) ((k : Int) + (u : Int)) rfl (by omega)
          have hr2 := hrs w xs h
          rw [show k + u - k = u from by omega] at hsl hr2
          have hl2 := hr2.1
          have HL2 := hid hl2
          clear hrs hl2 HB
          go_enter Try.func75, Try.ntmps75
          go_wp2_with (first
            | (go_at_call 76; refine (HC'.out).mono ?_; rintro e w' ⟨rfl, rfl⟩)
            | (at_builtin; refine wpB_append w w w.heap.size rfl (.const (.slice none 0 0)) (.tmp 45) rfl _ [] rfl (OB.nil _ _) A2 u c2 _ rfl hr2 (by rw [HL2.out]; simp; omega) (Below.refl _ _) (Nat.le_refl _) ?_; intro v1 w1 hown1 hB1 _ _))
          go_ret3
          rw [HR.out]
          exact ⟨v1, tup3 (by dsimp only; omega) rfl, hown1, hB1⟩
  · have HR : Hid (takeB xs most = ([], 0, er)) := by
      unfold Hid takeB
      rw [HT.out, if_pos he]
    have hne : ((er : Int) != 0) = true := by rw [bne_iff_ne]; omega
    go_enter Try.func75, Try.ntmps75
    go_wp2_with (go_at_call 76; refine (HC'.out).mono ?_; rintro e w' ⟨rfl, rfl⟩)
    go_ret3
    rw [HR.out]
    exact ⟨_, rfl, OB.nil _ _, Below.refl _ _⟩
end Go.Proofs.Ytkkclkknpjapcaa
