/- Shared texts, part S05: MmI, MmP, MmJ. -/
import Derived.Deep.RegionWith
import Derived.Deep.DeepCutAuto
import Derived.BigQuiet
import Derived.BigRegion
import Derived.Test.YtkkclkknpjapcaaDoorS03
import Derived.Test.YtkkclkknpjapcaaDoorS04
/-! ### MmI -/
namespace Go.Proofs.YtkkclkknpjapcaaDoor
open Go.RowKit
set_option linter.unusedVariables false
set_option linter.unusedSimpArgs false

set_option maxHeartbeats 16000000 in
theorem sameentry_any (A1 : Option Addr) (n1 c1 : Nat) (B1 : Option Addr) (m1 d1 : Nat) (A2 : Option Addr) (n2 c2 : Nat) (B2 : Option Addr) (m2 d2 : Nat) (q : Int) (g : Bool) (t : Int) (key val : List UInt8) (w : World)
    (h1 : RB w A1 n1 key) (h2 : RB w B1 m1 val) (h3 : RB w A2 n2 key) (h4 : RB w B2 m2 val) :
    Calls Tryd.prog 12 #[.agg #[.slice A1 n1 c1, .int .i64 q, .bool g, .int .i64 t, .slice B1 m1 d1], .agg #[.slice A2 n2 c2, .int .i64 q, .bool g, .int .i64 t, .slice B2 m2 d2]] w fun e w' => e = .returned (.bool true) ∧ Below w.heap.size w w' := by
  have k1 := fun ob ob' => RB.conv ((h1.alloc ob).alloc ob') c1
  have k2 := fun ob ob' => RB.conv ((h2.alloc ob).alloc ob') d1
  have k3 := fun ob ob' => RB.conv ((h3.alloc ob).alloc ob') c2
  have k4 := fun ob ob' => RB.conv ((h4.alloc ob).alloc ob') d2
  clear h1 h2 h3 h4
  go_enter Tryd.func12, Tryd.ntmps12
  go_wp2
  go_ret
  exact ⟨rfl, below_alloc' (below_alloc' (Below.refl _ _) _) _⟩
set_option maxHeartbeats 16000000 in
set_option maxRecDepth 100000 in
theorem sameentries_any (A1 : Option Addr) (c1 : Nat) (A2 : Option Addr) (c2 n : Nat) (L : List EntR) (w : World) (h1 : REnts w A1 n L) (h2 : REnts w A2 n L) :
    Calls Tryd.prog 13 #[.slice A1 n c1, .slice A2 n c2] w fun e w' => e = .returned (.bool true) ∧ Below w.heap.size w w' := by
  have hm := h1.2.1
  have H1 := hid h1
  have H2 := hid h2
  clear h1 h2
  go_enter Tryd.func13, Tryd.ntmps13
  go_wp2
  go_loopw [13] (fun i wr => ∃ k : Nat, k ≤ n ∧ i = .int .i64 k ∧ Below w.heap.size w wr) (fun i wr => n - (intOf i).toNat)
  case atStart => exact ⟨0, Nat.zero_le _, rfl, Below.refl _ _⟩
  case round =>
    obtain ⟨k, hk, rfl, hBr⟩ := hrel
    by_cases hlt : k < n
    · obtain ⟨ad1, rfl, hc1⟩ := H1.out.at_ hlt
      obtain ⟨ad2, rfl, hc2⟩ := H2.out.at_ hlt
      obtain ⟨Ak, nk, ck, Av, nv, cv, a0, a1, a2, a3, a4, a5, a6, _, _⟩ := hc1
      obtain ⟨Bk, mk, dk, Bv, mv, dv, b0, b1, b2, b3, b4, b5, b6, _, _⟩ := hc2
      generalize elt noEnt L k = x at *
      have a0 := below_cell hBr a0
      have a1 := below_cell hBr a1
      have a2 := below_cell hBr a2
      have a3 := below_cell hBr a3
      have a4 := below_cell hBr a4
      have a5 := a5.below hBr
      have a6 := a6.below hBr
      have b0 := below_cell hBr b0
      have b1 := below_cell hBr b1
      have b2 := below_cell hBr b2
      have b3 := below_cell hBr b3
      have b4 := below_cell hBr b4
      have b5 := b5.below hBr
      have b6 := b6.below hBr
      go_wp2
      apply wp_region_txt [none, none, none, none, none, none, none, none, none, none, none, none, none, none, none, none, some 0, some 1, some 2, some 3, some 4, some 5, some 6, some 7, some 8, some 9, none] [] [] [_, _, _, _, _, _, _, _, _, _] [[], [], [], [], [], [], [], [], [], []]
      case hm => rfl
      case hs => rfl
      case hst => kernel_rfl
      case hput => exact OpsOK.cons (fun _ _ => rfl) (OpsOK.cons (fun _ _ => rfl) (OpsOK.cons (fun _ _ => rfl) (OpsOK.cons (fun _ _ => rfl) (OpsOK.cons (fun _ _ => rfl) (OpsOK.cons (fun _ _ => rfl) (OpsOK.cons (fun _ _ => rfl) (OpsOK.cons (fun _ _ => rfl) (OpsOK.cons (fun _ _ => rfl) (OpsOK.cons (fun _ _ => rfl) (OpsOK.nil))))))))))
      case hops =>
        refine OpsOK.cons ?_ ?_
        · intro u W K hB hd hK
          replace hK := hk_val hK (by decide) (by rfl)
          clear hd
          simp only [lay, Act.put, List.setIfInBounds_toArray, List.set_cons_zero, List.set_cons_succ] at hK ⊢
          go_simp
          exact hK.out _ _ rfl (Below.refl _ _)
        refine OpsOK.cons ?_ ?_
        · intro u W K hB hd hK
          replace hK := hk_val hK (by decide) (by rfl)
          clear hd
          simp only [lay, Act.put, List.setIfInBounds_toArray, List.set_cons_zero, List.set_cons_succ] at hK ⊢
          go_simp
          exact hK.out _ _ rfl (Below.refl _ _)
        refine OpsOK.cons ?_ ?_
        · intro u W K hB hd hK
          have h0 := fact_val (dep_of hd 0 (by kernel_rfl) (by kernel_rfl)) (by decide)
          dsimp only [nth] at h0
          have h1 := fact_val (dep_of hd 1 (by kernel_rfl) (by kernel_rfl)) (by decide)
          dsimp only [nth] at h1
          replace hK := hk_val hK (by decide) (by rfl)
          clear hd
          simp only [lay, Act.put, List.setIfInBounds_toArray, List.set_cons_zero, List.set_cons_succ, h0, h1] at hK ⊢
          go_simp
          exact hK.out _ _ rfl (Below.refl _ _)
        refine OpsOK.cons ?_ ?_
        · intro u W K hB hd hK
          have h2 := fact_val (dep_of hd 2 (by kernel_rfl) (by kernel_rfl)) (by decide)
          dsimp only [nth] at h2
          replace hK := hk_val hK (by decide) (by rfl)
          clear hd
          simp only [lay, Act.put, List.setIfInBounds_toArray, List.set_cons_zero, List.set_cons_succ, h2] at hK ⊢
          have q0 := below_cell hB a0
          have q1 := below_cell hB a1
          have q2 := below_cell hB a2
          have q3 := below_cell hB a3
          have q4 := below_cell hB a4
          go_simp
          exact hK.out _ _ rfl (Below.refl _ _)
        refine OpsOK.cons ?_ ?_
        · intro u W K hB hd hK
          replace hK := hk_val hK (by decide) (by rfl)
          clear hd
          simp only [lay, Act.put, List.setIfInBounds_toArray, List.set_cons_zero, List.set_cons_succ] at hK ⊢
          go_simp
          exact hK.out _ _ rfl (Below.refl _ _)
        refine OpsOK.cons ?_ ?_
        · intro u W K hB hd hK
          replace hK := hk_val hK (by decide) (by rfl)
          clear hd
          simp only [lay, Act.put, List.setIfInBounds_toArray, List.set_cons_zero, List.set_cons_succ] at hK ⊢
          go_simp
          exact hK.out _ _ rfl (Below.refl _ _)
        refine OpsOK.cons ?_ ?_
        · intro u W K hB hd hK
          have h4 := fact_val (dep_of hd 4 (by kernel_rfl) (by kernel_rfl)) (by decide)
          dsimp only [nth] at h4
          have h5 := fact_val (dep_of hd 5 (by kernel_rfl) (by kernel_rfl)) (by decide)
          dsimp only [nth] at h5
          replace hK := hk_val hK (by decide) (by rfl)
          clear hd
          simp only [lay, Act.put, List.setIfInBounds_toArray, List.set_cons_zero, List.set_cons_succ, h4, h5] at hK ⊢
          go_simp
          exact hK.out _ _ rfl (Below.refl _ _)
        refine OpsOK.cons ?_ ?_
        · intro u W K hB hd hK
          have h6 := fact_val (dep_of hd 6 (by kernel_rfl) (by kernel_rfl)) (by decide)
          dsimp only [nth] at h6
          replace hK := hk_val hK (by decide) (by rfl)
          clear hd
          simp only [lay, Act.put, List.setIfInBounds_toArray, List.set_cons_zero, List.set_cons_succ, h6] at hK ⊢
          have q0 := below_cell hB b0
          have q1 := below_cell hB b1
          have q2 := below_cell hB b2
          have q3 := below_cell hB b3
          have q4 := below_cell hB b4
          go_simp
          exact hK.out _ _ rfl (Below.refl _ _)
        refine OpsOK.cons ?_ ?_
        · intro u W K hB hd hK
          have h3 := fact_val (dep_of hd 3 (by kernel_rfl) (by kernel_rfl)) (by decide)
          dsimp only [nth] at h3
          have h7 := fact_val (dep_of hd 7 (by kernel_rfl) (by kernel_rfl)) (by decide)
          dsimp only [nth] at h7
          replace hK := hk_val hK (by decide) (by rfl)
          clear hd
          simp only [lay, Act.put, List.setIfInBounds_toArray, List.set_cons_zero, List.set_cons_succ, h3, h7] at hK ⊢
          go_simp
          first
            | (go_at_call 12; (with_reducible refine (sameentry_any Ak nk ck Av nv cv Bk mk dk Bv mv dv (eSeq x) (eGone x) (eTil x) (eKey x) (eVal x) W (a5.below hB) (a6.below hB) (b5.below hB) (b6.below hB)).mono ?_); rintro e w1 ⟨rfl, hb⟩; exact hK.out _ _ rfl hb)
        refine OpsOK.cons ?_ ?_
        · intro u W K hB hd hK
          have h8 := fact_val (dep_of hd 8 (by kernel_rfl) (by kernel_rfl)) (by decide)
          dsimp only [nth] at h8
          replace hK := hk_val hK (by decide) (by rfl)
          clear hd
          simp only [lay, Act.put, List.setIfInBounds_toArray, List.set_cons_zero, List.set_cons_succ, h8] at hK ⊢
          go_simp
          exact hK.out _ _ rfl (Below.refl _ _)
        exact OpsOK.nil
      intro u W hB hf
      have h0 := fact_val (hf 0 (by decide) (by decide)) (by decide)
      dsimp only [nth] at h0
      have h1 := fact_val (hf 1 (by decide) (by decide)) (by decide)
      dsimp only [nth] at h1
      have h2 := fact_val (hf 2 (by decide) (by decide)) (by decide)
      dsimp only [nth] at h2
      have h3 := fact_val (hf 3 (by decide) (by decide)) (by decide)
      dsimp only [nth] at h3
      have h4 := fact_val (hf 4 (by decide) (by decide)) (by decide)
      dsimp only [nth] at h4
      have h5 := fact_val (hf 5 (by decide) (by decide)) (by decide)
      dsimp only [nth] at h5
      have h6 := fact_val (hf 6 (by decide) (by decide)) (by decide)
      dsimp only [nth] at h6
      have h7 := fact_val (hf 7 (by decide) (by decide)) (by decide)
      dsimp only [nth] at h7
      have h8 := fact_val (hf 8 (by decide) (by decide)) (by decide)
      dsimp only [nth] at h8
      have h9 := fact_val (hf 9 (by decide) (by decide)) (by decide)
      dsimp only [nth] at h9
      clear hf
      simp only [lay, h0, h1, h2, h3, h4, h5, h6, h7, h8, h9]
      clear h0 h1 h2 h3 h4 h5 h6 h7 h8 h9
      go_wp2
      go_roundw
      case rel => exact ⟨k + 1, by omega, by go_num, below_then hBr hB⟩
      case measure => simp [intOf]; omega
    · obtain rfl : k = n := by omega
      go_wp2
      go_ret
      exact ⟨rfl, hBr⟩
end Go.Proofs.YtkkclkknpjapcaaDoor
/-! ### MmP -/
namespace Go.Proofs.YtkkclkknpjapcaaDoor
open Go.RowKit
set_option linter.unusedVariables false
set_option linter.unusedSimpArgs false

theorem cmpB_cons (x y : UInt8) (xs ys : List UInt8) : cmpB (x :: xs) (y :: ys) = if x < y then -1 else if y < x then 1 else cmpB xs ys := rfl
theorem cmpB_swap : ∀ (xs ys : List UInt8), cmpB ys xs = - cmpB xs ys := by
  intro xs
  induction xs with
  | nil => intro ys; cases ys <;> rfl
  | cons x xs ih =>
    intro ys
    cases ys with
    | nil => rfl
    | cons y ys =>
      rw [cmpB_cons, cmpB_cons, ih ys]
      by_cases h1 : x < y
      · have h2 : ¬ y < x := by
          intro h
          have a : x.toNat < y.toNat := h1
          have b : y.toNat < x.toNat := h
          omega
        rw [if_neg h2, if_pos h1, if_pos h1]
        decide
      · rw [if_neg h1, if_neg h1]
        by_cases h2 : y < x
        · rw [if_pos h2, if_pos h2]
        · rw [if_neg h2, if_neg h2]
theorem cmpB_trans : ∀ (xs ys zs : List UInt8), cmpB xs ys < 0 → cmpB ys zs < 0 → cmpB xs zs < 0 := by
  intro xs
  induction xs with
  | nil =>
    intro ys zs h1 h2
    cases ys with
    | nil => exact h2
    | cons y ys =>
      cases zs with
      | nil => exact absurd h2 (by simp [cmpB, Lib.compareBytes])
      | cons z zs => exact h1
  | cons x xs ih =>
    intro ys zs h1 h2
    cases ys with
    | nil => exact absurd h1 (by simp [cmpB, Lib.compareBytes])
    | cons y ys =>
      cases zs with
      | nil => exact absurd h2 (by simp [cmpB, Lib.compareBytes])
      | cons z zs =>
        rw [cmpB_cons] at h1 h2 ⊢
        by_cases a1 : x < y
        · have b1 : x.toNat < y.toNat := a1
          by_cases a2 : y < z
          · have b2 : y.toNat < z.toNat := a2
            rw [if_pos (show x < z from (by show x.toNat < z.toNat; omega))]; decide
          · rw [if_neg a2] at h2
            by_cases a3 : z < y
            · rw [if_pos a3] at h2; omega
            · have b2 : ¬ y.toNat < z.toNat := a2
              have b3 : ¬ z.toNat < y.toNat := a3
              rw [if_pos (show x < z from (by show x.toNat < z.toNat; omega))]; decide
        · rw [if_neg a1] at h1
          by_cases a1' : y < x
          · rw [if_pos a1'] at h1; omega
          · rw [if_neg a1'] at h1
            have b1 : ¬ x.toNat < y.toNat := a1
            have b1' : ¬ y.toNat < x.toNat := a1'
            by_cases a2 : y < z
            · have b2 : y.toNat < z.toNat := a2
              rw [if_pos (show x < z from (by show x.toNat < z.toNat; omega))]; decide
            · rw [if_neg a2] at h2
              by_cases a3 : z < y
              · rw [if_pos a3] at h2; omega
              · rw [if_neg a3] at h2
                have b2 : ¬ y.toNat < z.toNat := a2
                have b3 : ¬ z.toNat < y.toNat := a3
                rw [if_neg (show ¬ x < z from fun h => by have : x.toNat < z.toNat := h; omega), if_neg (show ¬ z < x from fun h => by have : z.toNat < x.toNat := h; omega)]
                exact ih ys zs h1 h2
theorem aheadK_iff {e : EntR} {key : List UInt8} {s : Int} : aheadK e key s = true ↔ (cmpB (eKey e) key < 0 ∨ (eKey e = key ∧ s < eSeq e)) := by
  unfold aheadK
  rw [decide_eq_true_iff, cmpB_zero]
theorem aheadK_not {e : EntR} {key : List UInt8} {s : Int} : aheadK e key s = false ↔ (0 < cmpB (eKey e) key ∨ (eKey e = key ∧ eSeq e ≤ s)) := by
  unfold aheadK
  rw [decide_eq_false_iff_not, cmpB_zero]
  constructor
  · intro h
    by_cases hk : eKey e = key
    · exact .inr ⟨hk, by rcases Int.lt_or_le s (eSeq e) with h1 | h1; exact absurd (.inr ⟨hk, h1⟩) h; exact h1⟩
    · refine .inl ?_
      have h0 : cmpB (eKey e) key ≠ 0 := fun h0 => hk ((cmpB_zero _ _).1 h0)
      have h1 : ¬ cmpB (eKey e) key < 0 := fun h1 => h (.inl h1)
      omega
  · rintro (h | ⟨h1, h2⟩) h3
    · rcases h3 with h3 | ⟨h3, _⟩
      · omega
      · rw [(cmpB_zero _ _).2 h3] at h; omega
    · rcases h3 with h3 | ⟨_, h3⟩
      · rw [(cmpB_zero _ _).2 h1] at h3; omega
      · omega
/-- An entry ahead of another one. -/
def aheadE (a b : EntR) : Bool := aheadK a (eKey b) (eSeq b)
theorem ahead_trans {a b : EntR} {key : List UInt8} {s : Int} (h1 : aheadE a b = true) (h2 : aheadK b key s = true) : aheadK a key s = true := by
  rw [aheadE, aheadK_iff] at h1
  rw [aheadK_iff] at h2 ⊢
  rcases h1 with h1 | ⟨h1, h1'⟩
  · rcases h2 with h2 | ⟨h2, h2'⟩
    · exact .inl (cmpB_trans _ _ _ h1 h2)
    · rw [← h2]; exact .inl h1
  · rcases h2 with h2 | ⟨h2, h2'⟩
    · rw [h1]; exact .inl h2
    · exact .inr ⟨h1.trans h2, by omega⟩
theorem ahead_irrefl (a : EntR) : aheadE a a = false := by
  rw [aheadE, aheadK_not]
  exact .inr ⟨rfl, Int.le_refl _⟩
/-- Two entries of which neither is ahead have one key and one number. -/
theorem ahead_total {a b : EntR} (h1 : aheadE a b = false) (h2 : aheadE b a = false) : eKey a = eKey b ∧ eSeq a = eSeq b := by
  rw [aheadE, aheadK_not] at h1 h2
  rcases h1 with h1 | ⟨h1, h1'⟩
  · rcases h2 with h2 | ⟨h2, h2'⟩
    · rw [cmpB_swap] at h2; omega
    · rw [h2, (cmpB_zero _ _).2 rfl] at h1; omega
  · rcases h2 with h2 | ⟨h2, h2'⟩
    · rw [h1, (cmpB_zero _ _).2 rfl] at h2; omega
    · exact ⟨h1, by omega⟩
/-- In order, none twice. -/
def Srt : List EntR → Prop
  | [] => True
  | x :: l => (∀ y ∈ l, aheadE x y = true) ∧ Srt l
/-- What is ahead of a key and a number; what is not. -/
def preK (key : List UInt8) (s : Int) : List EntR → List EntR
  | [] => []
  | x :: l => if aheadK x key s then x :: preK key s l else []
def sufK (key : List UInt8) (s : Int) : List EntR → List EntR
  | [] => []
  | x :: l => if aheadK x key s then sufK key s l else x :: l
theorem pre_suf (key : List UInt8) (s : Int) (l : List EntR) : preK key s l ++ sufK key s l = l := by
  induction l with
  | nil => rfl
  | cons x l ih =>
    rw [preK, sufK]
    cases aheadK x key s
    · rfl
    · simp only [if_true, List.cons_append]; rw [ih]
theorem pre_all {key : List UInt8} {s : Int} {l : List EntR} : ∀ x ∈ preK key s l, aheadK x key s = true := by
  induction l with
  | nil => intro x h; cases h
  | cons y l ih =>
    intro x h
    rw [preK] at h
    cases hy : aheadK y key s
    · rw [hy] at h; cases h
    · rw [hy] at h
      rcases List.mem_cons.1 h with rfl | h
      · exact hy
      · exact ih x h
theorem suf_none {key : List UInt8} {s : Int} {l : List EntR} (hs : Srt l) : ∀ x ∈ sufK key s l, aheadK x key s = false := by
  induction l with
  | nil => intro x h; cases h
  | cons y l ih =>
    intro x h
    rw [sufK] at h
    cases hy : aheadK y key s
    · rw [hy] at h
      simp only [Bool.false_eq_true, if_false] at h
      rcases List.mem_cons.1 h with rfl | h
      · exact hy
      · cases hx : aheadK x key s
        · rfl
        · rw [ahead_trans (hs.1 x h) hx] at hy; cases hy
    · rw [hy] at h
      exact ih hs.2 x h
theorem Srt.app {l m : List EntR} (h1 : Srt l) (h2 : Srt m) (h3 : ∀ x ∈ l, ∀ y ∈ m, aheadE x y = true) : Srt (l ++ m) := by
  induction l with
  | nil => exact h2
  | cons x l ih =>
    refine ⟨fun y hy => ?_, ih h1.2 fun z hz => h3 z (by simp [hz])⟩
    rcases List.mem_append.1 hy with hy | hy
    · exact h1.1 y hy
    · exact h3 x (by simp) y hy
theorem Srt.parts {l m : List EntR} (h : Srt (l ++ m)) : Srt l ∧ Srt m ∧ ∀ x ∈ l, ∀ y ∈ m, aheadE x y = true := by
  induction l with
  | nil => exact ⟨trivial, h, fun x hx => by cases hx⟩
  | cons x l ih =>
    obtain ⟨h1, h2⟩ := h
    obtain ⟨i1, i2, i3⟩ := ih h2
    refine ⟨⟨fun y hy => h1 y (List.mem_append_left _ hy), i1⟩, i2, fun z hz y hy => ?_⟩
    rcases List.mem_cons.1 hz with rfl | hz
    · exact h1 y (List.mem_append_right _ hy)
    · exact i3 z hz y hy
/-- Is there one with this key and this number? -/
def hasE (l : List EntR) (e : EntR) : Bool := match sufK (eKey e) (eSeq e) l with | [] => false | x :: _ => decide (eSeq x = eSeq e) && decide (eKey x = eKey e)
def insE (l : List EntR) (e : EntR) : List EntR := preK (eKey e) (eSeq e) l ++ e :: sufK (eKey e) (eSeq e) l
/-- An entry put into its place, where there is none like it. -/
def putE (l : List EntR) (e : EntR) : List EntR := if hasE l e then l else insE l e
theorem ins_srt {l : List EntR} {e : EntR} (h : Srt l) (hn : hasE l e = false) : Srt (insE l e) := by
  have hp := pre_suf (eKey e) (eSeq e) l
  have h' := h
  rw [← hp] at h'
  obtain ⟨h1, h2, h3⟩ := h'.parts
  refine h1.app ⟨fun y hy => ?_, h2⟩ fun x hx y hy => ?_
  · have hall := suf_none (key := eKey e) (s := eSeq e) h
    unfold hasE at hn
    cases hsf : sufK (eKey e) (eSeq e) l with
    | nil => rw [hsf] at hy; cases hy
    | cons z m =>
      rw [hsf] at hn hy hall h2
      have hz : aheadE e z = true := by
        cases hez : aheadE e z
        · obtain ⟨k1, k2⟩ := ahead_total (a := z) (b := e) (hall z (by simp)) hez
          simp [k1, k2] at hn
        · rfl
      rcases List.mem_cons.1 hy with rfl | hy
      · exact hz
      · exact ahead_trans hz (h2.1 y hy)
  · have hx' := pre_all x hx
    rcases List.mem_cons.1 hy with rfl | hy
    · exact hx'
    · exact h3 x hx y hy
theorem put_srt {l : List EntR} {e : EntR} (h : Srt l) : Srt (putE l e) := by
  unfold putE
  cases hn : hasE l e
  · exact ins_srt h hn
  · exact h
end Go.Proofs.YtkkclkknpjapcaaDoor
/-! ### MmJ -/
namespace Go.Proofs.YtkkclkknpjapcaaDoor
open Go.RowKit
set_option linter.unusedVariables false
set_option linter.unusedSimpArgs false

def aheadR (a b : EntR) : Int := if cmpB (eKey a) (eKey b) ≠ 0 then cmpB (eKey a) (eKey b) else if eSeq b < eSeq a then -1 else if eSeq a < eSeq b then 1 else 0
theorem aheadR_neg {a b : EntR} : aheadR a b < 0 ↔ aheadE a b = true := by
  rw [aheadE, aheadK_iff]
  unfold aheadR
  by_cases h : cmpB (eKey a) (eKey b) = 0
  · have hk := (cmpB_zero _ _).1 h
    rw [if_neg (by simpa using h)]
    by_cases h1 : eSeq b < eSeq a
    · rw [if_pos h1]; simp [hk, h1]
    · rw [if_neg h1]
      rw [← hk] at h
      split <;> simp [h, hk, h1]
      all_goals (rw [← hk, h]; decide)
  · rw [if_pos h]
    have hk : eKey a ≠ eKey b := fun e => h ((cmpB_zero _ _).2 e)
    simp [hk]
theorem aheadR_zero {a b : EntR} : aheadR a b = 0 ↔ eKey a = eKey b ∧ eSeq a = eSeq b := by
  unfold aheadR
  by_cases h : cmpB (eKey a) (eKey b) = 0
  · have hk := (cmpB_zero _ _).1 h
    rw [if_neg (by simpa using h)]
    by_cases h1 : eSeq b < eSeq a
    · rw [if_pos h1]; simp; omega
    · rw [if_neg h1]
      by_cases h2 : eSeq a < eSeq b
      · rw [if_pos h2]; simp; omega
      · rw [if_neg h2]; simp [hk]; omega
  · rw [if_pos h]
    have hk : eKey a ≠ eKey b := fun e => h ((cmpB_zero _ _).2 e)
    simp [hk, h]
theorem ret_i64 {a b : Int} (h : a = b) : Ending.returned (.int .i64 a) = .returned (.int .i64 b) := by rw [h]
set_option maxHeartbeats 8000000 in
theorem refahead_any (Ak : Option Addr) (nk ck : Nat) (Av : Option Addr) (nv cv : Nat) (a : EntR) (Bk : Option Addr) (mk dk : Nat) (Bv : Option Addr) (mv dv : Nat) (b : EntR) (w : World) (h1 : RB w Ak nk (eKey a)) (h2 : RB w Bk mk (eKey b)) :
    Calls Tryd.prog 45 #[.agg #[.slice Ak nk ck, .int .i64 (eSeq a), .bool (eGone a), .int .i64 (eTil a), .slice Av nv cv], .agg #[.slice Bk mk dk, .int .i64 (eSeq b), .bool (eGone b), .int .i64 (eTil b), .slice Bv mv dv]] w
      fun r w' => r = .returned (.int .i64 (aheadR a b)) ∧ Below w.heap.size w w' := by
  obtain ⟨C, hC⟩ : ∃ C, cmpB (eKey a) (eKey b) = C := ⟨_, rfl⟩
  have HA : Hid (aheadR a b = if C ≠ 0 then C else if eSeq b < eSeq a then -1 else if eSeq a < eSeq b then 1 else 0) := by unfold Hid aheadR; rw [hC]
  have hba := heap_alloc_new w (.cells #[.slice Ak nk ck, .int .i64 (eSeq a), .bool (eGone a), .int .i64 (eTil a), .slice Av nv cv] 29)
  have hbb := heap_alloc_new (w.alloc (.cells #[.slice Ak nk ck, .int .i64 (eSeq a), .bool (eGone a), .int .i64 (eTil a), .slice Av nv cv] 29)) (.cells #[.slice Bk mk dk, .int .i64 (eSeq b), .bool (eGone b), .int .i64 (eTil b), .slice Bv mv dv] 29)
  have e0 : (w.alloc (.cells #[.slice Ak nk ck, .int .i64 (eSeq a), .bool (eGone a), .int .i64 (eTil a), .slice Av nv cv] 29)).heap.size = w.heap.size + 1 := by simp
  rw [e0] at hbb
  have hB : Below w.heap.size w ((w.alloc (.cells #[.slice Ak nk ck, .int .i64 (eSeq a), .bool (eGone a), .int .i64 (eTil a), .slice Av nv cv] 29)).alloc (.cells #[.slice Bk mk dk, .int .i64 (eSeq b), .bool (eGone b), .int .i64 (eTil b), .slice Bv mv dv] 29)) := below_alloc' (below_alloc' (Below.refl _ _) _) _
  have hba := blk_below (below_alloc' (Below.refl _ _) (.cells #[.slice Bk mk dk, .int .i64 (eSeq b), .bool (eGone b), .int .i64 (eTil b), .slice Bv mv dv] 29)) hba
  have H1 := hid (h1.below hB)
  have H2 := hid (h2.below hB)
  have HC := hid hC
  clear h1 h2 hC
  go_enter Tryd.func45, Tryd.ntmps45
  go_wp2_with (go_at_call 61; (with_reducible refine (refcompare_any Ak nk ck (eKey a) Bk mk dk (eKey b) _ H1.out H2.out).mono ?_); rintro r w1 ⟨rfl, hb1⟩; rw [HC.out]; have hB1 := below_then hB hb1; have a1 := box_at (blk_below hb1 hba) 1 (.int .i64 (eSeq a)) rfl; have b1 := box_at (blk_below hb1 hbb) 1 (.int .i64 (eSeq b)) rfl)
  all_goals
    go_ret
    refine ⟨?_, hB1⟩
    rw [HA.out]
    refine ret_i64 ?_
    try simp only [beq_iff_eq, beq_eq_false_iff_ne, bne_iff_ne, bne_eq_false_iff_eq, decide_eq_true_eq, decide_eq_false_iff_not] at *
    first
    | rfl
    | (simp_all; done)
    | ((repeat' split) <;> omega)
    | trace_state
theorem elt_mem' {es : List EntR} {k : Nat} (h : k < es.length) : elt noEnt es k ∈ es := elt_mem h
/-- In order, by neighbours. -/
def ordN (es : List EntR) (k : Nat) : Prop := ∀ i, 1 ≤ i → i < k → aheadE (elt noEnt es (i - 1)) (elt noEnt es i) = true
theorem Srt.at_ {es : List EntR} (h : Srt es) : ∀ i j, i < j → j < es.length → aheadE (elt noEnt es i) (elt noEnt es j) = true := by
  induction es with
  | nil => intro i j _ hj; simp at hj
  | cons x l ih =>
    intro i j hij hj
    obtain ⟨j', rfl⟩ : ∃ j', j = j' + 1 := ⟨j - 1, by omega⟩
    have e : elt noEnt (x :: l) (j' + 1) = elt noEnt l j' := by simp [elt]
    rw [e]
    have hj' : j' < l.length := by simpa using hj
    cases i with
    | zero =>
      have e0 : elt noEnt (x :: l) 0 = x := by simp [elt]
      rw [e0]
      exact h.1 _ (elt_mem hj')
    | succ i =>
      have e1 : elt noEnt (x :: l) (i + 1) = elt noEnt l i := by simp [elt]
      rw [e1]
      exact ih h.2 i j' (by omega) hj'
theorem Srt_ordN {es : List EntR} (h : Srt es) : ordN es es.length := fun i h1 h2 => h.at_ (i - 1) i (by omega) h2
theorem ordN_Srt {es : List EntR} (h : ordN es es.length) : Srt es := by
  induction es with
  | nil => trivial
  | cons x l ih =>
    have hl : Srt l := ih fun i h1 h2 => by
      have := h (i + 1) (by omega) (by simp; omega)
      have e1 : elt noEnt (x :: l) (i + 1) = elt noEnt l i := by simp [elt]
      have e2 : elt noEnt (x :: l) (i + 1 - 1) = elt noEnt l (i - 1) := by
        obtain ⟨i', rfl⟩ : ∃ i', i = i' + 1 := ⟨i - 1, by omega⟩
        simp [elt]
      rwa [e1, e2] at this
    refine ⟨fun y hy => ?_, hl⟩
    cases l with
    | nil => cases hy
    | cons z m =>
      have hz := h 1 (by omega) (by simp)
      have e1 : elt noEnt (x :: z :: m) 1 = z := by simp [elt]
      have e0 : elt noEnt (x :: z :: m) (1 - 1) = x := by simp [elt]
      rw [e0, e1] at hz
      rcases List.mem_cons.1 hy with rfl | hy
      · exact hz
      · exact ahead_trans hz (hl.1 y hy)
noncomputable def srtB (es : List EntR) : Bool := @decide (Srt es) (Classical.propDecidable _)
theorem srtB_true {es : List EntR} (h : Srt es) : srtB es = true := by unfold srtB; simpa using h
theorem srtB_false {es : List EntR} (h : ¬ Srt es) : srtB es = false := by unfold srtB; simpa using h
end Go.Proofs.YtkkclkknpjapcaaDoor
