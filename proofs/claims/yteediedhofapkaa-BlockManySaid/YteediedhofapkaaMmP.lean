/- Layer 9: the order of keys and numbers, in plain terms. -/
import Derived.Test.YteediedhofapkaaMmM
namespace Go.Proofs.Yteediedhofapkaa
open Go.RowKit
set_option linter.unusedVariables false
set_option linter.unusedSimpArgs false

theorem cmpB_cons (x y : UInt8) (xs ys : List UInt8) : cmpB (x :: xs) (y :: ys) = if x < y then -1 else if y < x then 1 else cmpB xs ys := rfl
theorem cmpB_swap : ∀ (xs ys : List UInt8), cmpB ys xs = - cmpB xs ys := by
  intro xs
  induction xs with
  | nil => intro ys; cases ys <;> rfl
  | cons x xs ih =>
    intro ys
    cases ys with
    | nil => rfl
    | cons y ys =>
      rw [cmpB_cons, cmpB_cons, ih ys]
      by_cases h1 : x < y
      · have h2 : ¬ y < x := by
          intro h
          have a : x.toNat < y.toNat := h1
          have b : y.toNat < x.toNat := h
          omega
        rw [if_neg h2, if_pos h1, if_pos h1]
        decide
      · rw [if_neg h1, if_neg h1]
        by_cases h2 : y < x
        · rw [if_pos h2, if_pos h2]
        · rw [if_neg h2, if_neg h2]
theorem cmpB_trans : ∀ (xs ys zs : List UInt8), cmpB xs ys < 0 → cmpB ys zs < 0 → cmpB xs zs < 0 := by
  intro xs
  induction xs with
  | nil =>
    intro ys zs h1 h2
    cases ys with
    | nil => exact h2
    | cons y ys =>
      cases zs with
      | nil => exact absurd h2 (by simp [cmpB, Lib.compareBytes])
      | cons z zs => exact h1
  | cons x xs ih =>
    intro ys zs h1 h2
    cases ys with
    | nil => exact absurd h1 (by simp [cmpB, Lib.compareBytes])
    | cons y ys =>
      cases zs with
      | nil => exact absurd h2 (by simp [cmpB, Lib.compareBytes])
      | cons z zs =>
        rw [cmpB_cons] at h1 h2 ⊢
        by_cases a1 : x < y
        · have b1 : x.toNat < y.toNat := a1
          by_cases a2 : y < z
          · have b2 : y.toNat < z.toNat := a2
            rw [if_pos (show x < z from (by show x.toNat < z.toNat; omega))]; decide
          · rw [if_neg a2] at h2
            by_cases a3 : z < y
            · rw [if_pos a3] at h2; omega
            · have b2 : ¬ y.toNat < z.toNat := a2
              have b3 : ¬ z.toNat < y.toNat := a3
              rw [if_pos (show x < z from (by show x.toNat < z.toNat; omega))]; decide
        · rw [if_neg a1] at h1
          by_cases a1' : y < x
          · rw [if_pos a1'] at h1; omega
          · rw [if_neg a1'] at h1
            have b1 : ¬ x.toNat < y.toNat := a1
            have b1' : ¬ y.toNat < x.toNat := a1'
            by_cases a2 : y < z
            · have b2 : y.toNat < z.toNat := a2
              rw [if_pos (show x < z from (by show x.toNat < z.toNat; omega))]; decide
            · rw [if_neg a2] at h2
              by_cases a3 : z < y
              · rw [if_pos a3] at h2; omega
              · rw [if_neg a3] at h2
                have b2 : ¬ y.toNat < z.toNat := a2
                have b3 : ¬ z.toNat < y.toNat := a3
                rw [if_neg (show ¬ x < z from fun h => by have : x.toNat < z.toNat := h; omega), if_neg (show ¬ z < x from fun h => by have : z.toNat < x.toNat := h; omega)]
                exact ih ys zs h1 h2
theorem aheadK_iff {e : EntR} {key : List UInt8} {s : Int} : aheadK e key s = true ↔ (cmpB (eKey e) key < 0 ∨ (eKey e = key ∧ s < eSeq e)) := by
  unfold aheadK
  rw [decide_eq_true_iff, cmpB_zero]
theorem aheadK_not {e : EntR} {key : List UInt8} {s : Int} : aheadK e key s = false ↔ (0 < cmpB (eKey e) key ∨ (eKey e = key ∧ eSeq e ≤ s)) := by
  unfold aheadK
  rw [decide_eq_false_iff_not, cmpB_zero]
  constructor
  · intro h
    by_cases hk : eKey e = key
    · exact .inr ⟨hk, by rcases Int.lt_or_le s (eSeq e) with h1 | h1; exact absurd (.inr ⟨hk, h1⟩) h; exact h1⟩
    · refine .inl ?_
      have h0 : cmpB (eKey e) key ≠ 0 := fun h0 => hk ((cmpB_zero _ _).1 h0)
      have h1 : ¬ cmpB (eKey e) key < 0 := fun h1 => h (.inl h1)
      omega
  · rintro (h | ⟨h1, h2⟩) h3
    · rcases h3 with h3 | ⟨h3, _⟩
      · omega
      · rw [(cmpB_zero _ _).2 h3] at h; omega
    · rcases h3 with h3 | ⟨_, h3⟩
      · rw [(cmpB_zero _ _).2 h1] at h3; omega
      · omega
/-- An entry ahead of another one. -/
def aheadE (a b : EntR) : Bool := aheadK a (eKey b) (eSeq b)
theorem ahead_trans {a b : EntR} {key : List UInt8} {s : Int} (h1 : aheadE a b = true) (h2 : aheadK b key s = true) : aheadK a key s = true := by
  rw [aheadE, aheadK_iff] at h1
  rw [aheadK_iff] at h2 ⊢
  rcases h1 with h1 | ⟨h1, h1'⟩
  · rcases h2 with h2 | ⟨h2, h2'⟩
    · exact .inl (cmpB_trans _ _ _ h1 h2)
    · rw [← h2]; exact .inl h1
  · rcases h2 with h2 | ⟨h2, h2'⟩
    · rw [h1]; exact .inl h2
    · exact .inr ⟨h1.trans h2, by omega⟩
theorem ahead_irrefl (a : EntR) : aheadE a a = false := by
  rw [aheadE, aheadK_not]
  exact .inr ⟨rfl, Int.le_refl _⟩
/-- Two entries of which neither is ahead have one key and one number. -/
theorem ahead_total {a b : EntR} (h1 : aheadE a b = false) (h2 : aheadE b a = false) : eKey a = eKey b ∧ eSeq a = eSeq b := by
  rw [aheadE, aheadK_not] at h1 h2
  rcases h1 with h1 | ⟨h1, h1'⟩
  · rcases h2 with h2 | ⟨h2, h2'⟩
    · rw [cmpB_swap] at h2; omega
    · rw [h2, (cmpB_zero _ _).2 rfl] at h1; omega
  · rcases h2 with h2 | ⟨h2, h2'⟩
    · rw [h1, (cmpB_zero _ _).2 rfl] at h2; omega
    · exact ⟨h1, by omega⟩
/-- In order, none twice. -/
def Srt : List EntR → Prop
  | [] => True
  | x :: l => (∀ y ∈ l, aheadE x y = true) ∧ Srt l
/-- What is ahead of a key and a number; what is not. -/
def preK (key : List UInt8) (s : Int) : List EntR → List EntR
  | [] => []
  | x :: l => if aheadK x key s then x :: preK key s l else []
def sufK (key : List UInt8) (s : Int) : List EntR → List EntR
  | [] => []
  | x :: l => if aheadK x key s then sufK key s l else x :: l
theorem pre_suf (key : List UInt8) (s : Int) (l : List EntR) : preK key s l ++ sufK key s l = l := by
  induction l with
  | nil => rfl
  | cons x l ih =>
    rw [preK, sufK]
    cases aheadK x key s
    · rfl
    · simp only [if_true, List.cons_append]; rw [ih]
theorem pre_all {key : List UInt8} {s : Int} {l : List EntR} : ∀ x ∈ preK key s l, aheadK x key s = true := by
  induction l with
  | nil => intro x h; cases h
  | cons y l ih =>
    intro x h
    rw [preK] at h
    cases hy : aheadK y key s
    · rw [hy] at h; cases h
    · rw [hy] at h
      rcases List.mem_cons.1 h with rfl | h
      · exact hy
      · exact ih x h
theorem suf_none {key : List UInt8} {s : Int} {l : List EntR} (hs : Srt l) : ∀ x ∈ sufK key s l, aheadK x key s = false := by
  induction l with
  | nil => intro x h; cases h
  | cons y l ih =>
    intro x h
    rw [sufK] at h
    cases hy : aheadK y key s
    · rw [hy] at h
      simp only [Bool.false_eq_true, if_false] at h
      rcases List.mem_cons.1 h with rfl | h
      · exact hy
      · cases hx : aheadK x key s
        · rfl
        · rw [ahead_trans (hs.1 x h) hx] at hy; cases hy
    · rw [hy] at h
      exact ih hs.2 x h
theorem Srt.app {l m : List EntR} (h1 : Srt l) (h2 : Srt m) (h3 : ∀ x ∈ l, ∀ y ∈ m, aheadE x y = true) : Srt (l ++ m) := by
  induction l with
  | nil => exact h2
  | cons x l ih =>
    refine ⟨fun y hy => ?_, ih h1.2 fun z hz => h3 z (by simp [hz])⟩
    rcases List.mem_append.1 hy with hy | hy
    · exact h1.1 y hy
    · exact h3 x (by simp) y hy
theorem Srt.parts {l m : List EntR} (h : Srt (l ++ m)) : Srt l ∧ Srt m ∧ ∀ x ∈ l, ∀ y ∈ m, aheadE x y = true := by
  induction l with
  | nil => exact ⟨trivial, h, fun x hx => by cases hx⟩
  | cons x l ih =>
    obtain ⟨h1, h2⟩ := h
    obtain ⟨i1, i2, i3⟩ := ih h2
    refine ⟨⟨fun y hy => h1 y (List.mem_append_left _ hy), i1⟩, i2, fun z hz y hy => ?_⟩
    rcases List.mem_cons.1 hz with rfl | hz
    · exact h1 y (List.mem_append_right _ hy)
    · exact i3 z hz y hy
/-- Is there one with this key and this number? -/
def hasE (l : List EntR) (e : EntR) : Bool := match sufK (eKey e) (eSeq e) l with | [] => false | x :: _ => decide (eSeq x = eSeq e) && decide (eKey x = eKey e)
def insE (l : List EntR) (e : EntR) : List EntR := preK (eKey e) (eSeq e) l ++ e :: sufK (eKey e) (eSeq e) l
/-- An entry put into its place, where there is none like it. -/
def putE (l : List EntR) (e : EntR) : List EntR := if hasE l e then l else insE l e
theorem ins_srt {l : List EntR} {e : EntR} (h : Srt l) (hn : hasE l e = false) : Srt (insE l e) := by
  have hp := pre_suf (eKey e) (eSeq e) l
  have h' := h
  rw [← hp] at h'
  obtain ⟨h1, h2, h3⟩ := h'.parts
  refine h1.app ⟨fun y hy => ?_, h2⟩ fun x hx y hy => ?_
  · have hall := suf_none (key := eKey e) (s := eSeq e) h
    unfold hasE at hn
    cases hsf : sufK (eKey e) (eSeq e) l with
    | nil => rw [hsf] at hy; cases hy
    | cons z m =>
      rw [hsf] at hn hy hall h2
      have hz : aheadE e z = true := by
        cases hez : aheadE e z
        · obtain ⟨k1, k2⟩ := ahead_total (a := z) (b := e) (hall z (by simp)) hez
          simp [k1, k2] at hn
        · rfl
      rcases List.mem_cons.1 hy with rfl | hy
      · exact hz
      · exact ahead_trans hz (h2.1 y hy)
  · have hx' := pre_all x hx
    rcases List.mem_cons.1 hy with rfl | hy
    · exact hx'
    · exact h3 x hx y hy
theorem put_srt {l : List EntR} {e : EntR} (h : Srt l) : Srt (putE l e) := by
  unfold putE
  cases hn : hasE l e
  · exact ins_srt h hn
  · exact h
end Go.Proofs.Yteediedhofapkaa
