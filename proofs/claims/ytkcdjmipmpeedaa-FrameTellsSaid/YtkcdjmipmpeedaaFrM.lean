/- Layer 6: a row of records, in plain terms. -/
import Derived.Test.YtkcdjmipmpeedaaFrC
import Derived.Test.YtkcdjmipmpeedaaVintZ
namespace Go.Proofs.Ytkcdjmipmpeedaa
open Go.RowKit
set_option linter.unusedVariables false
set_option linter.unusedSimpArgs false

theorem sumR_four (n : Nat) (h : n < 4294967296) : readU (fixedU n 4) = n := by
  rw [fixed_read, show (256 : Nat) ^ 4 = 4294967296 from by decide, Nat.mod_eq_of_lt h]
theorem frame_form (r : List UInt8) : ∃ S, S < 4294967296 ∧ sumR (frameR r) = S ∧ frameB r = fixedU S 4 ++ (uvar r.length ++ r) := ⟨_, sumR_lt _, rfl, rfl⟩
/-- A record's frame is taken. -/
theorem ftake_frame {r rest : List UInt8} (hr : r.length ≤ 1048576) : ftakeB (frameB r ++ rest) = (r, (frameB r).length, 0) := by
  obtain ⟨S, hS32, hSS, hfb⟩ := frame_form r
  have h4 : (fixedU S 4).length = 4 := fixedU_len _ _
  have e1 : (frameB r ++ rest).drop 4 = uvar r.length ++ (r ++ rest) := by
    rw [hfb]
    rw [List.append_assoc, List.drop_left' h4, List.append_assoc]
  have e2 : (frameB r ++ rest).take 4 = fixedU S 4 := by
    rw [hfb]
    rw [List.append_assoc, List.take_left' h4]
  have hT := takeU_uvar (g := r.length) (by omega) (r ++ rest)
  have hlen : (frameB r ++ rest).length = 4 + (uvar r.length).length + r.length + rest.length := by
    rw [hfb]
    simp only [List.length_append, h4]
    omega
  have hfl : (frameB r).length = 4 + (uvar r.length).length + r.length := by
    rw [hfb]
    simp only [List.length_append, h4]
    omega
  unfold ftakeB
  rw [if_neg (by omega), e1, hT, e2]
  simp only []
  rw [if_neg (by omega), if_neg (by omega), if_neg (by omega), if_neg]
  · rw [hfl]
    have e3 : (frameB r ++ rest).drop (4 + (uvar r.length).length) = r ++ rest := by
      rw [← List.drop_drop, e1, List.drop_left' rfl]
    rw [e3, List.take_left' rfl]
  · have e4 : (uvar r.length ++ (r ++ rest)).take ((uvar r.length).length + r.length) = frameR r := by
      unfold frameR
      rw [← List.append_assoc, List.take_left' (by rw [List.length_append])]
    rw [e4, sumR_four _ hS32, hSS]
    simp
theorem frameB_ne {r : List UInt8} : 5 ≤ (frameB r).length := by
  have := uvar_pos r.length
  unfold frameB frameR
  simp only [List.length_append, fixedU_len]
  omega
/-- A frame that is cut off is none. -/
theorem ftake_cut {r : List UInt8} {c : Nat} (hr : r.length ≤ 1048576) (hc : c < (frameB r).length) : (ftakeB ((frameB r).take c)).2.2 ≠ 0 := by
  obtain ⟨S, hS32, hSS, hfb⟩ := frame_form r
  have h4 : (fixedU S 4).length = 4 := fixedU_len _ _
  have hfl : (frameB r).length = 4 + (uvar r.length).length + r.length := by
    rw [hfb]
    simp only [List.length_append, h4]
    omega
  have hl : ((frameB r).take c).length = c := by rw [List.length_take]; omega
  unfold ftakeB
  by_cases hc4 : c < 4
  · rw [if_pos (by omega)]; simp
  · rw [if_neg (by omega)]
    have e1 : ((frameB r).take c).drop 4 = (uvar r.length ++ r).take (c - 4) := by
      rw [hfb]
      rw [List.drop_take, List.drop_left' h4]
    rw [e1]
    by_cases hcu : c - 4 < (uvar r.length).length
    · have e2 : (uvar r.length ++ r).take (c - 4) = (uvar r.length).take (c - 4) := List.take_append_of_le_length (by omega)
      rw [e2, takeU_cut (by omega) hcu, if_pos (by simp)]
      simp
    · have e2 : (uvar r.length ++ r).take (c - 4) = uvar r.length ++ r.take (c - 4 - (uvar r.length).length) := by
        rw [List.take_append, List.take_of_length_le (by omega)]
      rw [e2, takeU_uvar (by omega), if_neg (by simp)]
      simp only []
      rw [if_neg (by omega), if_pos (by omega)]
      simp
def catF (xss : List (List UInt8)) : Nat → List UInt8
  | 0 => []
  | k + 1 => catF xss k ++ frameB (elt [] xss k)
def Rows1 (n : Nat) (xss : List (List UInt8)) : Prop := n ≤ 20 ∧ ∀ j, j < n → (elt [] xss j).length ≤ 2000
theorem catF_len {xss : List (List UInt8)} {n : Nat} (h : ∀ j, j < n → (elt [] xss j).length ≤ 2000) : ∀ k, k ≤ n → (catF xss k).length ≤ 2014 * k := by
  intro k
  induction k with
  | zero => intro _; simp [catF]
  | succ k ih =>
    intro hk
    have := ih (by omega)
    have h1 := frameB_len (elt [] xss k)
    have h2 := h k (by omega)
    rw [catF, List.length_append]
    omega
theorem catF_step (xss : List (List UInt8)) (k : Nat) : (catF xss k).length + 5 ≤ (catF xss (k + 1)).length := by
  have := @frameB_ne (elt [] xss k)
  rw [catF, List.length_append]
  omega
theorem catF_mono (xss : List (List UInt8)) {a b : Nat} (h : a ≤ b) : (catF xss a).length ≤ (catF xss b).length := by
  induction b with
  | zero =>
    have h0 : a = 0 := Nat.le_zero.1 h
    subst h0
    exact Nat.le_refl _
  | succ b ih =>
    by_cases hab : a = b + 1
    · subst hab; exact Nat.le_refl _
    · have := ih (by omega)
      have := catF_step xss b
      omega
theorem catF_lt (xss : List (List UInt8)) {a b : Nat} (h : a < b) : (catF xss a).length < (catF xss b).length := by
  have h1 := catF_mono xss (show a + 1 ≤ b from h)
  have h2 := catF_step xss a
  omega
theorem scan_cat {xss : List (List UInt8)} {n : Nat} (hn : xss.length = n) (h : ∀ j, j < n → (elt [] xss j).length ≤ 2000) : ∀ (m : Nat) (rest : List UInt8), m ≤ n → scanB (catF xss m ++ rest) = (xss.take m ++ (scanB rest).1, (catF xss m).length + (scanB rest).2) := by
  intro m
  induction m with
  | zero => intro rest _; simp [catF]
  | succ m ih =>
    intro rest hm
    have hr := h m (by omega)
    have hf := ftake_frame (r := elt [] xss m) (rest := rest) (by omega)
    have hne : frameB (elt [] xss m) ++ rest ≠ [] := by
      intro e
      have := congrArg List.length e
      rw [List.length_append, List.length_nil] at this
      have h5 := @frameB_ne (elt [] xss m)
      omega
    rw [catF, List.append_assoc, ih _ (by omega), scanB_next hne (by rw [hf]), hf]
    simp only [List.drop_left' rfl]
    rw [take_succ_elt [] (by omega)]
    simp [Nat.add_assoc]
/-- How many records lie whole ahead of a place. -/
theorem whole_ones (xss : List (List UInt8)) (n c : Nat) : ∃ m, m ≤ n ∧ (catF xss m).length ≤ c ∧ (m = n ∨ c < (catF xss (m + 1)).length) := by
  induction n with
  | zero => exact ⟨0, Nat.le_refl _, by simp [catF], .inl rfl⟩
  | succ n ih =>
    obtain ⟨m, h1, h2, h3⟩ := ih
    rcases h3 with h3 | h3
    · subst h3
      by_cases h : (catF xss (m + 1)).length ≤ c
      · exact ⟨m + 1, Nat.le_refl _, h, .inl rfl⟩
      · exact ⟨m, by omega, h2, .inr (by omega)⟩
    · exact ⟨m, by omega, h2, .inr h3⟩
theorem catF_drop (xss : List (List UInt8)) {m n : Nat} (h : m ≤ n) : (catF xss n).take (catF xss m).length = catF xss m := by
  induction n with
  | zero =>
    have h0 : m = 0 := Nat.le_zero.1 h
    subst h0
    simp [catF]
  | succ n ih =>
    by_cases hmn : m = n + 1
    · subst hmn; simp
    · have hle : m ≤ n := by omega
      rw [catF, List.take_append_of_le_length (catF_mono xss hle), ih hle]
theorem catF_split (xss : List (List UInt8)) {m n : Nat} (h : m < n) : ∃ t, catF xss n = catF xss m ++ (frameB (elt [] xss m) ++ t) := by
  have h1 := catF_drop xss (show m + 1 ≤ n from h)
  refine ⟨(catF xss n).drop (catF xss (m + 1)).length, ?_⟩
  conv => lhs; rw [← List.take_append_drop (catF xss (m + 1)).length (catF xss n), h1]
  rw [catF, List.append_assoc]
/-- A row of records that is cut off: the whole ones ahead, and where the last of them ends. -/
theorem scan_cutoff {xss : List (List UInt8)} {n m c : Nat} (hn : xss.length = n) (h : ∀ j, j < n → (elt [] xss j).length ≤ 2000) (hm : m ≤ n) (h1 : (catF xss m).length ≤ c) (h2 : m = n ∨ c < (catF xss (m + 1)).length) (hc : c ≤ (catF xss n).length) : scanB ((catF xss n).take c) = (xss.take m, (catF xss m).length) := by
  rcases Nat.lt_or_ge m n with hlt | hge
  · have h2' : c < (catF xss (m + 1)).length := by
      rcases h2 with h2 | h2
      · omega
      · exact h2
    obtain ⟨t, ht⟩ := catF_split xss hlt
    have e : (catF xss n).take c = catF xss m ++ (frameB (elt [] xss m)).take (c - (catF xss m).length) := by
      rw [ht, List.take_append, List.take_of_length_le h1]
      rw [catF, List.length_append] at h2'
      rw [List.take_append_of_le_length (by omega)]
    rw [e, scan_cat hn h m _ hm]
    have hz : scanB ((frameB (elt [] xss m)).take (c - (catF xss m).length)) = ([], 0) := by
      apply scanB_stop
      rw [catF, List.length_append] at h2'
      exact ftake_cut (by have := h m hlt; omega) (by omega)
    rw [hz]
    simp
  · obtain rfl : m = n := by omega
    have hcc : c = (catF xss m).length := by omega
    rw [List.take_of_length_le (by omega)]
    have := scan_cat hn h m [] (Nat.le_refl _)
    rw [scanB_nil, List.append_nil, List.append_nil] at this
    simpa using this
end Go.Proofs.Ytkcdjmipmpeedaa
