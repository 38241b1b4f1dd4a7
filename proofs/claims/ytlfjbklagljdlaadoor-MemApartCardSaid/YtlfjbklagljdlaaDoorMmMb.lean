/- Layer 9: the plain laws: what is newest of each key; the first of a row that is handed over piece by piece. -/
import Derived.Test.YtlfjbklagljdlaaDoorMmMa
namespace Go.Proofs.YtlfjbklagljdlaaDoor
open Go.RowKit
set_option linter.unusedVariables false
set_option linter.unusedSimpArgs false

theorem getR_snoc {key : List UInt8} {s : Int} {l : List EntR} {x : EntR} : getR key s (l ++ [x]) = if (getR key s l).2 = true then getR key s l else (if eKey x = key ∧ eSeq x ≤ s then (x, true) else (noEnt, false)) := by
  induction l with
  | nil =>
    rw [List.nil_append, getR, getR]
    simp [getR]
  | cons y l ih =>
    rw [List.cons_append, getR, getR]
    by_cases h : eKey y = key ∧ eSeq y ≤ s
    · rw [if_pos h, if_pos h]; simp
    · rw [if_neg h, if_neg h, ih]
theorem getR_none' {key : List UInt8} {s : Int} {l : List EntR} (h : (getR key s l).2 = false) : getR key s l = (noEnt, false) := by
  induction l with
  | nil => rfl
  | cons x l ih =>
    rw [getR] at h ⊢
    split
    · rename_i hc; rw [if_pos hc] at h; cases h
    · rename_i hc; rw [if_neg hc] at h; exact ih h
theorem getR_take_same {key : List UInt8} {s : Int} {es : List EntR} {k : Nat} (hk : k < es.length) (h : (getR key s (es.take k)).2 = true) : getR key s (es.take (k + 1)) = getR key s (es.take k) := by
  rw [take_succ_elt noEnt hk, getR_snoc, if_pos h]
theorem getR_take_yes {key : List UInt8} {s : Int} {es : List EntR} {k : Nat} (hk : k < es.length) (h : (getR key s (es.take k)).2 = false) (h1 : eKey (elt noEnt es k) = key) (h2 : eSeq (elt noEnt es k) ≤ s) : getR key s (es.take (k + 1)) = (elt noEnt es k, true) := by
  rw [take_succ_elt noEnt hk, getR_snoc, if_neg (by rw [h]; simp), if_pos ⟨h1, h2⟩]
theorem getR_take_no {key : List UInt8} {s : Int} {es : List EntR} {k : Nat} (hk : k < es.length) (h : (getR key s (es.take k)).2 = false) (h1 : ¬ (eKey (elt noEnt es k) = key ∧ eSeq (elt noEnt es k) ≤ s)) : getR key s (es.take (k + 1)) = (noEnt, false) := by
  rw [take_succ_elt noEnt hk, getR_snoc, if_neg (by rw [h]; simp), if_neg h1]
/-! ## Of each key what Get tells -/
def wantF (s : Int) (es : List EntR) : Option (List UInt8) → List EntR → List EntR
  | _, [] => []
  | last, x :: l => if last = some (eKey x) then wantF s es last l else (if (getR (eKey x) s es).2 = true ∧ eGone (getR (eKey x) s es).1 = false then (getR (eKey x) s es).1 :: wantF s es (some (eKey x)) l else wantF s es (some (eKey x)) l)
def dropK (k : List UInt8) : List EntR → List EntR
  | [] => []
  | x :: l => if eKey x = k then dropK k l else x :: l
def takeK (k : List UInt8) : List EntR → List EntR
  | [] => []
  | x :: l => if eKey x = k then x :: takeK k l else []
theorem take_drop_K (k : List UInt8) (l : List EntR) : takeK k l ++ dropK k l = l := by
  induction l with
  | nil => rfl
  | cons x l ih =>
    rw [takeK, dropK]
    split
    · rw [List.cons_append, ih]
    · rfl
theorem takeK_key {k : List UInt8} {l : List EntR} : ∀ x ∈ takeK k l, eKey x = k := by
  induction l with
  | nil => intro x h; cases h
  | cons y l ih =>
    intro x h
    rw [takeK] at h
    split at h
    · rcases List.mem_cons.1 h with rfl | h
      · assumption
      · exact ih x h
    · cases h
theorem dropK_sub {k : List UInt8} {l : List EntR} : ∀ x ∈ dropK k l, x ∈ l := by
  intro x hx
  rw [← take_drop_K k l]
  exact List.mem_append_right _ hx
theorem dropK_len (k : List UInt8) (l : List EntR) : (dropK k l).length ≤ l.length := by
  have := congrArg List.length (take_drop_K k l)
  rw [List.length_append] at this
  omega
theorem seenF_drop (s : Int) (k : List UInt8) (l : List EntR) : seenF s (some k) l = seenF s (some k) (dropK k l) := by
  induction l with
  | nil => rfl
  | cons x l ih =>
    rw [dropK]
    split
    · rename_i h
      rw [seenF, if_neg (by rw [h]; simp)]
      exact ih
    · rfl
theorem wantF_drop (s : Int) (es : List EntR) (k : List UInt8) (l : List EntR) : wantF s es (some k) l = wantF s es (some k) (dropK k l) := by
  induction l with
  | nil => rfl
  | cons x l ih =>
    rw [dropK]
    split
    · rename_i h
      rw [wantF, if_pos (by rw [h])]
      exact ih
    · rfl
theorem dropK_ne {k : List UInt8} {l : List EntR} (hs : Srt l) (hk : ∀ x ∈ l, cmpB k (eKey x) ≤ 0) : ∀ x ∈ dropK k l, cmpB k (eKey x) < 0 := by
  induction l with
  | nil => intro x h; cases h
  | cons y l ih =>
    intro x hx
    rw [dropK] at hx
    split at hx
    · exact ih hs.2 (fun z hz => hk z (by simp [hz])) x hx
    · rename_i hy
      have hy0 := hk y (by simp)
      have hy1 : cmpB k (eKey y) ≠ 0 := fun e => hy ((cmpB_zero _ _).1 e).symm
      rcases List.mem_cons.1 hx with rfl | hx
      · omega
      · have h1 := hs.keys x hx
        by_cases h2 : cmpB (eKey y) (eKey x) = 0
        · rw [← (cmpB_zero _ _).1 h2]; omega
        · exact cmpB_trans _ _ _ (show cmpB k (eKey y) < 0 by omega) (by omega)
theorem cmpB_ne {a b : List UInt8} (h : cmpB a b < 0) : b ≠ a := by
  intro e
  rw [e, cmpB_refl] at h
  omega
theorem seenF_group (s : Int) (k : List UInt8) (lo : Option (List UInt8)) (hlo : lo ≠ some k) (l : List EntR) (hs : Srt l) (hk : ∀ x ∈ l, cmpB k (eKey x) ≤ 0) :
    seenF s lo l = if (getR k s l).2 = true then (getR k s l).1 :: seenF s (some k) (dropK k l) else seenF s lo (dropK k l) := by
  induction l with
  | nil => simp [getR, seenF, dropK]
  | cons x l ih =>
    by_cases hx : eKey x = k
    · by_cases hq : eSeq x ≤ s
      · have hg : getR k s (x :: l) = (x, true) := by rw [getR, if_pos ⟨hx, hq⟩]
        rw [hg, dropK, if_pos hx, seenF, if_pos ⟨hq, by rw [hx]; exact hlo⟩, hx, seenF_drop]
        rfl
      · have hg : getR k s (x :: l) = getR k s l := by rw [getR, if_neg (fun h => hq h.2)]
        rw [hg, dropK, if_pos hx, seenF, if_neg (fun h => hq h.1)]
        exact ih hs.2 fun z hz => hk z (by simp [hz])
    · have hd : dropK k (x :: l) = x :: l := by rw [dropK, if_neg hx]
      have hn := dropK_ne hs hk
      rw [hd] at hn
      rw [hd, getR_none fun y hy => cmpB_ne (hn y hy)]
      simp
theorem want_seen (s : Int) (es : List EntR) (hs : Srt es) : ∀ (n : Nat) (pre l : List EntR) (last lo : Option (List UInt8)), l.length ≤ n → es = pre ++ l → (∀ x ∈ pre, ∀ y ∈ l, cmpB (eKey x) (eKey y) < 0) → (∀ y ∈ l, last ≠ some (eKey y)) → (∀ y ∈ l, lo ≠ some (eKey y)) →
    wantF s es last l = (seenF s lo l).filter (fun x => !eGone x) := by
  intro n
  induction n with
  | zero =>
    intro pre l last lo hn _ _ _ _
    obtain rfl : l = [] := List.eq_nil_of_length_eq_zero (by omega)
    rfl
  | succ n ih =>
    intro pre l last lo hn he hp h1 h2
    cases l with
    | nil => rfl
    | cons x l =>
      have hsl : Srt (x :: l) := by rw [he] at hs; exact hs.parts.2.1
      have hk : ∀ y ∈ x :: l, cmpB (eKey x) (eKey y) ≤ 0 := by
        intro y hy
        rcases List.mem_cons.1 hy with rfl | hy
        · rw [cmpB_refl]; omega
        · exact hsl.keys y hy
      have hdrop : dropK (eKey x) (x :: l) = dropK (eKey x) l := by rw [dropK, if_pos rfl]
      have hg : getR (eKey x) s es = getR (eKey x) s (x :: l) := by
        rw [he]
        refine getR_app fun y hy hh => ?_
        have := hp y hy x (by simp)
        rw [hh.1, cmpB_refl] at this
        omega
      have hne := dropK_ne hsl hk
      rw [hdrop] at hne
      have hrest : ∀ lo' : Option (List UInt8), (∀ y ∈ dropK (eKey x) l, lo' ≠ some (eKey y)) → wantF s es (some (eKey x)) (dropK (eKey x) l) = (seenF s lo' (dropK (eKey x) l)).filter (fun x => !eGone x) := by
        intro lo' hlo'
        refine ih (pre ++ takeK (eKey x) (x :: l)) (dropK (eKey x) l) (some (eKey x)) lo' ?_ ?_ ?_ ?_ hlo'
        · have := dropK_len (eKey x) l
          simp at hn
          omega
        · rw [List.append_assoc, ← hdrop, take_drop_K]
          exact he
        · intro a ha y hy
          rcases List.mem_append.1 ha with ha | ha
          · exact hp a ha y (List.mem_cons_of_mem _ (dropK_sub y hy))
          · rw [takeK_key a ha]
            exact hne y hy
        · intro y hy e
          exact cmpB_ne (hne y hy) (Option.some.inj e).symm
      rw [wantF, if_neg (h1 x (by simp)), wantF_drop, seenF_group s (eKey x) lo (h2 x (by simp)) (x :: l) hsl hk, hdrop, hg]
      by_cases hb : (getR (eKey x) s (x :: l)).2 = true
      · rw [if_pos hb, List.filter_cons, ← hrest (some (eKey x)) (fun y hy e => cmpB_ne (hne y hy) (Option.some.inj e).symm)]
        cases hgn : eGone (getR (eKey x) s (x :: l)).1 <;> simp [hb]
      · rw [if_neg hb, if_neg (fun h => hb h.1)]
        exact hrest lo fun y hy => h2 y (List.mem_cons_of_mem _ (dropK_sub y hy))
theorem latest_want {es : List EntR} (hs : Srt es) (hm : ∀ x ∈ es, mayE x = true) (s : Int) : latestE es [] [] s = wantF s es none es := by
  rw [latestE_R hs hm]
  unfold latR
  have hl : listR [] [] es = es := by rw [← listE_R hs hm, listE_all hm]
  rw [hl]
  exact (want_seen s es hs es.length [] es none none (Nat.le_refl _) rfl (fun x hx => by cases hx) (fun _ _ h => by cases h) (fun _ _ h => by cases h)).symm
end Go.Proofs.YtlfjbklagljdlaaDoor
