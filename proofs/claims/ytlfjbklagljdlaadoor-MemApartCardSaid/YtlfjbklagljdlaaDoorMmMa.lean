/- Layer 9: the plain laws: what the program tells is what the document tells. -/
import Derived.Test.YtlfjbklagljdlaaDoorMmSe
namespace Go.Proofs.YtlfjbklagljdlaaDoor
open Go.RowKit
set_option linter.unusedVariables false
set_option linter.unusedSimpArgs false

theorem cmpB_refl (xs : List UInt8) : cmpB xs xs = 0 := (cmpB_zero xs xs).2 rfl
/-! ## Get -/
theorem getR_app {key : List UInt8} {s : Int} {l m : List EntR} (h : ∀ x ∈ l, ¬ (eKey x = key ∧ eSeq x ≤ s)) : getR key s (l ++ m) = getR key s m := by
  induction l with
  | nil => rfl
  | cons x l ih =>
    rw [List.cons_append, getR, if_neg (h x (by simp))]
    exact ih fun y hy => h y (by simp [hy])
theorem getR_none {key : List UInt8} {s : Int} {l : List EntR} (h : ∀ x ∈ l, eKey x ≠ key) : getR key s l = (noEnt, false) := by
  have := getR_app (s := s) (m := []) (l := l) (key := key) fun x hx hh => h x hx hh.1
  rw [List.append_nil] at this
  exact this
theorem getR_suf {key : List UInt8} {s : Int} {es : List EntR} : getR key s es = getR key s (sufK key s es) := by
  conv => lhs; rw [← pre_suf key s es]
  refine getR_app fun x hx hh => ?_
  have := pre_all x hx
  rw [aheadK_iff] at this
  rcases this with h | ⟨_, h⟩
  · rw [hh.1, cmpB_refl] at h; omega
  · omega
theorem getE_R {es : List EntR} (hs : Srt es) (key : List UInt8) (s : Int) : getE es key s = getR key s es := by
  rw [getR_suf]
  unfold getE
  have hall := suf_none (key := key) (s := s) hs
  have hss : Srt (sufK key s es) := by
    have h' := hs
    rw [← pre_suf key s es] at h'
    exact h'.parts.2.1
  cases hsf : sufK key s es with
  | nil => rfl
  | cons x l =>
    rw [hsf] at hall hss
    have hx := aheadK_not.1 (hall x (by simp))
    by_cases hk : eKey x = key
    · rcases hx with hx | ⟨_, hx⟩
      · rw [hk, cmpB_refl] at hx; omega
      · simp [hk, getR, hx]
    · rcases hx with hx | ⟨hx, _⟩
      · rw [getR_none]
        · simp [hk]
        · intro y hy hyk
          rcases List.mem_cons.1 hy with rfl | hy
          · exact hk hyk
          · have h1 := hss.1 y hy
            rw [aheadE, aheadK_iff, hyk] at h1
            rcases h1 with h1 | ⟨h1, _⟩
            · omega
            · exact hk h1
      · exact absurd hx hk
/-! ## List -/
theorem passL_iff {frm tk : List UInt8} {x : EntR} : passL frm tk x = true ↔ 0 ≤ cmpB (eKey x) frm ∧ (tk = [] ∨ cmpB (eKey x) tk < 0) := by
  unfold passL
  simp
theorem ahead_top {x : EntR} {key : List UInt8} (h : mayE x = true) : aheadK x key topS = true ↔ cmpB (eKey x) key < 0 := by
  have hm := mayE_cases h
  rw [aheadK_iff]
  constructor
  · rintro (h | ⟨_, h⟩)
    · exact h
    · unfold topS at h; omega
  · exact .inl
/-- In order: keys do not fall. -/
theorem Srt.keys {x : EntR} {l : List EntR} (h : Srt (x :: l)) : ∀ y ∈ l, cmpB (eKey x) (eKey y) ≤ 0 := by
  intro y hy
  have := h.1 y hy
  rw [aheadE, aheadK_iff] at this
  rcases this with h | ⟨h, _⟩
  · omega
  · rw [h, cmpB_refl]; omega
theorem cmpB_le_lt {a b c : List UInt8} (h1 : cmpB a b ≤ 0) (h2 : cmpB b c < 0) : cmpB a c < 0 := by
  by_cases h : cmpB a b = 0
  · rw [(cmpB_zero _ _).1 h]; exact h2
  · exact cmpB_trans _ _ _ (by omega) h2
theorem cutTo_filter {tk : List UInt8} {es : List EntR} (hs : Srt es) : cutTo tk es = es.filter (fun x => decide (tk = []) || decide (cmpB (eKey x) tk < 0)) := by
  induction es with
  | nil => rfl
  | cons x l ih =>
    by_cases h : tk = [] ∨ cmpB (eKey x) tk < 0
    · rw [cutTo_cons h, List.filter_cons, if_pos (by simpa using h), ih hs.2]
    · rw [cutTo_stop h, eq_comm, List.filter_eq_nil_iff]
      intro y hy hh
      rcases List.mem_cons.1 hy with rfl | hy
      · exact h (by simpa using hh)
      · rcases (show tk = [] ∨ cmpB (eKey y) tk < 0 by simpa using hh) with h1 | h1
        · exact h (.inl h1)
        · exact h (.inr (cmpB_le_lt (hs.keys y hy) h1))
theorem sufK_filter {frm : List UInt8} {es : List EntR} (hs : Srt es) (hm : ∀ x ∈ es, mayE x = true) : sufK frm topS es = es.filter (fun x => decide (0 ≤ cmpB (eKey x) frm)) := by
  induction es with
  | nil => rfl
  | cons x l ih =>
    have hx := ahead_top (key := frm) (hm x (by simp))
    rw [sufK, List.filter_cons]
    by_cases h : aheadK x frm topS = true
    · have h1 := hx.1 h
      rw [if_pos h, if_neg (by simp; omega)]
      exact ih hs.2 fun y hy => hm y (by simp [hy])
    · have h1 : ¬ cmpB (eKey x) frm < 0 := fun e => h (hx.2 e)
      rw [if_neg h, if_pos (by simp; omega)]
      congr 1
      rw [eq_comm, List.filter_eq_self]
      intro y hy
      rw [decide_eq_true_iff]
      rcases Int.lt_or_le (cmpB (eKey y) frm) 0 with h2 | h2
      · exact absurd (cmpB_le_lt (hs.keys y hy) h2) h1
      · exact h2
theorem filter_srt {es : List EntR} (hs : Srt es) (p : EntR → Bool) : Srt (es.filter p) := by
  induction es with
  | nil => trivial
  | cons x l ih =>
    rw [List.filter_cons]
    split
    · exact ⟨fun y hy => hs.1 y (List.mem_filter.1 hy).1, ih hs.2⟩
    · exact ih hs.2
theorem listE_R {es : List EntR} (hs : Srt es) (hm : ∀ x ∈ es, mayE x = true) (frm tk : List UInt8) : listE es frm tk = listR frm tk es := by
  unfold listE
  rw [sufK_filter hs hm, cutTo_filter (filter_srt hs _), List.filter_filter]
  unfold listR
  congr 1
  funext x
  unfold passL
  rw [Bool.and_comm]
/-! ## Latest -/
theorem latF_seen (s : Int) : ∀ (l : List EntR) (last : List UInt8) (lo : Option (List UInt8)), (∀ x ∈ l, eKey x ≠ []) → (last = [] → lo = none) → (last ≠ [] → lo = some last) → latF s last l = (seenF s lo l).filter (fun x => !eGone x) := by
  intro l
  induction l with
  | nil => intro last lo _ _ _; rfl
  | cons x l ih =>
    intro last lo hk h1 h2
    have hx := hk x (by simp)
    have hl := fun y hy => hk y (List.mem_cons_of_mem _ hy)
    have hcond : (s < eSeq x ∨ (last ≠ [] ∧ last = eKey x)) ↔ ¬ (eSeq x ≤ s ∧ lo ≠ some (eKey x)) := by
      by_cases hlast : last = []
      · rw [h1 hlast]; simp [hlast]
      · rw [h2 hlast]
        by_cases hq : last = eKey x
        · simp [hlast, hq]
          exact .inr hx
        · simp [hlast, hq]
    rw [latF, seenF]
    by_cases hc : s < eSeq x ∨ (last ≠ [] ∧ last = eKey x)
    · rw [if_pos hc, if_neg (hcond.1 hc)]
      exact ih last lo hl h1 h2
    · have hc2 : eSeq x ≤ s ∧ lo ≠ some (eKey x) := Classical.byContradiction fun h => hc (hcond.2 h)
      rw [if_neg hc, if_pos hc2, List.filter_cons, ih (eKey x) (some (eKey x)) hl (fun h => absurd h hx) (fun _ => rfl)]
      cases eGone x <;> simp
theorem key_ne {x : EntR} (h : mayE x = true) : eKey x ≠ [] := by
  intro e
  have := (mayE_cases h).1
  rw [e] at this
  simp at this
theorem latestE_R {es : List EntR} (hs : Srt es) (hm : ∀ x ∈ es, mayE x = true) (frm tk : List UInt8) (s : Int) : latestE es frm tk s = latR s frm tk es := by
  unfold latestE latR
  rw [latF_seen s _ [] none (fun x hx => key_ne (hm x (listE_sub x hx))) (fun _ => rfl) (fun h => absurd rfl h), listE_R hs hm]
/-! ## What lies ahead of a key and what lies from it on are all -/
theorem cut_all {es : List EntR} (hs : Srt es) (hm : ∀ x ∈ es, mayE x = true) {key : List UInt8} (hk : key ≠ []) : listE es [] key ++ listE es key [] = es := by
  have h1 : listE es [] key = preK key topS es := by
    unfold listE
    rw [sufK_all hm]
    clear hs
    induction es with
    | nil => rfl
    | cons x l ih =>
      have hx := ahead_top (key := key) (hm x (by simp))
      rw [preK]
      by_cases h : aheadK x key topS = true
      · rw [if_pos h, cutTo_cons (.inr (hx.1 h)), ih fun y hy => hm y (by simp [hy])]
      · rw [if_neg h, cutTo_stop fun h2 => h2.elim hk fun h2 => h (hx.2 h2)]
  have h2 : listE es key [] = sufK key topS es := by unfold listE; rw [cutTo_nil]
  rw [h1, h2]
  exact pre_suf key topS es
theorem get_behind {es : List EntR} (hm : ∀ x ∈ es, mayE x = true) (key : List UInt8) (s : Int) : getR key s (listE es key []) = getR key s es := by
  have h2 : listE es key [] = sufK key topS es := by unfold listE; rw [cutTo_nil]
  rw [h2]
  conv => rhs; rw [← pre_suf key topS es]
  refine (getR_app fun x hx hh => ?_).symm
  have h := pre_all x hx
  have hmx : x ∈ es := by rw [← pre_suf key topS es]; exact List.mem_append_left _ hx
  rw [ahead_top (hm x hmx), hh.1, cmpB_refl] at h
  omega
/-- Each is got at its own number. -/
theorem get_own {es : List EntR} (hs : Srt es) : ∀ x ∈ es, getR (eKey x) (eSeq x) es = (x, true) := by
  induction es with
  | nil => intro x h; cases h
  | cons y l ih =>
    intro x hx
    rw [getR]
    rcases List.mem_cons.1 hx with rfl | hx
    · simp
    · have h1 := hs.1 x hx
      rw [aheadE, aheadK_iff] at h1
      rw [if_neg]
      · exact ih hs.2 x hx
      · rintro ⟨h2, h3⟩
        rcases h1 with h1 | ⟨_, h1⟩
        · rw [h2, cmpB_refl] at h1; omega
        · omega
/-! ## In which order they come -/
theorem mem_add {es : List EntR} {e x : EntR} (hd : mayE e = true → hasE es e = false) : x ∈ addE es e ↔ x ∈ es ∨ (mayE e = true ∧ x = e) := by
  unfold addE
  by_cases hm : mayE e = true
  · rw [if_pos hm]
    unfold putE
    rw [hd hm]
    simp only [Bool.false_eq_true, if_false, insE]
    conv => rhs; rw [← pre_suf (eKey e) (eSeq e) es]
    simp only [List.mem_append, List.mem_cons, hm, true_and]
    constructor
    · rintro (h | h | h)
      · exact .inl (.inl h)
      · exact .inr h
      · exact .inl (.inr h)
    · rintro ((h | h) | h)
      · exact .inl h
      · exact .inr (.inr h)
      · exact .inr (.inl h)
  · rw [if_neg hm]
    simp [hm]
theorem has_mem {es : List EntR} {e : EntR} (h : hasE es e = true) : ∃ x ∈ es, eKey x = eKey e ∧ eSeq x = eSeq e := by
  unfold hasE at h
  cases hsf : sufK (eKey e) (eSeq e) es with
  | nil => rw [hsf] at h; cases h
  | cons x l =>
    rw [hsf] at h
    refine ⟨x, sufK_sub (key := eKey e) (s := eSeq e) x (by rw [hsf]; simp), ?_⟩
    simp only [Bool.and_eq_true, decide_eq_true_eq] at h
    exact ⟨h.2, h.1⟩
theorem add_srt {es : List EntR} (h : Srt es) (e : EntR) : Srt (addE es e) := by
  unfold addE
  split
  · exact put_srt h
  · exact h
/-- All of a list, put in one behind the other. -/
def addAll (es : List EntR) : List EntR → List EntR
  | [] => es
  | x :: l => addAll (addE es x) l
theorem addAll_srt {l es : List EntR} (h : Srt es) : Srt (addAll es l) := by
  induction l generalizing es with
  | nil => exact h
  | cons x l ih => exact ih (add_srt h x)
theorem addAll_snoc {l es : List EntR} (x : EntR) : addAll es (l ++ [x]) = addE (addAll es l) x := by
  induction l generalizing es with
  | nil => rfl
  | cons y l ih => exact ih
/-- None like another. -/
def apartE (a b : EntR) : Prop := ¬ (eKey a = eKey b ∧ eSeq a = eSeq b)
theorem addAll_mem {l es : List EntR} (hp : l.Pairwise apartE) (hq : ∀ a ∈ es, ∀ b ∈ l, apartE a b) (x : EntR) : x ∈ addAll es l ↔ x ∈ es ∨ (x ∈ l ∧ mayE x = true) := by
  induction l generalizing es with
  | nil => simp [addAll]
  | cons y l ih =>
    rw [List.pairwise_cons] at hp
    have hd : mayE y = true → hasE es y = false := fun _ => by
      cases hh : hasE es y
      · rfl
      · obtain ⟨a, ha, hk⟩ := has_mem hh
        exact absurd hk (hq a ha y (by simp))
    have hm := fun z => mem_add (es := es) (e := y) (x := z) hd
    have := ih (es := addE es y) hp.2 (fun a ha b hb => by
      rcases (hm a).1 ha with h | ⟨_, rfl⟩
      · exact hq a h b (by simp [hb])
      · exact hp.1 b hb)
    rw [show addAll es (y :: l) = addAll (addE es y) l from rfl, this, hm]
    constructor
    · rintro ((h | ⟨h1, rfl⟩) | ⟨h1, h2⟩)
      · exact .inl h
      · exact .inr ⟨by simp, h1⟩
      · exact .inr ⟨by simp [h1], h2⟩
    · rintro (h | ⟨h1, h2⟩)
      · exact .inl (.inl h)
      · rcases List.mem_cons.1 h1 with rfl | h1
        · exact .inl (.inr ⟨h2, rfl⟩)
        · exact .inr ⟨h1, h2⟩
theorem srt_ext {l m : List EntR} (hl : Srt l) (hm : Srt m) (h : ∀ x, x ∈ l ↔ x ∈ m) : l = m := by
  induction l generalizing m with
  | nil =>
    cases m with
    | nil => rfl
    | cons y m => exact absurd ((h y).2 (by simp)) (by simp)
  | cons x l ih =>
    cases m with
    | nil => exact absurd ((h x).1 (by simp)) (by simp)
    | cons y m =>
      have hxy : x = y := by
        rcases List.mem_cons.1 ((h x).1 (by simp)) with h1 | h1
        · exact h1
        · rcases List.mem_cons.1 ((h y).2 (by simp)) with h2 | h2
          · exact h2.symm
          · have a1 := hl.1 y h2
            have a2 := hm.1 x h1
            have := ahead_trans (a := x) (b := y) (key := eKey x) (s := eSeq x) a1 a2
            have h0 := ahead_irrefl x
            rw [aheadE] at h0
            rw [h0] at this
            cases this
      subst hxy
      congr 1
      refine ih hl.2 hm.2 fun z => ?_
      have hz := h z
      simp only [List.mem_cons] at hz
      constructor
      · intro hzl
        rcases hz.1 (.inr hzl) with h1 | h1
        · subst h1
          have a1 := hl.1 z hzl
          rw [ahead_irrefl] at a1
          cases a1
        · exact h1
      · intro hzm
        rcases hz.2 (.inr hzm) with h1 | h1
        · subst h1
          have a1 := hm.1 z hzm
          rw [ahead_irrefl] at a1
          cases a1
        · exact h1
theorem addAll_rev {l : List EntR} (hp : l.Pairwise apartE) : addAll [] l = addAll [] l.reverse := by
  have hp2 : l.reverse.Pairwise apartE := by
    rw [List.pairwise_reverse]
    exact hp.imp fun h hh => h ⟨hh.1.symm, hh.2.symm⟩
  refine srt_ext (addAll_srt trivial) (addAll_srt trivial) fun x => ?_
  rw [addAll_mem hp (fun a ha => by cases ha), addAll_mem hp2 (fun a ha => by cases ha)]
  simp
end Go.Proofs.YtlfjbklagljdlaaDoor
