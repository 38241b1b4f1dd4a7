/- Shared texts, part S12: MmF, MmG, MmMa, Vint. -/
import Derived.Test.YtkkclkknpjapcaaDoorS11
import Derived.Test.YtkkclkknpjapcaaDoorS06
import Derived.Test.YtkkclkknpjapcaaDoorS01
/-! ### MmF -/
namespace Go.Proofs.YtkkclkknpjapcaaDoor
open Go.RowKit
set_option linter.unusedVariables false
set_option linter.unusedSimpArgs false

theorem cutTo_nil (es : List EntR) : cutTo [] es = es := by
  induction es with
  | nil => rfl
  | cons x l ih => rw [cutTo_cons (.inl rfl), ih]
theorem sufK_all {es : List EntR} (h : ∀ x ∈ es, mayE x = true) : sufK [] topS es = es := by
  cases es with
  | nil => rfl
  | cons x l =>
    have hm := mayE_cases (h x (by simp))
    have hx : aheadK x [] topS = false := by
      rw [aheadK_not]
      have h0 := cmpB_nil_right (eKey x)
      by_cases hk : eKey x = []
      · exact .inr ⟨hk, by unfold topS; omega⟩
      · have : cmpB (eKey x) [] ≠ 0 := fun e => hk ((cmpB_zero _ _).1 e)
        exact .inl (by omega)
    rw [sufK, hx]
    rfl
theorem listE_all {es : List EntR} (h : ∀ x ∈ es, mayE x = true) : listE es [] [] = es := by unfold listE; rw [cutTo_nil, sufK_all h]
set_option maxHeartbeats 4000000 in
theorem all_any (base bm : Nat) (l : List NodeR) (w : World) (h : MemL w base bm l) (hl : l.length ≤ 1000) : Calls Tryd.prog 17 #[.pointer (some ⟨bm, 0, none⟩)] w fun r w' => ListC w w' (l.map nEnt) r := by
  have HL := hid (list_any base bm l none 0 0 [] none 0 0 [] w h (RB.nil _) (RB.nil _) hl)
  have HE := hid (listE_all h.mayE)
  clear h hl
  go_enter Tryd.func17, Tryd.ntmps17
  go_wp2_with (go_at_call 15; (with_reducible refine HL.out.mono ?_); rintro r w2 ⟨v, rfl, hv, hb⟩)
  go_ret
  exact ⟨v, rfl, by rw [HE.out] at hv; exact hv, hb⟩
set_option maxHeartbeats 4000000 in
theorem all_none (w : World) : Calls Tryd.prog 17 #[.pointer none] w fun r w' => r = .returned (.slice none 0 0) ∧ w = w' := by
  go_enter Tryd.func17, Tryd.ntmps17
  go_wp2_with (go_at_call 15; (with_reducible refine (list_none none 0 0 none 0 0 _).mono ?_); rintro r w2 ⟨rfl, rfl⟩)
  go_ret
  exact ⟨rfl, rfl⟩
/-- Of each key the newest up to a number, without what is gone; `last`: the key that was there last. -/
def latF (s : Int) : List UInt8 → List EntR → List EntR
  | _, [] => []
  | last, x :: l => if s < eSeq x ∨ (last ≠ [] ∧ last = eKey x) then latF s last l else (if eGone x = true then latF s (eKey x) l else x :: latF s (eKey x) l)
def latestE (es : List EntR) (frm tk : List UInt8) (s : Int) : List EntR := latF s [] (listE es frm tk)
theorem latF_skip {s : Int} {last : List UInt8} {x : EntR} {l : List EntR} (h : s < eSeq x ∨ (last ≠ [] ∧ last = eKey x)) : latF s last (x :: l) = latF s last l := by rw [latF, if_pos h]
theorem latF_gone {s : Int} {last : List UInt8} {x : EntR} {l : List EntR} (h : ¬ (s < eSeq x ∨ (last ≠ [] ∧ last = eKey x))) (hg : eGone x = true) : latF s last (x :: l) = latF s (eKey x) l := by rw [latF, if_neg h, if_pos hg]
theorem latF_take {s : Int} {last : List UInt8} {x : EntR} {l : List EntR} (h : ¬ (s < eSeq x ∨ (last ≠ [] ∧ last = eKey x))) (hg : eGone x = false) : latF s last (x :: l) = x :: latF s (eKey x) l := by rw [latF, if_neg h, hg]; rfl
theorem sufK_sub {key : List UInt8} {s : Int} {es : List EntR} : ∀ x ∈ sufK key s es, x ∈ es := by
  intro x hx
  have := pre_suf key s es
  rw [← this]
  exact List.mem_append_right _ hx
theorem cutTo_sub {tk : List UInt8} {es : List EntR} : ∀ x ∈ cutTo tk es, x ∈ es := by
  induction es with
  | nil => intro x h; cases h
  | cons y l ih =>
    intro x hx
    rw [cutTo] at hx
    split at hx
    · rcases List.mem_cons.1 hx with rfl | hx
      · simp
      · exact List.mem_cons_of_mem _ (ih x hx)
    · cases hx
theorem cutTo_len (tk : List UInt8) (es : List EntR) : (cutTo tk es).length ≤ es.length := by
  induction es with
  | nil => exact Nat.le_refl _
  | cons y l ih =>
    rw [cutTo]
    split
    · simp; exact ih
    · simp
theorem sufK_len (key : List UInt8) (s : Int) (es : List EntR) : (sufK key s es).length ≤ es.length := by
  have := congrArg List.length (pre_suf key s es)
  rw [List.length_append] at this
  omega
theorem listE_len (es : List EntR) (frm tk : List UInt8) : (listE es frm tk).length ≤ es.length := Nat.le_trans (cutTo_len _ _) (sufK_len _ _ _)
theorem listE_sub {es : List EntR} {frm tk : List UInt8} : ∀ x ∈ listE es frm tk, x ∈ es := fun x hx => sufK_sub x (cutTo_sub x hx)
end Go.Proofs.YtkkclkknpjapcaaDoor
/-! ### MmG -/
namespace Go.Proofs.YtkkclkknpjapcaaDoor
open Go.RowKit
set_option linter.unusedVariables false
set_option linter.unusedSimpArgs false

/-- What Latest's loop holds of the key that was there last. -/
def LastV (w : World) (base : Nat) (v : Value) (last : List UInt8) : Prop := (last = [] ∧ v = .slice none 0 0) ∨ (last ≠ [] ∧ OB w base v last)
theorem LastV.below {w w' : World} {base : Nat} {v : Value} {last : List UInt8} (h : LastV w base v last) (hb : Below w.heap.size w w') : LastV w' base v last := by
  rcases h with h | ⟨h1, h2⟩
  · exact .inl h
  · exact .inr ⟨h1, h2.below hb⟩
/-- Where Latest's loop stands: w1 is the world behind List. -/
def LatJ (w w1 wr : World) (L : List EntR) (s : Int) (v lv : Value) (k : Nat) (last : List UInt8) : Prop :=
  ∃ V os, latF s [] L = os ++ latF s last (L.drop k) ∧ V.length ≤ k ∧ OV wr w1.heap.size 29 5 v V ∧ RelV noEnt (PEo w1 w.heap.size) V os ∧ LastV wr w1.heap.size lv last ∧ Below w1.heap.size w1 wr
section
variable {w w1 wr w3 w4 : World} {L os : List EntR} {V : List (List Value)} {s : Int} {v v' lv lv' : Value} {k : Nat} {last : List UInt8} {cs : List Value} {x : EntR}
theorem LatJ.skip (hx : elt noEnt L k = x) (hk : k < L.length) (hlat : latF s [] L = os ++ latF s last (L.drop k)) (hV : V.length ≤ k) (hown : OV wr w1.heap.size 29 5 v V) (hrel : RelV noEnt (PEo w1 w.heap.size) V os) (hl : LastV wr w1.heap.size lv last)
    (hs : s < eSeq x ∨ (last ≠ [] ∧ last = eKey x)) (hb : Below wr.heap.size wr w3) (hB : Below w1.heap.size w1 w3) : LatJ w w1 w3 L s v lv (k + 1) last := by
  subst hx
  rw [drop_elt hk, latF_skip hs] at hlat
  exact ⟨V, os, hlat, by omega, hown.below hb, hrel, hl.below hb, hB⟩
theorem LatJ.gone (hx : elt noEnt L k = x) (hk : k < L.length) (hlat : latF s [] L = os ++ latF s last (L.drop k)) (hV : V.length ≤ k) (hown : OV wr w1.heap.size 29 5 v V) (hrel : RelV noEnt (PEo w1 w.heap.size) V os)
    (hs : ¬ (s < eSeq x ∨ (last ≠ [] ∧ last = eKey x))) (hg : eGone x = true) (hne : eKey x ≠ []) (hb : Below wr.heap.size wr w3) (hlv : OB w3 w1.heap.size lv' (eKey x)) (hB : Below w1.heap.size w1 w3) : LatJ w w1 w3 L s v lv' (k + 1) (eKey x) := by
  subst hx
  rw [drop_elt hk, latF_gone hs hg] at hlat
  exact ⟨V, os, hlat, by omega, hown.below hb, hrel, .inr ⟨hne, hlv⟩, hB⟩
theorem LatJ.take (hx : elt noEnt L k = x) (hk : k < L.length) (hlat : latF s [] L = os ++ latF s last (L.drop k)) (hV : V.length ≤ k) (hrel : RelV noEnt (PEo w1 w.heap.size) V os) (hp : PEo w1 w.heap.size cs x)
    (hs : ¬ (s < eSeq x ∨ (last ≠ [] ∧ last = eKey x))) (hg : eGone x = false) (hne : eKey x ≠ []) (hown4 : OV w4 w1.heap.size 29 5 v' (V ++ [cs])) (hg4 : w3.grownBy w4 v.ownBlock) (hv3 : OV w3 w1.heap.size 29 5 v V) (hlv : OB w3 w1.heap.size lv' (eKey x)) (hB : Below w1.heap.size w1 w4) : LatJ w w1 w4 L s v' lv' (k + 1) (eKey x) := by
  subst hx
  rw [drop_elt hk, latF_take hs hg] at hlat
  exact ⟨V ++ [cs], os ++ [elt noEnt L k], by rw [hlat]; simp, by simp; omega, hown4, hrel.snoc hp, .inr ⟨hne, hlv.other hg4 (hlv.apart_row hv3 (by decide))⟩, hB⟩
end
end Go.Proofs.YtkkclkknpjapcaaDoor
/-! ### MmMa -/
namespace Go.Proofs.YtkkclkknpjapcaaDoor
open Go.RowKit
set_option linter.unusedVariables false
set_option linter.unusedSimpArgs false

theorem cmpB_refl (xs : List UInt8) : cmpB xs xs = 0 := (cmpB_zero xs xs).2 rfl
/-! ## Get -/
theorem getR_app {key : List UInt8} {s : Int} {l m : List EntR} (h : ∀ x ∈ l, ¬ (eKey x = key ∧ eSeq x ≤ s)) : getR key s (l ++ m) = getR key s m := by
  induction l with
  | nil => rfl
  | cons x l ih =>
    rw [List.cons_append, getR, if_neg (h x (by simp))]
    exact ih fun y hy => h y (by simp [hy])
theorem getR_none {key : List UInt8} {s : Int} {l : List EntR} (h : ∀ x ∈ l, eKey x ≠ key) : getR key s l = (noEnt, false) := by
  have := getR_app (s := s) (m := []) (l := l) (key := key) fun x hx hh => h x hx hh.1
  rw [List.append_nil] at this
  exact this
theorem getR_suf {key : List UInt8} {s : Int} {es : List EntR} : getR key s es = getR key s (sufK key s es) := by
  conv => lhs; rw [← pre_suf key s es]
  refine getR_app fun x hx hh => ?_
  have := pre_all x hx
  rw [aheadK_iff] at this
  rcases this with h | ⟨_, h⟩
  · rw [hh.1, cmpB_refl] at h; omega
  · omega
theorem getE_R {es : List EntR} (hs : Srt es) (key : List UInt8) (s : Int) : getE es key s = getR key s es := by
  rw [getR_suf]
  unfold getE
  have hall := suf_none (key := key) (s := s) hs
  have hss : Srt (sufK key s es) := by
    have h' := hs
    rw [← pre_suf key s es] at h'
    exact h'.parts.2.1
  cases hsf : sufK key s es with
  | nil => rfl
  | cons x l =>
    rw [hsf] at hall hss
    have hx := aheadK_not.1 (hall x (by simp))
    by_cases hk : eKey x = key
    · rcases hx with hx | ⟨_, hx⟩
      · rw [hk, cmpB_refl] at hx; omega
      · simp [hk, getR, hx]
    · rcases hx with hx | ⟨hx, _⟩
      · rw [getR_none]
        · simp [hk]
        · intro y hy hyk
          rcases List.mem_cons.1 hy with rfl | hy
          · exact hk hyk
          · have h1 := hss.1 y hy
            rw [aheadE, aheadK_iff, hyk] at h1
            rcases h1 with h1 | ⟨h1, _⟩
            · omega
            · exact hk h1
      · exact absurd hx hk
/-! ## List -/
theorem passL_iff {frm tk : List UInt8} {x : EntR} : passL frm tk x = true ↔ 0 ≤ cmpB (eKey x) frm ∧ (tk = [] ∨ cmpB (eKey x) tk < 0) := by
  unfold passL
  simp
theorem ahead_top {x : EntR} {key : List UInt8} (h : mayE x = true) : aheadK x key topS = true ↔ cmpB (eKey x) key < 0 := by
  have hm := mayE_cases h
  rw [aheadK_iff]
  constructor
  · rintro (h | ⟨_, h⟩)
    · exact h
    · unfold topS at h; omega
  · exact .inl
/-- In order: keys do not fall. -/
theorem Srt.keys {x : EntR} {l : List EntR} (h : Srt (x :: l)) : ∀ y ∈ l, cmpB (eKey x) (eKey y) ≤ 0 := by
  intro y hy
  have := h.1 y hy
  rw [aheadE, aheadK_iff] at this
  rcases this with h | ⟨h, _⟩
  · omega
  · rw [h, cmpB_refl]; omega
theorem cmpB_le_lt {a b c : List UInt8} (h1 : cmpB a b ≤ 0) (h2 : cmpB b c < 0) : cmpB a c < 0 := by
  by_cases h : cmpB a b = 0
  · rw [(cmpB_zero _ _).1 h]; exact h2
  · exact cmpB_trans _ _ _ (by omega) h2
theorem cutTo_filter {tk : List UInt8} {es : List EntR} (hs : Srt es) : cutTo tk es = es.filter (fun x => decide (tk = []) || decide (cmpB (eKey x) tk < 0)) := by
  induction es with
  | nil => rfl
  | cons x l ih =>
    by_cases h : tk = [] ∨ cmpB (eKey x) tk < 0
    · rw [cutTo_cons h, List.filter_cons, if_pos (by simpa using h), ih hs.2]
    · rw [cutTo_stop h, eq_comm, List.filter_eq_nil_iff]
      intro y hy hh
      rcases List.mem_cons.1 hy with rfl | hy
      · exact h (by simpa using hh)
      · rcases (show tk = [] ∨ cmpB (eKey y) tk < 0 by simpa using hh) with h1 | h1
        · exact h (.inl h1)
        · exact h (.inr (cmpB_le_lt (hs.keys y hy) h1))
theorem sufK_filter {frm : List UInt8} {es : List EntR} (hs : Srt es) (hm : ∀ x ∈ es, mayE x = true) : sufK frm topS es = es.filter (fun x => decide (0 ≤ cmpB (eKey x) frm)) := by
  induction es with
  | nil => rfl
  | cons x l ih =>
    have hx := ahead_top (key := frm) (hm x (by simp))
    rw [sufK, List.filter_cons]
    by_cases h : aheadK x frm topS = true
    · have h1 := hx.1 h
      rw [if_pos h, if_neg (by simp; omega)]
      exact ih hs.2 fun y hy => hm y (by simp [hy])
    · have h1 : ¬ cmpB (eKey x) frm < 0 := fun e => h (hx.2 e)
      rw [if_neg h, if_pos (by simp; omega)]
      congr 1
      rw [eq_comm, List.filter_eq_self]
      intro y hy
      rw [decide_eq_true_iff]
      rcases Int.lt_or_le (cmpB (eKey y) frm) 0 with h2 | h2
      · exact absurd (cmpB_le_lt (hs.keys y hy) h2) h1
      · exact h2
theorem filter_srt {es : List EntR} (hs : Srt es) (p : EntR → Bool) : Srt (es.filter p) := by
  induction es with
  | nil => trivial
  | cons x l ih =>
    rw [List.filter_cons]
    split
    · exact ⟨fun y hy => hs.1 y (List.mem_filter.1 hy).1, ih hs.2⟩
    · exact ih hs.2
theorem listE_R {es : List EntR} (hs : Srt es) (hm : ∀ x ∈ es, mayE x = true) (frm tk : List UInt8) : listE es frm tk = listR frm tk es := by
  unfold listE
  rw [sufK_filter hs hm, cutTo_filter (filter_srt hs _), List.filter_filter]
  unfold listR
  congr 1
  funext x
  unfold passL
  rw [Bool.and_comm]
/-! ## Latest -/
theorem latF_seen (s : Int) : ∀ (l : List EntR) (last : List UInt8) (lo : Option (List UInt8)), (∀ x ∈ l, eKey x ≠ []) → (last = [] → lo = none) → (last ≠ [] → lo = some last) → latF s last l = (seenF s lo l).filter (fun x => !eGone x) := by
  intro l
  induction l with
  | nil => intro last lo _ _ _; rfl
  | cons x l ih =>
    intro last lo hk h1 h2
    have hx := hk x (by simp)
    have hl := fun y hy => hk y (List.mem_cons_of_mem _ hy)
    have hcond : (s < eSeq x ∨ (last ≠ [] ∧ last = eKey x)) ↔ ¬ (eSeq x ≤ s ∧ lo ≠ some (eKey x)) := by
      by_cases hlast : last = []
      · rw [h1 hlast]; simp [hlast]
      · rw [h2 hlast]
        by_cases hq : last = eKey x
        · simp [hlast, hq]
          exact .inr hx
        · simp [hlast, hq]
    rw [latF, seenF]
    by_cases hc : s < eSeq x ∨ (last ≠ [] ∧ last = eKey x)
    · rw [if_pos hc, if_neg (hcond.1 hc)]
      exact ih last lo hl h1 h2
    · have hc2 : eSeq x ≤ s ∧ lo ≠ some (eKey x) := Classical.byContradiction fun h => hc (hcond.2 h)
      rw [if_neg hc, if_pos hc2, List.filter_cons, ih (eKey x) (some (eKey x)) hl (fun h => absurd h hx) (fun _ => rfl)]
      cases eGone x <;> simp
theorem key_ne {x : EntR} (h : mayE x = true) : eKey x ≠ [] := by
  intro e
  have := (mayE_cases h).1
  rw [e] at this
  simp at this
theorem latestE_R {es : List EntR} (hs : Srt es) (hm : ∀ x ∈ es, mayE x = true) (frm tk : List UInt8) (s : Int) : latestE es frm tk s = latR s frm tk es := by
  unfold latestE latR
  rw [latF_seen s _ [] none (fun x hx => key_ne (hm x (listE_sub x hx))) (fun _ => rfl) (fun h => absurd rfl h), listE_R hs hm]
/-! ## What lies ahead of a key and what lies from it on are all -/
theorem cut_all {es : List EntR} (hs : Srt es) (hm : ∀ x ∈ es, mayE x = true) {key : List UInt8} (hk : key ≠ []) : listE es [] key ++ listE es key [] = es := by
  have h1 : listE es [] key = preK key topS es := by
    unfold listE
    rw [sufK_all hm]
    clear hs
    induction es with
    | nil => rfl
    | cons x l ih =>
      have hx := ahead_top (key := key) (hm x (by simp))
      rw [preK]
      by_cases h : aheadK x key topS = true
      · rw [if_pos h, cutTo_cons (.inr (hx.1 h)), ih fun y hy => hm y (by simp [hy])]
      · rw [if_neg h, cutTo_stop fun h2 => h2.elim hk fun h2 => h (hx.2 h2)]
  have h2 : listE es key [] = sufK key topS es := by unfold listE; rw [cutTo_nil]
  rw [h1, h2]
  exact pre_suf key topS es
theorem get_behind {es : List EntR} (hm : ∀ x ∈ es, mayE x = true) (key : List UInt8) (s : Int) : getR key s (listE es key []) = getR key s es := by
  have h2 : listE es key [] = sufK key topS es := by unfold listE; rw [cutTo_nil]
  rw [h2]
  conv => rhs; rw [← pre_suf key topS es]
  refine (getR_app fun x hx hh => ?_).symm
  have h := pre_all x hx
  have hmx : x ∈ es := by rw [← pre_suf key topS es]; exact List.mem_append_left _ hx
  rw [ahead_top (hm x hmx), hh.1, cmpB_refl] at h
  omega
/-- Each is got at its own number. -/
theorem get_own {es : List EntR} (hs : Srt es) : ∀ x ∈ es, getR (eKey x) (eSeq x) es = (x, true) := by
  induction es with
  | nil => intro x h; cases h
  | cons y l ih =>
    intro x hx
    rw [getR]
    rcases List.mem_cons.1 hx with rfl | hx
    · simp
    · have h1 := hs.1 x hx
      rw [aheadE, aheadK_iff] at h1
      rw [if_neg]
      · exact ih hs.2 x hx
      · rintro ⟨h2, h3⟩
        rcases h1 with h1 | ⟨_, h1⟩
        · rw [h2, cmpB_refl] at h1; omega
        · omega
/-! ## In which order they come -/
theorem mem_add {es : List EntR} {e x : EntR} (hd : mayE e = true → hasE es e = false) : x ∈ addE es e ↔ x ∈ es ∨ (mayE e = true ∧ x = e) := by
  unfold addE
  by_cases hm : mayE e = true
  · rw [if_pos hm]
    unfold putE
    rw [hd hm]
    simp only [Bool.false_eq_true, if_false, insE]
    conv => rhs; rw [← pre_suf (eKey e) (eSeq e) es]
    simp only [List.mem_append, List.mem_cons, hm, true_and]
    constructor
    · rintro (h | h | h)
      · exact .inl (.inl h)
      · exact .inr h
      · exact .inl (.inr h)
    · rintro ((h | h) | h)
      · exact .inl h
      · exact .inr (.inr h)
      · exact .inr (.inl h)
  · rw [if_neg hm]
    simp [hm]
theorem has_mem {es : List EntR} {e : EntR} (h : hasE es e = true) : ∃ x ∈ es, eKey x = eKey e ∧ eSeq x = eSeq e := by
  unfold hasE at h
  cases hsf : sufK (eKey e) (eSeq e) es with
  | nil => rw [hsf] at h; cases h
  | cons x l =>
    rw [hsf] at h
    refine ⟨x, sufK_sub (key := eKey e) (s := eSeq e) x (by rw [hsf]; simp), ?_⟩
    simp only [Bool.and_eq_true, decide_eq_true_eq] at h
    exact ⟨h.2, h.1⟩
theorem add_srt {es : List EntR} (h : Srt es) (e : EntR) : Srt (addE es e) := by
  unfold addE
  split
  · exact put_srt h
  · exact h
/-- All of a list, put in one behind the other. -/
def addAll (es : List EntR) : List EntR → List EntR
  | [] => es
  | x :: l => addAll (addE es x) l
theorem addAll_srt {l es : List EntR} (h : Srt es) : Srt (addAll es l) := by
  induction l generalizing es with
  | nil => exact h
  | cons x l ih => exact ih (add_srt h x)
theorem addAll_snoc {l es : List EntR} (x : EntR) : addAll es (l ++ [x]) = addE (addAll es l) x := by
  induction l generalizing es with
  | nil => rfl
  | cons y l ih => exact ih
/-- None like another. -/
def apartE (a b : EntR) : Prop := ¬ (eKey a = eKey b ∧ eSeq a = eSeq b)
theorem addAll_mem {l es : List EntR} (hp : l.Pairwise apartE) (hq : ∀ a ∈ es, ∀ b ∈ l, apartE a b) (x : EntR) : x ∈ addAll es l ↔ x ∈ es ∨ (x ∈ l ∧ mayE x = true) := by
  induction l generalizing es with
  | nil => simp [addAll]
  | cons y l ih =>
    rw [List.pairwise_cons] at hp
    have hd : mayE y = true → hasE es y = false := fun _ => by
      cases hh : hasE es y
      · rfl
      · obtain ⟨a, ha, hk⟩ := has_mem hh
        exact absurd hk (hq a ha y (by simp))
    have hm := fun z => mem_add (es := es) (e := y) (x := z) hd
    have := ih (es := addE es y) hp.2 (fun a ha b hb => by
      rcases (hm a).1 ha with h | ⟨_, rfl⟩
      · exact hq a h b (by simp [hb])
      · exact hp.1 b hb)
    rw [show addAll es (y :: l) = addAll (addE es y) l from rfl, this, hm]
    constructor
    · rintro ((h | ⟨h1, rfl⟩) | ⟨h1, h2⟩)
      · exact .inl h
      · exact .inr ⟨by simp, h1⟩
      · exact .inr ⟨by simp [h1], h2⟩
    · rintro (h | ⟨h1, h2⟩)
      · exact .inl (.inl h)
      · rcases List.mem_cons.1 h1 with rfl | h1
        · exact .inl (.inr ⟨h2, rfl⟩)
        · exact .inr ⟨h1, h2⟩
theorem srt_ext {l m : List EntR} (hl : Srt l) (hm : Srt m) (h : ∀ x, x ∈ l ↔ x ∈ m) : l = m := by
  induction l generalizing m with
  | nil =>
    cases m with
    | nil => rfl
    | cons y m => exact absurd ((h y).2 (by simp)) (by simp)
  | cons x l ih =>
    cases m with
    | nil => exact absurd ((h x).1 (by simp)) (by simp)
    | cons y m =>
      have hxy : x = y := by
        rcases List.mem_cons.1 ((h x).1 (by simp)) with h1 | h1
        · exact h1
        · rcases List.mem_cons.1 ((h y).2 (by simp)) with h2 | h2
          · exact h2.symm
          · have a1 := hl.1 y h2
            have a2 := hm.1 x h1
            have := ahead_trans (a := x) (b := y) (key := eKey x) (s := eSeq x) a1 a2
            have h0 := ahead_irrefl x
            rw [aheadE] at h0
            rw [h0] at this
            cases this
      subst hxy
      congr 1
      refine ih hl.2 hm.2 fun z => ?_
      have hz := h z
      simp only [List.mem_cons] at hz
      constructor
      · intro hzl
        rcases hz.1 (.inr hzl) with h1 | h1
        · subst h1
          have a1 := hl.1 z hzl
          rw [ahead_irrefl] at a1
          cases a1
        · exact h1
      · intro hzm
        rcases hz.2 (.inr hzm) with h1 | h1
        · subst h1
          have a1 := hm.1 z hzm
          rw [ahead_irrefl] at a1
          cases a1
        · exact h1
theorem addAll_rev {l : List EntR} (hp : l.Pairwise apartE) : addAll [] l = addAll [] l.reverse := by
  have hp2 : l.reverse.Pairwise apartE := by
    rw [List.pairwise_reverse]
    exact hp.imp fun h hh => h ⟨hh.1.symm, hh.2.symm⟩
  refine srt_ext (addAll_srt trivial) (addAll_srt trivial) fun x => ?_
  rw [addAll_mem hp (fun a ha => by cases ha), addAll_mem hp2 (fun a ha => by cases ha)]
  simp
end Go.Proofs.YtkkclkknpjapcaaDoor
/-! ### Vint -/
namespace Go.Proofs.YtkkclkknpjapcaaDoor
set_option linter.unusedVariables false
set_option linter.unusedSimpArgs false

/-! ## uvarints -/
def uvarF : Nat → Nat → List UInt8
  | 0, _ => []
  | f + 1, n => if n < 128 then [UInt8.ofNat n] else UInt8.ofNat (n % 128 + 128) :: uvarF f (n / 128)
/-- A uvarint of a number of 64 bits. -/
def uvar (n : Nat) : List UInt8 := uvarF 10 n
theorem uvarF_small {f n : Nat} (h : n < 128) : uvarF (f + 1) n = [UInt8.ofNat n] := by unfold uvarF; rw [if_pos h]
theorem uvarF_big {f n : Nat} (h : ¬ n < 128) : uvarF (f + 1) n = UInt8.ofNat (n % 128 + 128) :: uvarF f (n / 128) := by
  conv => lhs; unfold uvarF
  rw [if_neg h]
theorem uvarF_len (f : Nat) : ∀ n, (uvarF f n).length ≤ f := by
  induction f with
  | zero => intro n; simp [uvarF]
  | succ f ih =>
    intro n
    by_cases h : n < 128
    · rw [uvarF_small h]; simp
    · rw [uvarF_big h]; have := ih (n / 128); simp; omega
theorem uvar_len (n : Nat) : (uvar n).length ≤ 10 := uvarF_len 10 n
theorem uvarF_pos {f n : Nat} (h : 0 < f) : 0 < (uvarF f n).length := by
  obtain ⟨g, rfl⟩ : ∃ g, f = g + 1 := ⟨f - 1, by omega⟩
  by_cases h : n < 128
  · rw [uvarF_small h]; simp
  · rw [uvarF_big h]; simp
/-- How many bytes at the front have the highest bit. -/
def leadU : List UInt8 → Nat
  | [] => 0
  | x :: l => if 128 ≤ x.toNat then leadU l + 1 else 0
def valU : List UInt8 → Nat
  | [] => 0
  | x :: l => x.toNat % 128 + 128 * valU l
/-- The number at the front, how many bytes it has, the error. -/
def takeU (l : List UInt8) : Nat × Nat × Nat :=
  if leadU l = l.length then (0, 0, 5)
  else if 9 < leadU l ∨ (leadU l = 9 ∧ 1 < bAt l (leadU l)) ∨ (0 < leadU l ∧ bAt l (leadU l) = 0) then (0, 0, 3)
  else (valU (l.take (leadU l + 1)), leadU l + 1, 0)
theorem leadU_le : ∀ l : List UInt8, leadU l ≤ l.length := by
  intro l
  induction l with
  | nil => exact Nat.le_refl _
  | cons x l ih => unfold leadU; split <;> simp <;> omega
theorem leadU_eq : ∀ (l : List UInt8) (k : Nat), k ≤ l.length → (∀ j, j < k → 128 ≤ bAt l j) → (k = l.length ∨ bAt l k < 128) → leadU l = k := by
  intro l
  induction l with
  | nil => intro k hk _ _; simp at hk; subst hk; rfl
  | cons x l ih =>
    intro k hk hj he
    unfold leadU
    cases k with
    | zero =>
      rcases he with he | he
      · simp at he
      · have : x.toNat < 128 := by simpa [bAt] using he
        rw [if_neg (by omega)]
    | succ k =>
      have h0 : 128 ≤ x.toNat := by simpa [bAt] using hj 0 (by omega)
      rw [if_pos h0, ih k (by simpa using hk) (fun j hjk => by simpa [bAt] using hj (j + 1) (by omega)) (by
        rcases he with he | he
        · exact .inl (by simpa using he)
        · exact .inr (by simpa [bAt] using he))]
theorem leadU_high : ∀ (l : List UInt8) (j : Nat), j < leadU l → 128 ≤ bAt l j := by
  intro l
  induction l with
  | nil => intro j h; simp [leadU] at h
  | cons x l ih =>
    intro j h
    unfold leadU at h
    split at h
    · cases j with
      | zero => simpa [bAt]
      | succ j => simpa [bAt] using ih j (by omega)
    · omega
theorem leadU_low (l : List UInt8) (h : leadU l < l.length) : bAt l (leadU l) < 128 := by
  induction l with
  | nil => simp at h
  | cons x l ih =>
    unfold leadU at h ⊢
    split
    · rename_i hx
      rw [if_pos hx] at h
      simpa [bAt] using ih (by simpa using h)
    · simp [bAt]; omega
theorem valU_lt : ∀ l : List UInt8, valU l < 128 ^ l.length := by
  intro l
  induction l with
  | nil => simp [valU]
  | cons x l ih =>
    have := Nat.mod_lt x.toNat (show 128 > 0 by omega)
    simp only [valU, List.length_cons, Nat.pow_succ]
    omega
theorem valU_append : ∀ l m : List UInt8, valU (l ++ m) = valU l + 128 ^ l.length * valU m := by
  intro l
  induction l with
  | nil => intro m; simp [valU]
  | cons x l ih =>
    intro m
    simp only [List.cons_append, valU, ih, List.length_cons, Nat.pow_succ]
    rw [Nat.mul_add, ← Nat.mul_assoc, Nat.mul_comm 128 (128 ^ l.length)]
    omega
/-- What has been gathered from the last byte down to byte j. -/
def partU (l : List UInt8) (k j : Nat) : Nat := valU ((l.take (k + 1)).drop j)
theorem partU_end (l : List UInt8) (k : Nat) : partU l k (k + 1) = 0 := by
  unfold partU
  rw [List.drop_eq_nil_of_le (by simp; omega)]
  rfl
theorem partU_step (l : List UInt8) (k j : Nat) (hj : j ≤ k) (hk : k < l.length) : partU l k j = bAt l j % 128 + 128 * partU l k (j + 1) := by
  unfold partU
  rw [List.drop_eq_getElem_cons (by simp; omega)]
  simp only [valU, List.getElem_take]
  rw [bAt_get (by omega)]
theorem partU_zero (l : List UInt8) (k : Nat) : partU l k 0 = valU (l.take (k + 1)) := by simp [partU]
theorem pow128_le {a b : Nat} (h : a ≤ b) : 128 ^ a ≤ 128 ^ b := Nat.pow_le_pow_right (by omega) h
/-- A number that may be keeps within 64 bits all the way. -/
theorem partU_lt (l : List UInt8) (k j : Nat) (hk : k < l.length) (h9 : k ≤ 9) (ht : k = 9 → bAt l k ≤ 1) (hj : 1 ≤ j) (hjk : j ≤ k + 1) : partU l k j < 144115188075855872 := by
  by_cases h : k < 9
  · have h1 := valU_lt ((l.take (k + 1)).drop j)
    have h2 : ((l.take (k + 1)).drop j).length ≤ 8 := by simp; omega
    exact Nat.lt_of_lt_of_le h1 (Nat.le_trans (pow128_le h2) (by decide))
  · obtain rfl : k = 9 := by omega
    by_cases hj10 : j = 10
    · subst hj10; rw [partU_end]; omega
    · have e : (l.take 10).drop j = (l.take 9).drop j ++ [l[9]] := by
        rw [List.take_succ_eq_append_getElem hk, List.drop_append_of_le_length (by simp; omega)]
      have hb : (l[9]).toNat ≤ 1 := by rw [← bAt_get hk]; exact ht rfl
      unfold partU
      rw [e, valU_append]
      have h1 := valU_lt ((l.take 9).drop j)
      have hlen : ((l.take 9).drop j).length ≤ 8 := by simp; omega
      have h2 := pow128_le hlen
      have h3 : valU [l[9]] ≤ 1 := by simp [valU]; omega
      have h4 : 128 ^ ((l.take 9).drop j).length * valU [l[9]] ≤ 128 ^ 8 * 1 := Nat.mul_le_mul h2 h3
      have e8 : (128 : Nat) ^ 8 = 72057594037927936 := by decide
      omega
theorem partU_lt64 (l : List UInt8) (k : Nat) (hk : k < l.length) (h9 : k ≤ 9) (ht : k = 9 → bAt l k ≤ 1) : partU l k 0 < 18446744073709551616 := by
  rw [partU_step l k 0 (by omega) hk, Nat.zero_add]
  have := partU_lt l k 1 hk h9 ht (by omega) (by omega)
  omega
theorem takeU_lt (l : List UInt8) : (takeU l).1 < 18446744073709551616 ∧ (takeU l).2.1 ≤ l.length ∧ (takeU l).2.1 ≤ 10 ∧ (takeU l).2.2 ≤ 5 := by
  have hl := leadU_le l
  unfold takeU
  split
  · simp
  · split
    · simp
    · rename_i h1 h2
      have := partU_lt64 l (leadU l) (by omega) (by omega) (by omega)
      rw [partU_zero] at this
      exact ⟨this, by simp; omega, by simp; omega, by simp⟩
end Go.Proofs.YtkkclkknpjapcaaDoor
