/- Shared texts, part S33: TbO0, TbO, TbQ. -/
import Derived.Test.YtkkclkknpjapcaaDoorS32
import Derived.Test.YtkkclkknpjapcaaDoorS06
/-! ### TbO0 -/
namespace Go.Proofs.YtkkclkknpjapcaaDoor
open Go.RowKit
set_option linter.unusedVariables false
set_option linter.unusedSimpArgs false

def topQ : Int := 9223372036854775807
theorem tgetR_none {key : List UInt8} {s : Int} : ∀ {l : List EntR}, (∀ x ∈ l, ¬ (eKey x = key ∧ eSeq x ≤ s)) → getR key s l = (noEnt, false)
  | [], _ => rfl
  | x :: l, h => by
    rw [getR, if_neg (h x List.mem_cons_self)]
    exact tgetR_none fun y hy => h y (List.mem_cons_of_mem _ hy)
theorem tgetR_app {key : List UInt8} {s : Int} : ∀ {l m : List EntR}, (∀ x ∈ l, ¬ (eKey x = key ∧ eSeq x ≤ s)) → getR key s (l ++ m) = getR key s m
  | [], _, _ => rfl
  | x :: l, m, h => by
    rw [List.cons_append, getR, if_neg (h x List.mem_cons_self)]
    exact tgetR_app fun y hy => h y (List.mem_cons_of_mem _ hy)
theorem mem_elt {es : List EntR} {x : EntR} (h : x ∈ es) : ∃ j, j < es.length ∧ elt noEnt es j = x := by
  obtain ⟨j, hj, rfl⟩ := List.getElem_of_mem h
  exact ⟨j, hj, elt_get noEnt hj⟩
theorem mem_take_elt {es : List EntR} {m : Nat} {x : EntR} (h : x ∈ es.take m) : ∃ j, j < m ∧ j < es.length ∧ elt noEnt es j = x := by
  obtain ⟨j, hj, hx⟩ := mem_elt h
  rw [List.length_take] at hj
  rw [elt_take' _ _ _ _ (by omega)] at hx
  exact ⟨j, by omega, by omega, hx⟩
theorem mem_drop_elt {es : List EntR} {m : Nat} {x : EntR} (h : x ∈ es.drop m) : ∃ j, m ≤ j ∧ j < es.length ∧ elt noEnt es j = x := by
  obtain ⟨j, hj, hx⟩ := mem_elt h
  rw [List.length_drop] at hj
  rw [elt_drop'] at hx
  exact ⟨m + j, by omega, by omega, hx⟩
/-- Get by the place. -/
theorem getR_pos {es : List EntR} {key : List UInt8} {s : Int} {m : Nat} (hp : PosA es key s m) (hs : Srt es) : getR key s es = if m < es.length ∧ eKey (elt noEnt es m) = key then (elt noEnt es m, true) else (noEnt, false) := by
  obtain ⟨h1, h2, h3⟩ := hp
  have e : getR key s es = getR key s (es.drop m) := by
    conv => lhs; rw [← List.take_append_drop m es]
    refine tgetR_app fun x hx => ?_
    obtain ⟨j, hj, _, rfl⟩ := mem_take_elt hx
    have := aheadK_iff.1 (h2 j hj)
    rintro ⟨e1, e2⟩
    rcases this with h | ⟨_, h⟩
    · rw [e1, (cmpB_zero key key).2 rfl] at h; omega
    · omega
  rw [e]
  by_cases hm : m < es.length
  · have hn := aheadK_not.1 (h3 m (Nat.le_refl _) hm)
    by_cases hk : eKey (elt noEnt es m) = key
    · rw [if_pos ⟨hm, hk⟩, drop_elt hm, getR]
      rcases hn with h | ⟨_, h⟩
      · rw [hk, (cmpB_zero key key).2 rfl] at h; omega
      · rw [if_pos ⟨hk, h⟩]
    · rw [if_neg (fun h => hk h.2)]
      have hgt : 0 < cmpB (eKey (elt noEnt es m)) key := by
        rcases hn with h | ⟨h, _⟩
        · exact h
        · exact absurd h hk
      refine tgetR_none fun x hx => ?_
      obtain ⟨j, hj1, hj2, rfl⟩ := mem_drop_elt hx
      rintro ⟨e1, _⟩
      rcases Nat.lt_or_ge m j with hlt | hge
      · have ha := hs.at_ m j hlt hj2
        rcases aheadK_iff.1 ha with h | ⟨h, _⟩
        · rw [e1] at h; omega
        · exact hk (h.trans e1)
      · obtain rfl : j = m := by omega
        exact hk e1
  · rw [if_neg (fun h => hm h.1), List.drop_eq_nil_of_le (by omega), getR]
/-- A key of a table is in its filter. -/
theorem keysU_mem (es : List EntR) : ∀ k j, j < k → ∃ i, i < (keysU es k).length ∧ elt [] (keysU es k) i = eKey (elt noEnt es j) := by
  intro k
  induction k with
  | zero => intro j hj; omega
  | succ k ih =>
    intro j hj
    have old : ∀ i L, i < (keysU es k).length → elt [] (keysU es k) i = L → ∃ i', i' < (keysU es k ++ [eKey (elt noEnt es k)]).length ∧ elt [] (keysU es k ++ [eKey (elt noEnt es k)]) i' = L := fun i L h1 h2 => ⟨i, by simp; omega, by rw [elt_left' _ _ _ h1]; exact h2⟩
    rw [keysU]
    by_cases hjk : j < k
    · obtain ⟨i, h1, h2⟩ := ih j hjk
      split
      · exact old i _ h1 h2
      · exact ⟨i, h1, h2⟩
    · obtain rfl : j = k := by omega
      split
      · refine ⟨(keysU es j).length, by simp, ?_⟩
        rw [elt_right' _ _ _ (Nat.le_refl _)]
        simp [elt]
      · rename_i hn
        have hj0 : j ≠ 0 := fun e => hn (.inl e)
        have he : eKey (elt noEnt es (j - 1)) = eKey (elt noEnt es j) := Classical.byContradiction fun h => hn (.inr h)
        obtain ⟨i, h1, h2⟩ := ih (j - 1) (by omega)
        exact ⟨i, h1, h2.trans he⟩
theorem filt_has {es : List EntR} {x : EntR} (h : x ∈ es) : hasB (filtB es) (eKey x) = true := by
  obtain ⟨j, hj, rfl⟩ := mem_elt h
  obtain ⟨i, h1, h2⟩ := keysU_mem es es.length j hj
  exact hasB_in h1 h2
/-- List by the places. -/
theorem listR_pos {es : List EntR} {frm tk : List UInt8} {m k : Nat} (hp : PosA es frm topQ m) (hs : Srt es) (hm : AllM es) (hmk : m ≤ k) (hk : k ≤ es.length) (hall : ∀ t, m ≤ t → t < k → tk = [] ∨ cmpB (eKey (elt noEnt es t)) tk < 0) (hend : k = es.length ∨ ¬ (tk = [] ∨ cmpB (eKey (elt noEnt es k)) tk < 0)) :
    listR frm tk es = (es.drop m).take (k - m) := by
  obtain ⟨h1, h2, h3⟩ := hp
  have e : es = es.take m ++ ((es.drop m).take (k - m) ++ es.drop k) := by
    conv => lhs; rw [← List.take_append_drop m es, ← List.take_append_drop (k - m) (es.drop m)]
    rw [List.drop_drop, show m + (k - m) = k by omega]
  have p1 : (es.take m).filter (passL frm tk) = [] := by
    rw [List.filter_eq_nil_iff]
    intro x hx
    obtain ⟨j, hj, hj2, rfl⟩ := mem_take_elt hx
    have hsq := (mayE_cases (hm j hj2)).2.2.2.2
    unfold passL
    rcases aheadK_iff.1 (h2 j hj) with h | ⟨_, h⟩
    · rw [decide_eq_false (by omega)]; simp
    · unfold topQ at h; omega
  have p2 : ((es.drop m).take (k - m)).filter (passL frm tk) = (es.drop m).take (k - m) := by
    rw [List.filter_eq_self]
    intro x hx
    obtain ⟨j, hj, hj2, rfl⟩ := mem_take_elt hx
    rw [List.length_drop] at hj2
    rw [elt_drop']
    have ha := hall (m + j) (by omega) (by omega)
    have hb := aheadK_not.1 (h3 (m + j) (by omega) (by omega))
    unfold passL
    have hge : 0 ≤ cmpB (eKey (elt noEnt es (m + j))) frm := by
      rcases hb with h | ⟨h, _⟩
      · omega
      · rw [h, (cmpB_zero frm frm).2 rfl]; omega
    rw [decide_eq_true hge]
    rcases ha with h | h
    · rw [decide_eq_true h]; rfl
    · rw [decide_eq_true h]; simp
  have p3 : (es.drop k).filter (passL frm tk) = [] := by
    rw [List.filter_eq_nil_iff]
    intro x hx
    obtain ⟨j, hj, hj2, rfl⟩ := mem_drop_elt hx
    rcases hend with h | h
    · omega
    · have ht : tk ≠ [] := fun e => h (.inl e)
      have hc : ¬ cmpB (eKey (elt noEnt es k)) tk < 0 := fun e => h (.inr e)
      have hj3 : ¬ cmpB (eKey (elt noEnt es j)) tk < 0 := by
        rcases Nat.lt_or_ge k j with hlt | hge
        · intro hlt2
          rcases aheadK_iff.1 (hs.at_ k j hlt hj2) with h4 | ⟨h4, _⟩
          · exact hc (cmpB_trans _ _ _ h4 hlt2)
          · rw [h4] at hc; exact hc hlt2
        · obtain rfl : j = k := by omega
          exact hc
      unfold passL
      rw [decide_eq_false ht, decide_eq_false hj3]
      simp
  unfold listR
  conv => lhs; rw [e]
  rw [List.filter_append, List.filter_append, p1, p2, p3]
  simp
theorem listR_all (es : List EntR) : listR [] [] es = es := by
  unfold listR
  rw [List.filter_eq_self]
  intro x _
  unfold passL
  rw [decide_eq_true (cmpB_nil_right _)]
  rfl
end Go.Proofs.YtkkclkknpjapcaaDoor
/-! ### TbO -/
namespace Go.Proofs.YtkkclkknpjapcaaDoor
open Go.RowKit
set_option linter.unusedVariables false
set_option linter.unusedSimpArgs false

theorem zero_get {w W : World} {b : Nat} (hb : W.heap[b]? = some (.cells #[.slice none 0 0, .int .i64 0, .bool false, .int .i64 0, .slice none 0 0] 29 (0, 0))) (hB : Below w.heap.size w W) (hle : w.heap.size ≤ b) (es : List EntR) (key : List UInt8) (s : Int) (h : getR key s es = (noEnt, false)) :
    GetRC w (((((W.setCell ⟨b, 0, none⟩ (.slice none 0 0)).setCell ⟨b, 1, none⟩ (.int .i64 0)).setCell ⟨b, 2, none⟩ (.bool false)).setCell ⟨b, 3, none⟩ (.int .i64 0)).setCell ⟨b, 4, none⟩ (.slice none 0 0)) (getR key s es).1 (getR key s es).2 (.returned (.tuple #[.agg #[.slice none 0 0, .int .i64 0, .bool false, .int .i64 0, .slice none 0 0], .bool false])) := by
  rw [h]
  exact GetRC.none (hB.grown (grown_set5 W b _ _ _ _ _) hB.size (fun k hk => by cases hk; exact hle))
set_option maxHeartbeats 16000000 in
set_option maxRecDepth 100000 in
theorem tget_any (bt : Nat) (es : List EntR) (fil : List UInt8) (Ar : Option Addr) (nr cr : Nat) (key : List UInt8) (s : Int) (w : World) (h : TabR w bt es fil) (hk : RB w Ar nr key) (hs : Srt es) (hm : AllM es) (hn : es.length ≤ 1000000) (hfil : ∀ x ∈ es, hasB fil (eKey x) = true) :
    Calls Tryd.prog 10 #[.pointer (some ⟨bt, 0, none⟩), .slice Ar nr cr, .int .i64 s] w fun r w' => GetRC w w' (getR key s es).1 (getR key s es).2 r := by
  have hx0 := heap_alloc_new w (.cells #[.slice none 0 0, .int .i64 0, .bool false, .int .i64 0, .slice none 0 0] 29)
  have hB0 := below_alloc' (Below.refl w.heap.size w) (.cells #[.slice none 0 0, .int .i64 0, .bool false, .int .i64 0, .slice none 0 0] 29)
  have HT := hid (h.below hB0)
  have HK := hid (hk.below hB0)
  have HS := hid hs
  have HM := hid hm
  have HNo : Hid (hasB fil key = false → getR key s es = (noEnt, false)) := hid (fun hf => tgetR_none fun x hx hh => by
    have := hfil x hx
    rw [hh.1, hf] at this
    cases this)
  have HPos : Hid (∀ m, PosA es key s m → getR key s es = if m < es.length ∧ eKey (elt noEnt es m) = key then (elt noEnt es m, true) else (noEnt, false)) := hid (fun m hp => getR_pos hp hs)
  clear h hk hs hm hfil
  obtain ⟨b, hb⟩ : ∃ b, w.heap.size = b := ⟨_, rfl⟩
  have HBe := hid hb
  cases hf : hasB fil key
  · have HF := hid hf
    have HG := hid (HNo.out hf)
    clear hf
    have hx0' : (w.alloc (.cells #[.slice none 0 0, .int .i64 0, .bool false, .int .i64 0, .slice none 0 0] 29)).heap[b]? = some (.cells #[.slice none 0 0, .int .i64 0, .bool false, .int .i64 0, .slice none 0 0] 29 (0, 0)) := by rw [← hb]; exact hx0
    have HX := hid hx0'
    have HB0 := hid hB0
    clear hx0 hB0 hx0'
    go_enter Tryd.func10, Tryd.ntmps10
    go_upto_region 2 with (go_at_call 40; (with_reducible refine (tmay_any bt es fil Ar nr cr key _ HT.out HK.out).mono ?_); rintro e w1 ⟨rfl, hb1⟩; rw [HF.out]; have HB1 := hid (below_then HB0.out hb1); have HQ1 := hid (blk_below hb1 HX.out); clear hb1)
    try rw [hb]
    obtain ⟨z0, z1, z2, z3, z4⟩ := box5 HQ1.out
    have f1 := fun i => frozen_of_row _ b i _ _ HQ1.out
    go_wp2
    have hfin := set5 (.slice none 0 0) (.int .i64 0) (.bool false) (.int .i64 0) (.slice none 0 0) HQ1.out
    exact bodyPost_ret (results_box2 (fn := Tryd.f10) (p := 6) (u := 7) (ty := 29) rfl _ _ b 29 _ (0, 0) _ rfl hfin Tryd.underlying29 rfl entry5) rfl (zero_get HQ1.out HB1.out (Nat.le_of_eq HBe.out) es key s HG.out)
  · have HF := hid hf
    clear hf HNo
    have hx0' : (w.alloc (.cells #[.slice none 0 0, .int .i64 0, .bool false, .int .i64 0, .slice none 0 0] 29)).heap[b]? = some (.cells #[.slice none 0 0, .int .i64 0, .bool false, .int .i64 0, .slice none 0 0] 29 (0, 0)) := by rw [← hb]; exact hx0
    have HX := hid hx0'
    have HB0 := hid hB0
    clear hx0 hB0 hx0'
    go_enter Tryd.func10, Tryd.ntmps10
    go_upto_region 4 with (first
      | (go_at_call 40; (with_reducible refine (tmay_any bt es fil Ar nr cr key _ HT.out HK.out).mono ?_); rintro e w1 ⟨rfl, hb1⟩; rw [HF.out]; have HT1 := hid (HT.out.below hb1); have HK1 := hid (HK.out.below hb1); have HX1 := hid (blk_below hb1 HX.out); have HB1 := hid (below_then HB0.out hb1); clear hb1)
      | (go_at_call 41; (with_reducible refine (tfirst_any bt es fil Ar nr cr key s _ HT1.out HK1.out HS.out hn).mono ?_); rintro r w2 ⟨m, rfl, hpos, hb2⟩; have HP := hid hpos; have HT2 := hid (HT1.out.below hb2); have HK2 := hid (HK1.out.below hb2); have HX2 := hid (blk_below hb2 HX1.out); have HB2 := hid (below_then HB1.out hb2); clear hpos hb2))
    try rw [hb]
    have hG := HPos.out m HP.out
    have hml := HP.out.1
    obtain ⟨z0, z1, z2, z3, z4⟩ := box5 HX2.out
    have f1 := fun i => frozen_of_row _ b i _ _ HX2.out
    clear HPos HT HK HX HB0 HT1 HK1 HX1 HB1 HF
    by_cases hmlt : m < es.length
    · obtain ⟨A, n, c, Af, mf, cf, h1, h2, hc, _⟩ := HT2.out
      have hen1 := h2.1
      have hmax := h2.2.1
      have q0 := box_at h1 0 _ rfl
      obtain ⟨ad, rfl, hen⟩ := h2.at_ (show m < n by omega)
      have hmn : m < n := by omega
      have hmx := mayE_cases (HM.out m hmlt)
      obtain ⟨x, hx⟩ : ∃ x, elt noEnt es m = x := ⟨_, rfl⟩
      rw [hx] at hen hmx hG
      obtain ⟨Ak, nk, ck, Av, nv, cv, a0, a1, a2, a3, a4, a5, a6, a7, a8⟩ := hen
      have e5 := a5.1
      have e6 := a6.1
      have hnk : nk ≤ 140737488355328 := by omega
      have hnv : nv ≤ 140737488355328 := by omega
      have HKV := hid (⟨a5, a6⟩ : _ ∧ _)
      have hml2 : ((m : Int) == (es.length : Int)) = false := by rw [beq_eq_false_iff_ne]; omega
      clear h1 h2 a5 a6 hmx e5 e6
      by_cases hkey : eKey x = key
      · rw [if_pos ⟨hmlt, hkey⟩] at hG
        have HG := hid hG
        have HEq : Hid (decide (eKey x = key) = true) := hid (decide_eq_true hkey)
        clear hG hkey hx
        go_wp2_with (first
          | (go_at_call 20; (with_reducible refine (tlen_any bt es fil _ HT2.out).mono ?_); rintro e w3 ⟨rfl, rfl⟩)
          | (go_at_call 24; (with_reducible refine (equal_any Ak nk ck _ Ar nr cr key _ HKV.out.1 HK2.out).mono ?_); rintro r w3 ⟨rfl, rfl⟩; rw [HEq.out])
          | (go_at_call 42; (with_reducible refine (town_any Ak nk ck (eKey x) (eSeq x) (eGone x) (eTil x) Av nv cv (eVal x) _ HKV.out.1 HKV.out.2 hnk hnv).mono ?_); rintro r w4 ⟨kv, vv, rfl, ok1, ov1, hb4⟩; have hq4 := blk_below hb4 HX2.out; obtain ⟨y0, y1, y2, y3, y4⟩ := box5 hq4; have f4 := fun i => frozen_of_row _ b i _ _ hq4; have HQ4 := hid hq4; have HB4 := hid (below_then HB2.out hb4); obtain ⟨A4, c4, rfl, _, _⟩ := ok1.open_; obtain ⟨A5, c5, rfl, _, _⟩ := ov1.open_; have HO := hid (⟨ok1, ov1⟩ : _ ∧ _); clear ok1 ov1 hb4 hq4))
        have hfin := set5 (.slice A4 (eKey x).length c4) (.int .i64 (eSeq x)) (.bool (eGone x)) (.int .i64 (eTil x)) (.slice A5 (eVal x).length c5) HQ4.out
        have hgf := grown_set5 w4 b (.slice A4 (eKey x).length c4) (.int .i64 (eSeq x)) (.bool (eGone x)) (.int .i64 (eTil x)) (.slice A5 (eVal x).length c5)
        refine bodyPost_ret (results_box2 (fn := Tryd.f10) (p := 6) (u := 7) (ty := 29) rfl _ _ b 29 _ (0, 0) _ rfl hfin Tryd.underlying29 rfl entry5) rfl ?_
        rw [HG.out]
        exact ⟨A4, _, c4, A5, _, c5, rfl, (HO.out.1.other hgf (.inr (HO.out.1.ne_blk HQ4.out (by decide)))).rb.1, (HO.out.2.other hgf (.inr (HO.out.2.ne_blk HQ4.out (by decide)))).rb.1, HB4.out.grown hgf HB4.out.size (fun k hk => by cases hk; exact Nat.le_of_eq HBe.out)⟩
      · rw [if_neg (fun h => hkey h.2)] at hG
        have HG := hid hG
        have HEq : Hid (decide (eKey x = key) = false) := hid (decide_eq_false hkey)
        clear hG hkey hx
        go_wp2_with (first
          | (go_at_call 20; (with_reducible refine (tlen_any bt es fil _ HT2.out).mono ?_); rintro e w3 ⟨rfl, rfl⟩)
          | (go_at_call 24; (with_reducible refine (equal_any Ak nk ck _ Ar nr cr key _ HKV.out.1 HK2.out).mono ?_); rintro r w3 ⟨rfl, rfl⟩; rw [HEq.out]))
        have hfin := set5 (.slice none 0 0) (.int .i64 0) (.bool false) (.int .i64 0) (.slice none 0 0) HX2.out
        exact bodyPost_ret (results_box2 (fn := Tryd.f10) (p := 6) (u := 7) (ty := 29) rfl _ _ b 29 _ (0, 0) _ rfl hfin Tryd.underlying29 rfl entry5) rfl (zero_get HX2.out HB2.out (Nat.le_of_eq HBe.out) es key s HG.out)
    · rw [if_neg (fun h => hmlt h.1)] at hG
      have HG := hid hG
      have hml2 : ((m : Int) == (es.length : Int)) = true := by rw [beq_iff_eq]; omega
      clear hG hmlt
      go_wp2_with (go_at_call 20; (with_reducible refine (tlen_any bt es fil _ HT2.out).mono ?_); rintro e w3 ⟨rfl, rfl⟩)
      have hfin := set5 (.slice none 0 0) (.int .i64 0) (.bool false) (.int .i64 0) (.slice none 0 0) HX2.out
      exact bodyPost_ret (results_box2 (fn := Tryd.f10) (p := 6) (u := 7) (ty := 29) rfl _ _ b 29 _ (0, 0) _ rfl hfin Tryd.underlying29 rfl entry5) rfl (zero_get HX2.out HB2.out (Nat.le_of_eq HBe.out) es key s HG.out)
end Go.Proofs.YtkkclkknpjapcaaDoor
/-! ### TbQ -/
namespace Go.Proofs.YtkkclkknpjapcaaDoor
open Go.RowKit
set_option linter.unusedVariables false
set_option linter.unusedSimpArgs false

/-- What List leaves. -/
def RowO (w w' : World) (es : List EntR) (r : Ending) : Prop := ∃ v, r = .returned v ∧ ROw w' w.heap.size v es ∧ Below w.heap.size w w'
theorem drop_take_succ {es : List EntR} {m k : Nat} (hmk : m ≤ k) (hk : k < es.length) : (es.drop m).take (k + 1 - m) = (es.drop m).take (k - m) ++ [elt noEnt es k] := by
  rw [show k + 1 - m = (k - m) + 1 by omega, take_succ_elt noEnt (by rw [List.length_drop]; omega), elt_drop', show m + (k - m) = k by omega]
set_option maxHeartbeats 32000000 in
set_option maxRecDepth 100000 in
theorem tlist_any (bt : Nat) (es : List EntR) (fil : List UInt8) (Ar : Option Addr) (nr cr : Nat) (frm : List UInt8) (At : Option Addr) (nt ct : Nat) (tk : List UInt8) (w : World) (h : TabR w bt es fil) (hf : RB w Ar nr frm) (ht : RB w At nt tk) (hs : Srt es) (hm : AllM es) (hn : es.length ≤ 1000000) :
    Calls Tryd.prog 14 #[.pointer (some ⟨bt, 0, none⟩), .slice Ar nr cr, .slice At nt ct] w fun r w' => RowO w w' (listR frm tk es) r := by
  have htl := ht.1
  have htm := ht.2.1
  have HT := hid h
  have HF := hid hf
  have HTk := hid ht
  have HS := hid hs
  have HM := hid hm
  have HFin : Hid (∀ m k, PosA es frm topQ m → m ≤ k → k ≤ es.length → (∀ t, m ≤ t → t < k → tk = [] ∨ cmpB (eKey (elt noEnt es t)) tk < 0) → (k = es.length ∨ ¬ (tk = [] ∨ cmpB (eKey (elt noEnt es k)) tk < 0)) → listR frm tk es = (es.drop m).take (k - m)) := hid (fun m k h1 h2 h3 h4 h5 => listR_pos h1 hs hm h2 h3 h4 h5)
  clear h hf ht hs hm
  go_enter Tryd.func14, Tryd.ntmps14
  go_wp2_with (go_at_call 41; (with_reducible refine (tfirst_any bt es fil Ar nr cr frm 9223372036854775807 _ HT.out HF.out HS.out hn).mono ?_); rintro r w1 ⟨m, rfl, hpos, hb1⟩; have HP := hid hpos; have HB1 := hid hb1; clear hpos hb1)
  have hml := HP.out.1
  go_loopw [7, 8] (fun ov i wr => ∃ (k : Nat) (V : List (List Value)), m ≤ k ∧ k ≤ es.length ∧ i = .int .i64 k ∧ OV wr w.heap.size 29 5 ov V ∧ RelV noEnt (PEo wr w.heap.size) V ((es.drop m).take (k - m)) ∧ (∀ t, m ≤ t → t < k → tk = [] ∨ cmpB (eKey (elt noEnt es t)) tk < 0) ∧ Below w.heap.size w wr) (fun _ i wr => es.length - (intOf i).toNat)
  case atStart => exact ⟨m, [], Nat.le_refl _, hml, rfl, OV.nil _ _ _ _, by rw [Nat.sub_self]; exact RelV.nil, fun t h1 h2 => absurd h2 (by omega), HB1.out⟩
  case round =>
    obtain ⟨k, V, hmk, hk, rfl, hov, hrel2, hall, hB⟩ := hrel
    have HAl := hid hall
    have HT2 := hid (HT.out.below hB)
    have HOV := hid hov
    have HRl := hid hrel2
    have hVl : V.length ≤ es.length := by
      have := hrel2.1
      rw [List.length_take, List.length_drop] at this
      omega
    clear hall hov hrel2 HB1
    by_cases hlt : k < es.length
    · have hltd : decide ((k : Int) < (es.length : Int)) = true := decide_eq_true (by omega)
      obtain ⟨A, n, c, Af, mf, cf, h1, h2, hc, _⟩ := HT2.out
      have hen1 := h2.1
      have hmax := h2.2.1
      have q0 := box_at h1 0 _ rfl
      have hkn : k < n := by omega
      obtain ⟨ad, rfl, hen⟩ := h2.at_ hkn
      have hmx := mayE_cases (HM.out k hlt)
      have HSu : Hid ((es.drop m).take (k + 1 - m) = (es.drop m).take (k - m) ++ [elt noEnt es k]) := hid (drop_take_succ hmk hlt)
      have HFin2 : Hid (¬ (tk = [] ∨ cmpB (eKey (elt noEnt es k)) tk < 0) → listR frm tk es = (es.drop m).take (k - m)) := hid (fun hh => HFin.out m k HP.out hmk hk HAl.out (.inr hh))
      have HAl2 : Hid ((tk = [] ∨ cmpB (eKey (elt noEnt es k)) tk < 0) → ∀ t, m ≤ t → t < k + 1 → tk = [] ∨ cmpB (eKey (elt noEnt es t)) tk < 0) := by
        intro hh t h3 h4
        rcases Nat.lt_succ_iff_lt_or_eq.1 h4 with h5 | h5
        · exact HAl.out t h3 h5
        · rw [h5]; exact hh
      generalize elt noEnt es k = x at *
      obtain ⟨Ak, nk, ck, Av, nv, cv, a0, a1, a2, a3, a4, a5, a6, a7, a8⟩ := hen
      have e5 := a5.1
      have e6 := a6.1
      have hnk : nk ≤ 140737488355328 := by omega
      have hnv : nv ≤ 140737488355328 := by omega
      have HKV := hid (⟨a5, a6⟩ : _ ∧ _)
      have hVm : (V.length + 1) ≤ 1000001 := by omega
      clear h1 h2 a5 a6 hmx e5 e6
      by_cases hnil : tk = []
      · have hnt : nt = 0 := by rw [← htl, hnil]; rfl
        have HA3 := hid (HAl2.out (.inl hnil))
        have hz : ((nt : Int) == 0) = true := by rw [beq_iff_eq]; omega
        clear hnil hnt
        go_wp2_with (first
          | (go_at_call 20; (with_reducible refine (tlen_any bt es fil _ HT2.out).mono ?_); rintro e w3 ⟨rfl, rfl⟩)
          | (go_at_call 42; (with_reducible refine (town_any Ak nk ck (eKey x) (eSeq x) (eGone x) (eTil x) Av nv cv (eVal x) _ HKV.out.1 HKV.out.2 hnk hnv).mono ?_); rintro r w4 ⟨kv, vv, rfl, ok1, ov1, hb4⟩; have HB4 := hid (below_then hB hb4); have HC4 := hid hb4; have HO := hid (⟨ok1, ov1⟩ : _ ∧ _); have hown4 := HOV.out.below hb4; obtain ⟨A4, c4, rfl, _, _⟩ := ok1.open_; obtain ⟨A5, c5, rfl, _, _⟩ := ov1.open_; clear ok1 ov1 hb4)
          | (at_builtin; refine wpV_append1 22 29 _ 5 72 Tryd.underlying22 eninfo rfl (by omega) w w4 w.heap.size rfl (.tmp 36) (.tmp 45) rfl u7 V rfl hown4 #[.slice A4 (eKey x).length c4, .int .i64 (eSeq x), .bool (eGone x), .int .i64 (eTil x), .slice A5 (eVal x).length c5] rfl (ones5 rfl rfl rfl rfl rfl) 1 _ (by first | rfl | simp) rfl (by simp only [maxLen]; omega) (by omega) HB4.out HB4.out.size ?_; intro v6 w6 hown6 hB6 hg6 _; have HR6 := hid (row_step (e := x) HC4.out HOV.out HRl.out hB.size HO.out.1 HO.out.2 hg6); have HO6 := hid hown6; have HB6 := hid hB6; clear hown6 hB6 hg6))
        go_roundw
        case rel => exact ⟨k + 1, _, by omega, by omega, by go_num, HO6.out, by rw [HSu.out]; exact HR6.out, HA3.out, HB6.out⟩
        case measure => simp [intOf]; omega
      · have hnt : ((nt : Int) == 0) = false := by
          rw [beq_eq_false_iff_ne]
          intro e
          exact hnil (List.eq_nil_of_length_eq_zero (by omega))
        obtain ⟨C, hC⟩ : ∃ C, cmpB (eKey x) tk = C := ⟨_, rfl⟩
        have HC := hid hC
        rw [hC] at HAl2 HFin2
        have HTk2 := hid (HTk.out.below hB)
        by_cases hlt2 : C < 0
        · have HA3 := hid (HAl2.out (.inr hlt2))
          have hd2 : decide (C < 0) = true := decide_eq_true hlt2
          clear hC hnil
          go_wp2_with (first
            | (go_at_call 20; (with_reducible refine (tlen_any bt es fil _ HT2.out).mono ?_); rintro e w3 ⟨rfl, rfl⟩)
            | (go_at_call 44; (with_reducible refine (compare_any Ak nk ck (eKey x) At nt ct tk _ HKV.out.1 HTk2.out).mono ?_); rintro r w3 ⟨rfl, rfl⟩; rw [HC.out])
            | (go_at_call 42; (with_reducible refine (town_any Ak nk ck (eKey x) (eSeq x) (eGone x) (eTil x) Av nv cv (eVal x) _ HKV.out.1 HKV.out.2 hnk hnv).mono ?_); rintro r w4 ⟨kv, vv, rfl, ok1, ov1, hb4⟩; have HB4 := hid (below_then hB hb4); have HC4 := hid hb4; have HO := hid (⟨ok1, ov1⟩ : _ ∧ _); have hown4 := HOV.out.below hb4; obtain ⟨A4, c4, rfl, _, _⟩ := ok1.open_; obtain ⟨A5, c5, rfl, _, _⟩ := ov1.open_; clear ok1 ov1 hb4)
            | (at_builtin; refine wpV_append1 22 29 _ 5 72 Tryd.underlying22 eninfo rfl (by omega) w w4 w.heap.size rfl (.tmp 36) (.tmp 45) rfl u7 V rfl hown4 #[.slice A4 (eKey x).length c4, .int .i64 (eSeq x), .bool (eGone x), .int .i64 (eTil x), .slice A5 (eVal x).length c5] rfl (ones5 rfl rfl rfl rfl rfl) 1 _ (by first | rfl | simp) rfl (by simp only [maxLen]; omega) (by omega) HB4.out HB4.out.size ?_; intro v6 w6 hown6 hB6 hg6 _; have HR6 := hid (row_step (e := x) HC4.out HOV.out HRl.out hB.size HO.out.1 HO.out.2 hg6); have HO6 := hid hown6; have HB6 := hid hB6; clear hown6 hB6 hg6))
          go_roundw
          case rel => exact ⟨k + 1, _, by omega, by omega, by go_num, HO6.out, by rw [HSu.out]; exact HR6.out, HA3.out, HB6.out⟩
          case measure => simp [intOf]; omega
        · have HL : Hid (listR frm tk es = (es.drop m).take (k - m)) := hid (HFin2.out (by rintro (h | h); exact hnil h; exact hlt2 h))
          have hd2 : decide (C < 0) = false := decide_eq_false hlt2
          clear hC hnil
          go_wp2_with (first
            | (go_at_call 20; (with_reducible refine (tlen_any bt es fil _ HT2.out).mono ?_); rintro e w3 ⟨rfl, rfl⟩)
            | (go_at_call 44; (with_reducible refine (compare_any Ak nk ck (eKey x) At nt ct tk _ HKV.out.1 HTk2.out).mono ?_); rintro r w3 ⟨rfl, rfl⟩; rw [HC.out]))
          go_ret
          exact ⟨_, rfl, by rw [HL.out]; exact ⟨V, HOV.out, HRl.out⟩, hB⟩
    · obtain rfl : k = es.length := by omega
      have hltd : decide ((es.length : Int) < (es.length : Int)) = false := decide_eq_false (by omega)
      have HL : Hid (listR frm tk es = (es.drop m).take (es.length - m)) := hid (HFin.out m es.length HP.out hmk (Nat.le_refl _) HAl.out (.inl rfl))
      go_wp2_with (go_at_call 20; (with_reducible refine (tlen_any bt es fil _ HT2.out).mono ?_); rintro e w3 ⟨rfl, rfl⟩)
      go_ret
      exact ⟨_, rfl, by rw [HL.out]; exact ⟨V, HOV.out, HRl.out⟩, hB⟩
set_option maxHeartbeats 4000000 in
theorem tall_any (bt : Nat) (es : List EntR) (fil : List UInt8) (w : World) (h : TabR w bt es fil) (hs : Srt es) (hm : AllM es) (hn : es.length ≤ 1000000) :
    Calls Tryd.prog 16 #[.pointer (some ⟨bt, 0, none⟩)] w fun r w' => RowO w w' es r := by
  have HT := hid h
  have HS := hid hs
  have HM := hid hm
  clear h hs hm
  go_enter Tryd.func16, Tryd.ntmps16
  go_wp2_with (go_at_call 14; (with_reducible refine (tlist_any bt es fil none 0 0 [] none 0 0 [] _ HT.out (RB.nil _) (RB.nil _) HS.out HM.out hn).mono ?_); rintro r w1 ⟨v1, rfl, ho, hb⟩; rw [listR_all] at ho)
  go_ret
  exact ⟨_, rfl, ho, hb⟩
/-! ## A table that there isn't -/
set_option maxHeartbeats 4000000 in
theorem tlen_nil (w : World) : Calls Tryd.prog 20 #[.pointer none] w fun r w' => r = .returned (.int .i64 0) ∧ w = w' := by
  go_enter Tryd.func20, Tryd.ntmps20
  go_wp2
  go_ret
  exact ⟨rfl, rfl⟩
set_option maxHeartbeats 4000000 in
theorem tmost_nil (w : World) : Calls Tryd.prog 21 #[.pointer none] w fun r w' => r = .returned (.slice none 0 0) ∧ w = w' := by
  go_enter Tryd.func21, Tryd.ntmps21
  go_wp2_with (go_at_call 20; (with_reducible refine (tlen_nil _).mono ?_); rintro e w3 ⟨rfl, rfl⟩)
  go_ret
  exact ⟨rfl, rfl⟩
set_option maxHeartbeats 4000000 in
theorem tmay_nil (Ar : Option Addr) (nr cr : Nat) (w : World) : Calls Tryd.prog 40 #[.pointer none, .slice Ar nr cr] w fun r w' => r = .returned (.bool false) ∧ w = w' := by
  go_enter Tryd.func40, Tryd.ntmps40
  go_wp2
  go_ret
  exact ⟨rfl, rfl⟩
set_option maxHeartbeats 8000000 in
set_option maxRecDepth 100000 in
theorem tget_nil (Ar : Option Addr) (nr cr : Nat) (s : Int) (w : World) : Calls Tryd.prog 10 #[.pointer none, .slice Ar nr cr, .int .i64 s] w fun r w' => r = .returned (.tuple #[.agg #[.slice none 0 0, .int .i64 0, .bool false, .int .i64 0, .slice none 0 0], .bool false]) ∧ Below w.heap.size w w' := by
  have hx0 := heap_alloc_new w (.cells #[.slice none 0 0, .int .i64 0, .bool false, .int .i64 0, .slice none 0 0] 29)
  have hB0 := below_alloc' (Below.refl w.heap.size w) (.cells #[.slice none 0 0, .int .i64 0, .bool false, .int .i64 0, .slice none 0 0] 29)
  go_enter Tryd.func10, Tryd.ntmps10
  go_upto_region 2 with (go_at_call 40; (with_reducible refine (tmay_nil Ar nr cr _).mono ?_); rintro e w1 ⟨rfl, rfl⟩)
  generalize w.alloc (.cells #[.slice none 0 0, .int .i64 0, .bool false, .int .i64 0, .slice none 0 0] 29) = W1 at *
  obtain ⟨z0, z1, z2, z3, z4⟩ := box5 hx0
  have f1 := fun i => frozen_of_row _ w.heap.size i _ _ hx0
  go_wp2
  have hfin := set5 (.slice none 0 0) (.int .i64 0) (.bool false) (.int .i64 0) (.slice none 0 0) hx0
  have hgf := grown_set5 W1 w.heap.size (.slice none 0 0) (.int .i64 0) (.bool false) (.int .i64 0) (.slice none 0 0)
  exact bodyPost_ret (results_box2 (fn := Tryd.f10) (p := 6) (u := 7) (ty := 29) rfl _ _ w.heap.size 29 _ (0, 0) _ rfl hfin Tryd.underlying29 rfl entry5) rfl ⟨rfl, hB0.grown hgf hB0.size (fun k hk => by cases hk; exact Nat.le_refl _)⟩
set_option maxHeartbeats 8000000 in
set_option maxRecDepth 100000 in
theorem tfirst_nil (Ar : Option Addr) (nr cr : Nat) (s : Int) (w : World) : Calls Tryd.prog 41 #[.pointer none, .slice Ar nr cr, .int .i64 s] w fun r w' => r = .returned (.int .i64 0) ∧ Below w.heap.size w w' := by
  have HS : Hid (∀ (W : World) (a b c : Value), Calls Tryd.prog 58 #[.int .i64 0, .func (.func 59) #[] #[a, b, c]] W fun e w' => e = .returned (.int .i64 0) ∧ Below W.heap.size W w') := hid (fun W a b c => by
    refine (search_any 59 #[a, b, c] 0 (fun _ => true) W (fun args u => by rfl) (by omega) (fun i u hu hi => absurd hi (by omega)) (fun _ _ _ h _ => absurd h (by omega))).mono ?_
    rintro r w' ⟨m, rfl, hm, _, _, hb⟩
    obtain rfl : m = 0 := by omega
    exact ⟨rfl, hb⟩)
  have hB3 := below_alloc' (below_alloc' (below_alloc' (Below.refl w.heap.size w) (.cells #[.pointer none] 34)) (.cells #[.slice Ar nr cr] 23)) (.cells #[.int .i64 s] 2)
  go_enter Tryd.func41, Tryd.ntmps41
  go_wp2_with (first
    | (go_at_call 20; (with_reducible refine (tlen_nil _).mono ?_); rintro e w1 ⟨rfl, rfl⟩)
    | (go_at_call 58; (with_reducible refine (HS.out _ _ _ _).mono ?_); rintro r w6 ⟨rfl, hb6⟩))
  go_ret
  exact ⟨rfl, below_then hB3 hb6⟩
set_option maxHeartbeats 8000000 in
set_option maxRecDepth 100000 in
theorem tlist_nil (Ar : Option Addr) (nr cr : Nat) (At : Option Addr) (nt ct : Nat) (w : World) : Calls Tryd.prog 14 #[.pointer none, .slice Ar nr cr, .slice At nt ct] w fun r w' => r = .returned (.slice none 0 0) ∧ Below w.heap.size w w' := by
  go_enter Tryd.func14, Tryd.ntmps14
  go_wp2_with (go_at_call 41; (with_reducible refine (tfirst_nil Ar nr cr 9223372036854775807 _).mono ?_); rintro e w1 ⟨rfl, hb1⟩)
  go_loopw [7, 8] (fun ov i wr => ov = .slice none 0 0 ∧ i = .int .i64 0 ∧ Below w.heap.size w wr) (fun _ i wr => 0)
  case atStart => exact ⟨rfl, rfl, hb1⟩
  case round =>
    obtain ⟨rfl, rfl, hB⟩ := hrel
    go_wp2_with (go_at_call 20; (with_reducible refine (tlen_nil _).mono ?_); rintro e w3 ⟨rfl, rfl⟩)
    go_ret
    exact ⟨rfl, hB⟩
set_option maxHeartbeats 4000000 in
theorem tall_nil (w : World) : Calls Tryd.prog 16 #[.pointer none] w fun r w' => r = .returned (.slice none 0 0) ∧ Below w.heap.size w w' := by
  go_enter Tryd.func16, Tryd.ntmps16
  go_wp2_with (go_at_call 14; (with_reducible refine (tlist_nil none 0 0 none 0 0 _).mono ?_); rintro r w1 ⟨rfl, hb⟩)
  go_ret
  exact ⟨rfl, hb⟩
end Go.Proofs.YtkkclkknpjapcaaDoor
