/- Shared texts, part S27: TbG, TbC. -/
import Derived.Test.YtkkclkknpjapcaaDoorS20
import Derived.Test.YtkkclkknpjapcaaDoorS21
/-! ### TbG -/
namespace Go.Proofs.YtkkclkknpjapcaaDoor
open Go.RowKit
set_option linter.unusedVariables false
set_option linter.unusedSimpArgs false

/-- A table's parts. -/
structure Parts (es : List EntR) (out idx FIL F : List UInt8) : Prop where
  tab : tabB es = ((((out ++ sumB idx) ++ sumB FIL) ++ sumB F)) ++ magicB
  outE : out = outF es.length es
  idxE : idx = idxF es.length es 0
  foot : F = footB out.length idx.length (out.length + idx.length + 4) FIL.length es.length
  outL : out.length ≤ es.length * 2714
  idxL : idx.length ≤ es.length * 542
  filL : FIL.length ≤ 10 * es.length + 8
  filE : FIL = filtB es
theorem parts_of {es : List EntR} (h : AllM es) : ∃ out idx FIL F, Parts es out idx FIL F := by
  refine ⟨blocksB es, indexB es, filtB es, footB (blocksB es).length (indexB es).length ((blocksB es).length + (indexB es).length + 4) (filtB es).length es.length, ?_, blocks_eq es, index_eq es, rfl, ?_, ?_, ?_, ?_⟩
  · unfold tabB
    rw [List.length_append, sumB_len, ← Nat.add_assoc]
  · rw [blocks_eq]; exact outF_len _ _ h
  · rw [index_eq]; exact idxF_len _ _ _ h
  · have h1 := keysU_len es es.length
    unfold filtB filterB
    rw [fillUpto_len]
    unfold sizeF
    split <;> omega
  · rfl
section
variable {es : List EntR} {out idx FIL F : List UInt8}
theorem Parts.footL (h : Parts es out idx FIL F) : F.length = 20 := by rw [h.foot, footB_len]
theorem Parts.len (h : Parts es out idx FIL F) : (tabB es).length = out.length + idx.length + FIL.length + 40 := by
  rw [h.tab]
  simp only [List.length_append, sumB_len, h.footL]
  have : magicB.length = 8 := rfl
  omega
theorem Parts.footOf (h : Parts es out idx FIL F) : footOf (tabB es) = sumB F ++ magicB := by
  unfold Go.Proofs.YtkkclkknpjapcaaDoor.footOf
  have e : tabB es = ((out ++ sumB idx) ++ sumB FIL) ++ (sumB F ++ magicB) := by rw [h.tab, List.append_assoc]
  have hl : (tabB es).length - 32 = ((out ++ sumB idx) ++ sumB FIL).length := by
    rw [h.len]
    simp only [List.length_append, sumB_len]
    omega
  rw [hl, e, drop_app]
theorem Parts.bodyOf (h : Parts es out idx FIL F) : bodyOf (tabB es) = (out ++ sumB idx) ++ sumB FIL := by
  unfold Go.Proofs.YtkkclkknpjapcaaDoor.bodyOf
  have e : tabB es = ((out ++ sumB idx) ++ sumB FIL) ++ (sumB F ++ magicB) := by rw [h.tab, List.append_assoc]
  have hl : (tabB es).length - 32 = ((out ++ sumB idx) ++ sumB FIL).length := by
    rw [h.len]
    simp only [List.length_append, sumB_len]
    omega
  rw [hl, e, take_app]
theorem four_at (pre post : List UInt8) (n k : Nat) (hk : k = pre.length) (hn : n < 4294967296) : readU ((((pre ++ fixB n 4) ++ post).drop k).take 4) = n := by
  subst hk
  rw [List.append_assoc, drop_app]
  have hl := fix4_len n
  rw [← hl, take_app, read_fix hn]
theorem Parts.nums (h : Parts es out idx FIL F) (hn : es.length ≤ 4000) : numOf (tabB es) 0 = out.length ∧ numOf (tabB es) 1 = idx.length ∧ numOf (tabB es) 2 = out.length + idx.length + 4 ∧ numOf (tabB es) 3 = FIL.length := by
  have h1 := h.outL
  have h2 := h.idxL
  have h3 := h.filL
  have hf : Go.Proofs.YtkkclkknpjapcaaDoor.footOf (tabB es) = ((((fixB out.length 4 ++ fixB idx.length 4) ++ fixB (out.length + idx.length + 4) 4) ++ fixB FIL.length 4) ++ fixB es.length 4) ++ (fixB (sumOf F) 4 ++ magicB) := by
    rw [h.footOf]
    show (F ++ fixB (sumOf F) 4) ++ magicB = _
    generalize fixB (sumOf F) 4 = S
    rw [h.foot]
    unfold footB
    simp only [List.append_assoc]
  unfold numOf
  rw [hf]
  refine ⟨?_, ?_, ?_, ?_⟩
  · have := four_at [] (fixB idx.length 4 ++ (fixB (out.length + idx.length + 4) 4 ++ (fixB FIL.length 4 ++ (fixB es.length 4 ++ (fixB (sumOf F) 4 ++ magicB))))) out.length (4 * 0) rfl (by omega)
    simpa only [List.append_assoc, List.nil_append] using this
  · have := four_at (fixB out.length 4) (fixB (out.length + idx.length + 4) 4 ++ (fixB FIL.length 4 ++ (fixB es.length 4 ++ (fixB (sumOf F) 4 ++ magicB)))) idx.length (4 * 1) (by rw [fix4_len]) (by omega)
    simpa only [List.append_assoc] using this
  · have := four_at (fixB out.length 4 ++ fixB idx.length 4) (fixB FIL.length 4 ++ (fixB es.length 4 ++ (fixB (sumOf F) 4 ++ magicB))) (out.length + idx.length + 4) (4 * 2) (by rw [List.length_append, fix4_len, fix4_len]) (by omega)
    simpa only [List.append_assoc] using this
  · have := four_at ((fixB out.length 4 ++ fixB idx.length 4) ++ fixB (out.length + idx.length + 4) 4) (fixB es.length 4 ++ (fixB (sumOf F) 4 ++ magicB)) FIL.length (4 * 3) (by rw [List.length_append, List.length_append, fix4_len, fix4_len, fix4_len]) (by omega)
    simpa only [List.append_assoc] using this
theorem Parts.bodyL (h : Parts es out idx FIL F) : (Go.Proofs.YtkkclkknpjapcaaDoor.bodyOf (tabB es)).length = out.length + idx.length + FIL.length + 8 := by
  rw [h.bodyOf]
  simp only [List.length_append, sumB_len]
  omega
theorem Parts.head (h : Parts es out idx FIL F) (hn : es.length ≤ 4000) : headOK (tabB es) = true := by
  obtain ⟨n0, n1, n2, n3⟩ := h.nums hn
  unfold headOK
  rw [n0, n1, n2, n3, h.bodyL]
  simp only [Bool.and_eq_true]
  refine ⟨⟨⟨⟨?_, ?_⟩, ?_⟩, ?_, ?_⟩, ?_, ?_⟩
  · rw [decide_eq_true_iff, h.len]; omega
  · rw [decide_eq_true_iff, h.footOf]
    have : (sumB F).length = 24 := by rw [sumB_len, h.footL]
    rw [← this, drop_app]
  · rw [h.footOf]
    have := sound_mid [] F magicB
    rw [List.nil_append, h.footL] at this
    exact this
  · unfold withinB; rw [decide_eq_true_iff]; omega
  · unfold withinB; rw [decide_eq_true_iff]; omega
  · rw [h.bodyOf]
    exact sound_mid out idx (sumB FIL)
  · rw [h.bodyOf]
    have := sound_mid (out ++ sumB idx) FIL []
    rw [List.append_nil, List.length_append, sumB_len, ← Nat.add_assoc] at this
    exact this
theorem Parts.index (h : Parts es out idx FIL F) : cutS (Go.Proofs.YtkkclkknpjapcaaDoor.bodyOf (tabB es)) out.length idx.length = idx := by
  rw [h.bodyOf]
  have := cut_mid out idx (fixB (sumOf idx) 4 ++ sumB FIL)
  simpa [sumB, List.append_assoc] using this
theorem Parts.places (h : Parts es out idx FIL F) (hm : AllM es) (hn : es.length ≤ 4000) : plcL (idx.length + 1) idx out.length = some (plcF es.length es 0) := by
  have h1 := h.outL
  conv => lhs; rw [show idx = idxF es.length es 0 from h.idxE]
  refine plcL_idx es.length es 0 _ _ hm (Nat.le_refl _) ?_ (by omega) (by omega)
  rw [← h.outE]
  omega
end
/-- What was built is opened. -/
theorem openF_tab {es : List EntR} (h : FitT es) : openF (tabB es) = some es := by
  obtain ⟨⟨hn1, hn2⟩, hm, hs, hl⟩ := h
  obtain ⟨out, idx, FIL, F, hp⟩ := parts_of hm
  obtain ⟨n0, n1, n2, n3⟩ := hp.nums hn2
  unfold openF
  rw [if_pos (hp.head hn2), n0, n1, hp.index, hp.places hm hn2]
  simp only
  have hr : readT (bodyOf (tabB es)) (plcF es.length es 0) = some es := by
    unfold readT
    have e : bodyOf (tabB es) = ([] ++ outF es.length es) ++ (sumB idx ++ sumB FIL) := by rw [hp.bodyOf, ← hp.outE]; simp only [List.nil_append, List.append_assoc]
    have hsnd := plcF_sound es.length es [] (sumB idx ++ sumB FIL)
    rw [List.length_nil] at hsnd
    rw [e, if_pos hsnd]
    exact rdsL_read es.length es [] [] _ hm hs (Nat.le_refl _) (by simpa using hn2)
  rw [hr]
  simp only
  rw [if_pos ⟨(fitTB_iff _).2 ⟨⟨hn1, hn2⟩, hm, hs, hl⟩, trivial⟩]
/-- The filter's bytes of a table. -/
theorem open_filt {b : List UInt8} {es : List EntR} (h : openF b = some es) : cutS (bodyOf b) (numOf b 2) (numOf b 3) = filtB es := by
  obtain ⟨_, _, ⟨⟨hn1, hn2⟩, hm, hs, hl⟩, hb⟩ := openF_some h
  obtain ⟨out, idx, FIL, F, hP⟩ := parts_of hm
  obtain ⟨n0, n1, n2, n3⟩ := hP.nums hn2
  rw [hb] at n2 n3
  have hbb := hP.bodyOf
  rw [hb] at hbb
  rw [n2, n3, hbb, ← hP.filE]
  have := cut_mid (out ++ sumB idx) FIL (fixB (sumOf FIL) 4)
  rw [List.length_append, sumB_len, ← Nat.add_assoc] at this
  unfold sumB at this ⊢
  rw [← List.append_assoc]
  exact this
/-! ## One byte as another one -/
theorem mask_inj {a b : Nat} (ha : a < 4294967296) (hb : b < 4294967296) (h : crcMask a = crcMask b) : a = b := by rw [← crcUnmask_mask ha, ← crcUnmask_mask hb, h]
theorem sum_tells {pre post : List UInt8} {x y : UInt8} (h : sumOf (pre ++ [x] ++ post) = sumOf (pre ++ [y] ++ post)) : x = y := by
  have h1 := mask_inj (crcMore_lt _ _) (crcMore_lt _ _) h
  have h2 := (crc_tells (s := 0) (by decide) pre [(x, y)] post (by simp)).1 h1
  simpa using h2
theorem readU_tells {a b : List UInt8} (ha : a.length = 4) (hb : b.length = 4) (h : readU a = readU b) : a = b := by
  match a, b, ha, hb with
  | [a0, a1, a2, a3], [b0, b1, b2, b3], _, _ =>
    simp only [readU, List.foldl_cons, List.foldl_nil] at h
    have ha0 := a0.toNat_lt
    have ha1 := a1.toNat_lt
    have ha2 := a2.toNat_lt
    have ha3 := a3.toNat_lt
    have hb0 := b0.toNat_lt
    have hb1 := b1.toNat_lt
    have hb2 := b2.toNat_lt
    have hb3 := b3.toNat_lt
    have e0 : a0 = b0 := UInt8.toNat_inj.1 (by omega)
    have e1 : a1 = b1 := UInt8.toNat_inj.1 (by omega)
    have e2 : a2 = b2 := UInt8.toNat_inj.1 (by omega)
    have e3 : a3 = b3 := UInt8.toNat_inj.1 (by omega)
    rw [e0, e1, e2, e3]
theorem cutS_set_out {b : List UInt8} {p a n : Nat} {y : UInt8} (h : p < a ∨ a + n ≤ p) : cutS (b.set p y) a n = cutS b a n := by
  unfold cutS
  apply List.ext_getElem?
  intro i
  simp only [List.getElem?_take, List.getElem?_drop, List.getElem?_set]
  by_cases hi : i < n
  · rw [if_pos hi, if_pos hi, if_neg (by omega)]
  · rw [if_neg hi, if_neg hi]
theorem cutS_set_in {b : List UInt8} {p a n : Nat} {y : UInt8} (h1 : a ≤ p) (h2 : p < a + n) (h3 : p < b.length) : ∃ pre post, cutS b a n = pre ++ [b[p]] ++ post ∧ cutS (b.set p y) a n = pre ++ [y] ++ post := by
  refine ⟨cutS b a (p - a), cutS b (p + 1) (a + n - (p + 1)), ?_, ?_⟩
  · unfold cutS
    apply List.ext_getElem?
    intro i
    simp only [List.getElem?_take, List.getElem?_drop, List.getElem?_append, List.length_append, List.length_take, List.length_drop, List.length_singleton]
    rw [show min (p - a) (b.length - a) = p - a by omega]
    rcases (by omega : i < p - a ∨ i = p - a ∨ p - a < i) with hi | hi | hi
    · rw [if_pos (by omega), if_pos (by omega), if_pos hi, if_pos hi]
    · subst hi
      rw [if_pos (by omega), if_pos (by omega), if_neg (by omega), show a + (p - a) = p by omega]
      simp [h3]
    · rw [if_neg (show ¬ i < p - a + 1 by omega)]
      by_cases hin : i < n
      · rw [if_pos hin, if_pos (by omega), show p + 1 + (i - (p - a + 1)) = a + i by omega]
      · rw [if_neg hin, if_neg (by omega)]
  · unfold cutS
    apply List.ext_getElem?
    intro i
    simp only [List.getElem?_take, List.getElem?_drop, List.getElem?_append, List.length_append, List.length_take, List.length_drop, List.length_singleton, List.getElem?_set]
    rw [show min (p - a) (b.length - a) = p - a by omega]
    rcases (by omega : i < p - a ∨ i = p - a ∨ p - a < i) with hi | hi | hi
    · rw [if_pos (by omega), if_neg (by omega), if_pos (by omega), if_pos hi, if_pos hi]
    · subst hi
      rw [if_pos (by omega), if_pos (by omega), if_pos (by omega), if_pos (by omega), if_neg (by omega)]
      simp
    · rw [if_neg (show ¬ i < p - a + 1 by omega)]
      by_cases hin : i < n
      · rw [if_pos hin, if_neg (by omega), if_pos (by omega), show p + 1 + (i - (p - a + 1)) = a + i by omega]
      · rw [if_neg hin, if_neg (by omega)]
/-- Two sounds that part in one byte: none. -/
theorem sound_two {b : List UInt8} {p a n : Nat} {y : UInt8} (h1 : soundB b a n = true) (h2 : soundB (b.set p y) a n = true) (hp1 : a ≤ p) (hp2 : p < a + n + 4) (hp3 : p < b.length) (hl : a + n + 4 ≤ b.length) : y = b[p] := by
  unfold soundB at h1 h2
  rw [decide_eq_true_iff] at h1 h2
  have hd : ∀ c : List UInt8, (c.drop (a + n)).take 4 = cutS c (a + n) 4 := fun c => rfl
  rw [hd] at h1 h2
  by_cases hin : p < a + n
  · rw [cutS_set_out (a := a + n) (n := 4) (.inl hin)] at h2
    obtain ⟨pre, post, e1, e2⟩ := cutS_set_in (y := y) hp1 hin hp3
    rw [e1] at h1
    rw [e2] at h2
    exact sum_tells (h2.trans h1.symm)
  · rw [cutS_set_out (a := a) (n := n) (.inr (by omega))] at h2
    obtain ⟨pre, post, e1, e2⟩ := cutS_set_in (y := y) (a := a + n) (n := 4) (by omega) (by omega) hp3
    have hlen : (cutS b (a + n) 4).length = 4 := by unfold cutS; rw [List.length_take, List.length_drop]; omega
    have hlen2 : (cutS (b.set p y) (a + n) 4).length = 4 := by unfold cutS; rw [List.length_take, List.length_drop, List.length_set]; omega
    have h3 := readU_tells hlen2 hlen (h2.symm.trans h1)
    rw [e1, e2] at h3
    simpa using h3
/-- The places of the blocks leave no gap. -/
theorem plcF_tile : ∀ (f : Nat) (es : List EntR) (a p : Nat), es.length ≤ f → a ≤ p → p < a + (outF f es).length → ∃ q ∈ plcF f es a, q.1 ≤ p ∧ p < q.1 + q.2 + 4 ∧ q.1 + q.2 + 4 ≤ a + (outF f es).length := by
  intro f
  induction f with
  | zero => intro es a p _ _ h; simp [outF] at h; omega
  | succ f ih =>
    intro es a p hl h1 h2
    by_cases he : es = []
    · rw [outF, if_pos he] at h2; simp at h2; omega
    · rw [outF, if_neg he, List.length_append, sumB_len] at h2 ⊢
      rw [plcF, if_neg he]
      by_cases hp : p < a + (encK (es.take (cutN es))).length + 4
      · exact ⟨_, List.mem_cons_self, h1, hp, by simp only; omega⟩
      · obtain ⟨q, hq, h3, h4, h5⟩ := ih (es.drop (cutN es)) (a + (encK (es.take (cutN es))).length + 4) p (drop_cut_len hl he) (by omega) (by omega)
        exact ⟨q, List.mem_cons_of_mem _ hq, h3, h4, by omega⟩
/-- A table with one byte as another one opens to an error. -/
theorem open_one {b : List UInt8} {s m : List EntR} {p : Nat} {y : UInt8} (h1 : openF b = some s) (h2 : openF (b.set p y) = some m) (hp : p < b.length) : y = b[p] := by
  obtain ⟨hh, _, ⟨⟨hn1, hn2⟩, hm, hs, hl⟩, hb⟩ := openF_some h1
  obtain ⟨gh, ⟨ps, gp, gr⟩, _, _⟩ := openF_some h2
  obtain ⟨out, idx, FIL, F, hP⟩ := parts_of hm
  have hnum := hP.nums hn2
  have hbl := hP.bodyL
  have hlen := hP.len
  rw [hb] at hnum hbl hlen
  obtain ⟨n0, n1, n2, n3⟩ := hnum
  have hbb := hP.bodyOf
  rw [hb] at hbb
  have hls : (b.set p y).length = b.length := List.length_set ..
  unfold headOK at hh gh
  simp only [Bool.and_eq_true, decide_eq_true_iff] at hh gh
  obtain ⟨⟨⟨⟨a1, a2⟩, a3⟩, a4⟩, a5, a6⟩ := hh
  obtain ⟨⟨⟨⟨b1, b2⟩, b3⟩, b4⟩, b5, b6⟩ := gh
  by_cases hf : b.length - 32 ≤ p
  · have hfo : footOf (b.set p y) = (footOf b).set (p - (b.length - 32)) y := by
      unfold footOf
      rw [hls, List.drop_set, if_neg (by omega)]
    have hfl : (footOf b).length = 32 := by unfold footOf; rw [List.length_drop]; omega
    have hpf : p - (b.length - 32) < (footOf b).length := by rw [hfl]; omega
    have hget : (footOf b)[p - (b.length - 32)]'hpf = b[p] := by
      apply Option.some.inj
      rw [← List.getElem?_eq_getElem, ← List.getElem?_eq_getElem]
      unfold footOf
      rw [List.getElem?_drop, show b.length - 32 + (p - (b.length - 32)) = p by omega]
    rw [hfo] at b2 b3
    by_cases hmg : b.length - 8 ≤ p
    · rw [← a2, List.drop_set, if_neg (by omega)] at b2
      have e : (((footOf b).drop 24).set (p - (b.length - 32) - 24) y)[p - (b.length - 32) - 24]? = ((footOf b).drop 24)[p - (b.length - 32) - 24]? := by rw [b2]
      have hlt : p - (b.length - 32) - 24 < ((footOf b).drop 24).length := by rw [List.length_drop]; omega
      rw [List.getElem?_set_self hlt, List.getElem?_drop, show 24 + (p - (b.length - 32) - 24) = p - (b.length - 32) by omega, List.getElem?_eq_getElem (by omega), hget] at e
      exact Option.some.inj e
    · have := sound_two a3 b3 (by omega) (by omega) (by omega) (by omega)
      rw [this, hget]
  · have hfo : footOf (b.set p y) = footOf b := by
      unfold footOf
      rw [hls, List.drop_set, if_pos (by omega)]
    have hnn : ∀ i, numOf (b.set p y) i = numOf b i := fun i => by unfold numOf; rw [hfo]
    have hbo : bodyOf (b.set p y) = (bodyOf b).set p y := by
      unfold bodyOf
      rw [hls, List.take_set]
    have hpl : p < (bodyOf b).length := by rw [hbl]; omega
    have hget : (bodyOf b)[p]'hpl = b[p] := by
      apply Option.some.inj
      rw [← List.getElem?_eq_getElem, ← List.getElem?_eq_getElem]
      unfold bodyOf
      rw [List.getElem?_take, if_pos (by omega)]
    rw [hnn, hnn, hbo] at b5 b6
    rw [n0, n1] at b5 a5
    rw [n2, n3] at b6 a6
    rw [hnn, hnn, hbo, n0, n1] at gp
    rw [hbo] at gr
    by_cases h3 : out.length + idx.length + 4 ≤ p
    · have := sound_two a6 b6 h3 (by rw [hbl] at hpl; omega) hpl (by rw [hbl]; omega)
      rw [this, hget]
    · by_cases h4 : out.length ≤ p
      · have := sound_two a5 b5 h4 (by omega) hpl (by rw [hbl]; omega)
        rw [this, hget]
      · rw [cutS_set_out (.inl (by omega))] at gp
        have hix := hP.index
        rw [hb] at hix
        rw [hix, hP.places hm hn2] at gp
        obtain rfl := Option.some.inj gp
        unfold readT at gr
        split at gr
        · rename_i hall
          have hoL : (outF s.length s).length = out.length := by rw [← hP.outE]
          obtain ⟨q, hq, q1, q2, q3⟩ := plcF_tile s.length s 0 p (Nat.le_refl _) (Nat.zero_le _) (by omega)
          have s2 := List.all_eq_true.1 hall q hq
          have hsnd := plcF_sound s.length s [] (sumB idx ++ sumB FIL)
          have e : ([] ++ outF s.length s) ++ (sumB idx ++ sumB FIL) = bodyOf b := by rw [hbb, ← hP.outE]; simp only [List.nil_append, List.append_assoc]
          rw [e] at hsnd
          have s1 := List.all_eq_true.1 hsnd q hq
          have := sound_two s1 s2 q1 q2 hpl (by rw [hbl]; omega)
          rw [this, hget]
        · cases gr
end Go.Proofs.YtkkclkknpjapcaaDoor
/-! ### TbC -/
namespace Go.Proofs.YtkkclkknpjapcaaDoor
open Go.RowKit
set_option linter.unusedVariables false
set_option linter.unusedSimpArgs false

theorem all_one {x : EntR} : AllM [x] ↔ mayE x = true := by
  constructor
  · intro h; exact h 0 (by simp)
  · intro h j hj
    obtain rfl : j = 0 := by simp at hj; omega
    exact h
theorem srt_one (x : EntR) : Srt [x] := ordN_Srt fun i h1 h2 => by simp at h2; omega
theorem bk_one {x : EntR} {E : Nat} (h : BkC [x] E) : (mayE x = true ∧ E = 0) ∨ (mayE x = false ∧ E = 1) := by
  rcases h with ⟨h1, rfl⟩ | ⟨h1, h2, rfl⟩ | ⟨h1, h2, h3, rfl⟩ | ⟨h1, rfl⟩
  · simp at h1
  · rw [all_one] at h2; exact .inr ⟨by simpa using h2, rfl⟩
  · exact absurd (srt_one x) h3
  · exact .inl ⟨all_one.1 h1.2.2.1, rfl⟩
theorem one_at {es : List EntR} {k : Nat} (h : k < es.length) : (es.drop k).take 1 = [elt noEnt es k] := by rw [drop_elt h]; rfl
/-- What check answers. -/
def ChC (es : List EntR) (E : Nat) : Prop :=
  ((es.length = 0 ∨ 4000 < es.length) ∧ E = 13) ∨ ((1 ≤ es.length ∧ es.length ≤ 4000) ∧ ¬ AllM es ∧ E = 1) ∨ ((1 ≤ es.length ∧ es.length ≤ 4000) ∧ AllM es ∧ ¬ Srt es ∧ E = 11) ∨
  ((1 ≤ es.length ∧ es.length ≤ 4000) ∧ AllM es ∧ Srt es ∧ E = 0)
def ChE (w w' : World) (es : List EntR) (r : Ending) : Prop := ∃ E : Nat, r = .returned (.int .i64 (E : Int)) ∧ ChC es E ∧ Below w.heap.size w w'
set_option maxHeartbeats 8000000 in
set_option maxRecDepth 100000 in
theorem check_any (A : Option Addr) (n c : Nat) (es : List EntR) (w : World) (h : REnts w A n es) (hc : n ≤ c) :
    Calls Tryd.prog 27 #[.slice A n c] w fun r w' => ChE w w' es r := by
  have hl := h.1
  have H := hid h
  have hmax := h.2.1
  by_cases h0 : n = 0
  · subst h0
    have HC : Hid (ChC es 13) := .inl ⟨.inl hl, rfl⟩
    clear h hl
    go_enter Tryd.func27, Tryd.ntmps27
    go_wp2
    go_ret
    exact ⟨13, rfl, HC.out, Below.refl _ _⟩
  · have hn0 : ((n : Int) == 0) = false := by rw [beq_eq_false_iff_ne]; omega
    by_cases h4 : 4000 < n
    · have hn4 : decide ((4000 : Int) < (n : Int)) = true := decide_eq_true (by omega)
      have HC : Hid (ChC es 13) := .inl ⟨.inr (by omega), rfl⟩
      clear h hl
      go_enter Tryd.func27, Tryd.ntmps27
      go_wp2
      go_ret
      exact ⟨13, rfl, HC.out, Below.refl _ _⟩
    · have hn4 : decide ((4000 : Int) < (n : Int)) = false := decide_eq_false (by omega)
      have HAll : Hid ((∀ j, j < n → mayE (elt noEnt es j) = true) → AllM es) := hid (fun hh j hj => hh j (by omega))
      have HNot : Hid (∀ k, k < n → mayE (elt noEnt es k) = false → ChC es 1) := hid (fun k hk hf => .inr (.inl ⟨by omega, (fun ha => by rw [ha k (by omega)] at hf; cases hf), rfl⟩))
      have HOne : Hid (∀ k, k < n → (es.drop k).take 1 = [elt noEnt es k]) := hid (fun k hk => one_at (by omega))
      have HFin : Hid (AllM es → ChC es (if srtB es then 0 else 11)) := hid (fun ha => by
        by_cases hs : Srt es
        · rw [srtB_true hs]; exact .inr (.inr (.inr ⟨by omega, ha, hs, rfl⟩))
        · rw [srtB_false hs]; exact .inr (.inr (.inl ⟨by omega, ha, hs, rfl⟩)))
      clear h hl
      go_enter Tryd.func27, Tryd.ntmps27
      go_wp2
      go_loopw [16] (fun i wr => ∃ k : Nat, k ≤ n ∧ i = .int .i64 k ∧ (∀ j, j < k → mayE (elt noEnt es j) = true) ∧ Below w.heap.size w wr) (fun i wr => n - (intOf i).toNat)
      case atStart => exact ⟨0, Nat.zero_le _, rfl, fun j hj => absurd hj (by omega), Below.refl _ _⟩
      case round =>
        obtain ⟨k, hk, rfl, hall, hB⟩ := hrel
        have HA := hid hall
        clear hall
        by_cases hlt : k < n
        · obtain ⟨A2, c2, hcut, hre, hc2⟩ := cutEn (A := A) hc (lo := k) (hi := k + 1) (by omega) (by omega) (k : Int) ((k : Int) + 1) rfl (by omega)
          rw [show k + 1 - k = 1 by omega] at hcut hre hc2
          have hr2 := hre _ _ (H.out.below hB)
          rw [HOne.out k hlt] at hr2
          have HR := hid hr2
          have HNk := hid (HNot.out k hlt)
          have HA2 : Hid (mayE (elt noEnt es k) = true → ∀ j, j < k + 1 → mayE (elt noEnt es j) = true) := by
            intro h j hj
            rcases Nat.lt_succ_iff_lt_or_eq.1 hj with h1 | h1
            · exact HA.out j h1
            · rw [h1]; exact h
          clear hre hr2
          generalize elt noEnt es k = x at *
          cases hm : mayE x
          · have HNx := hid (HNk.out hm)
            have HMx := hid hm
            clear hm
            go_wp2_with (go_at_call 29; (with_reducible refine (encode_any A2 1 c2 [x] _ HR.out).mono ?_); rintro r w1 ⟨E1, v1, rfl, hbk, ho1, hb1⟩; have HB1 := hid (below_then hB hb1); clear ho1 hb1; obtain rfl : E1 = 1 := (by rcases bk_one hbk with ⟨h, _⟩ | ⟨_, h⟩ <;> first | (rw [HMx.out] at h; cases h) | exact h); clear hbk)
            go_ret
            exact ⟨1, rfl, HNx.out, HB1.out⟩
          · have HMx := hid (HA2.out hm)
            have HMy := hid hm
            clear hm
            go_wp2_with (go_at_call 29; (with_reducible refine (encode_any A2 1 c2 [x] _ HR.out).mono ?_); rintro r w1 ⟨E1, v1, rfl, hbk, ho1, hb1⟩; have HB1 := hid (below_then hB hb1); clear ho1 hb1; obtain rfl : E1 = 0 := (by rcases bk_one hbk with ⟨_, h⟩ | ⟨h, _⟩ <;> first | (rw [HMy.out] at h; cases h) | exact h); clear hbk)
            go_roundw
            case rel => exact ⟨k + 1, by omega, by go_num, HMx.out, HB1.out⟩
            case measure => simp [intOf]; omega
        · obtain rfl : k = n := by omega
          have HF := hid (HFin.out (HAll.out HA.out))
          cases hs : srtB es
          · have HS := hid hs
            rw [hs] at HF
            clear hs
            go_wp2_with (go_at_call 48; (with_reducible refine (bkordered_any A k c es _ (H.out.below hB)).mono ?_); rintro r w1 ⟨rfl, hb1⟩; rw [HS.out]; have hB1 := below_then hB hb1)
            go_ret
            exact ⟨11, rfl, HF.out, hB1⟩
          · have HS := hid hs
            rw [hs] at HF
            clear hs
            go_wp2_with (go_at_call 48; (with_reducible refine (bkordered_any A k c es _ (H.out.below hB)).mono ?_); rintro r w1 ⟨rfl, hb1⟩; rw [HS.out]; have hB1 := below_then hB hb1)
            go_ret
            exact ⟨0, rfl, HF.out, hB1⟩
end Go.Proofs.YtkkclkknpjapcaaDoor
