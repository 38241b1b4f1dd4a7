/- The walk of one law, with what it wants beyond the shared texts. -/
import Derived.Deep.DeepCutAuto
import Derived.BigQuiet
import Derived.Test.YtkkclkknpjapcaaS12
import Derived.Test.YtkkclkknpjapcaaS11
import Derived.Test.YtkkclkknpjapcaaS14
import Derived.Test.YtkkclkknpjapcaaS13
import Derived.Test.YtkkclkknpjapcaaS15
import Derived.Test.YtkkclkknpjapcaaS16
import Derived.Test.YtkkclkknpjapcaaS03
/-! ### TbU0 -/
namespace Go.Proofs.Ytkkclkknpjapcaa
open Go.RowKit
set_option linter.unusedVariables false
set_option linter.unusedSimpArgs false

/-- The blocks' entries. -/
def chunkF : Nat → List EntR → List (List EntR)
  | 0, _ => []
  | f + 1, es => if es = [] then [] else es.take (cutN es) :: chunkF f (es.drop (cutN es))
theorem chunkF_step {f : Nat} {es : List EntR} (h : es ≠ []) : chunkF (f + 1) es = es.take (cutN es) :: chunkF f (es.drop (cutN es)) := by rw [chunkF, if_neg h]
theorem chunkF_nil (f : Nat) : chunkF f [] = [] := by
  cases f with
  | zero => rfl
  | succ f => rw [chunkF, if_pos rfl]
theorem chunkF_len : ∀ (f : Nat) (es : List EntR), (chunkF f es).length ≤ es.length := by
  intro f
  induction f with
  | zero => intro es; simp [chunkF]
  | succ f ih =>
    intro es
    by_cases h : es = []
    · rw [h, chunkF_nil]; simp
    · rw [chunkF_step h, List.length_cons]
      have h1 := ih (es.drop (cutN es))
      rw [List.length_drop] at h1
      have := cutN_pos h
      have := cutN_le es
      omega
/-- What Cut's loop holds: k entries seen, the block from s on, whose weight is W. -/
def CutI (es : List EntR) (k W s f : Nat) (R : List (List EntR)) : Prop :=
  s ≤ k ∧ cutN (es.drop s) = (k - s) + cutL W (es.drop k) ∧ chunkF es.length es = R ++ chunkF f (es.drop s) ∧ es.length - s ≤ f ∧ (k = es.length → s = es.length) ∧ W < 256 ∧ R.length ≤ k
theorem CutI.start (es : List EntR) : CutI es 0 0 0 es.length [] := ⟨Nat.le_refl _, by simp [cutN], rfl, by omega, fun h => h, by omega, by simp⟩
theorem CutI.close {es : List EntR} {k W s f : Nat} {R : List (List EntR)} (h : CutI es k W s f R) (hk : k < es.length) (hc : 256 ≤ W + wgt (elt noEnt es k) ∨ k + 1 = es.length) :
    ∃ f', CutI es (k + 1) 0 (k + 1) f' (R ++ [(es.drop s).take (k + 1 - s)]) := by
  obtain ⟨h1, h2, h3, h4, h5, h6, h7⟩ := h
  have hN : cutN (es.drop s) = k + 1 - s := by
    rw [h2, cutL_step hk]
    by_cases hg : 256 ≤ W + wgt (elt noEnt es k)
    · rw [if_pos hg]; omega
    · rw [if_neg hg]
      have hke : k + 1 = es.length := by rcases hc with hc | hc; exact absurd hc hg; exact hc
      rw [show es.drop (k + 1) = [] from List.drop_of_length_le (by omega)]
      simp only [cutL]
      omega
  have hne : es.drop s ≠ [] := by
    intro e
    have := congrArg List.length e
    rw [List.length_drop] at this
    simp at this
    omega
  obtain ⟨f', rfl⟩ : ∃ f', f = f' + 1 := ⟨f - 1, by omega⟩
  refine ⟨f', Nat.le_refl _, ?_, ?_, by omega, fun e => e, by omega, by simp; omega⟩
  · rw [Nat.sub_self, Nat.zero_add]; rfl
  · rw [h3, chunkF_step hne, hN, List.drop_drop, show s + (k + 1 - s) = k + 1 by omega, List.append_assoc, List.singleton_append]
theorem CutI.go {es : List EntR} {k W s f : Nat} {R : List (List EntR)} (h : CutI es k W s f R) (hk : k + 1 < es.length) (hc : W + wgt (elt noEnt es k) < 256) : CutI es (k + 1) (W + wgt (elt noEnt es k)) s f R := by
  obtain ⟨h1, h2, h3, h4, h5, h6, h7⟩ := h
  refine ⟨by omega, ?_, h3, h4, fun e => by omega, hc, by omega⟩
  rw [h2, cutL_step (by omega), if_neg (by omega)]
  omega
theorem CutI.done {es : List EntR} {W s f : Nat} {R : List (List EntR)} (h : CutI es es.length W s f R) : R = chunkF es.length es := by
  obtain ⟨h1, h2, h3, h4, h5, h6, h7⟩ := h
  rw [h3, h5 rfl, List.drop_of_length_le (Nat.le_refl _), chunkF_nil, List.append_nil]
/-- The keys' last one is the last entry's. -/
theorem keysU_last (es : List EntR) : ∀ k, 1 ≤ k → ∃ P, keysU es k = P ++ [eKey (elt noEnt es (k - 1))] := by
  intro k
  induction k with
  | zero => intro h; omega
  | succ k ih =>
    intro _
    rw [keysU]
    by_cases h : k = 0 ∨ eKey (elt noEnt es (k - 1)) ≠ eKey (elt noEnt es k)
    · rw [if_pos h]; exact ⟨_, rfl⟩
    · rw [if_neg h]
      have hk : k ≠ 0 := fun e => h (.inl e)
      have he : eKey (elt noEnt es (k - 1)) = eKey (elt noEnt es k) := Classical.byContradiction fun e => h (.inr e)
      obtain ⟨P, hP⟩ := ih (by omega)
      exact ⟨P, by rw [hP, he]; rfl⟩
/-- One step of the keys' row, as the document's Table takes it. -/
theorem keysU_zero_iff (es : List EntR) (k : Nat) : (keysU es k).length = 0 ↔ k = 0 := by
  constructor
  · intro h
    rcases Nat.eq_zero_or_pos k with h0 | h0
    · exact h0
    · obtain ⟨P, hP⟩ := keysU_last es k h0
      rw [hP] at h
      simp at h
  · rintro rfl; rfl
theorem keysU_elt {es : List EntR} {k : Nat} (hk : 1 ≤ k) : elt [] (keysU es k) ((keysU es k).length - 1) = eKey (elt noEnt es (k - 1)) := by
  obtain ⟨P, hP⟩ := keysU_last es k hk
  rw [hP]
  simp [elt]
/-- What Table's outer loop holds: i blocks seen, s entries in them. -/
def TabI (es : List EntR) (i s f : Nat) (out idx : List UInt8) : Prop :=
  s ≤ es.length ∧ (chunkF es.length es).drop i = chunkF f (es.drop s) ∧ blkF es.length es [] [] = blkF f (es.drop s) out idx ∧ es.length - s ≤ f ∧ out.length + 2720 * (es.length - s) ≤ 2720 * es.length ∧ idx.length + 560 * (es.length - s) ≤ 560 * es.length
theorem TabI.start (es : List EntR) : TabI es 0 0 es.length [] [] := ⟨Nat.zero_le _, by simp, by simp, by omega, by simp, by simp⟩
theorem TabI.done {es : List EntR} {i s f : Nat} {out idx : List UInt8} (h : TabI es i s f out idx) (hi : (chunkF es.length es).length ≤ i) : s = es.length ∧ blkF es.length es [] [] = (out, idx) := by
  obtain ⟨h1, h2, h3, h4, _⟩ := h
  rw [List.drop_of_length_le hi] at h2
  have hs : s = es.length := by
    rcases Nat.lt_or_ge s es.length with hlt | hge
    · obtain ⟨f', rfl⟩ : ∃ f', f = f' + 1 := ⟨f - 1, by omega⟩
      have hne : es.drop s ≠ [] := by
        intro e
        have := congrArg List.length e
        rw [List.length_drop] at this
        simp at this
        omega
      rw [chunkF_step hne] at h2
      cases h2
    · omega
  refine ⟨hs, ?_⟩
  rw [h3, hs, List.drop_of_length_le (Nat.le_refl _), blkF_done]
/-- The block that stands at i. -/
theorem TabI.at_ {es : List EntR} {i s f : Nat} {out idx : List UInt8} (h : TabI es i s f out idx) (hi : i < (chunkF es.length es).length) (ha : AllM es) (hs : Srt es) :
    ∃ N, 1 ≤ N ∧ N ≤ 16 ∧ s + N ≤ es.length ∧ elt [] (chunkF es.length es) i = (es.drop s).take N ∧ FitK ((es.drop s).take N) ∧ ((es.drop s).take N).length = N ∧
      (∀ j, j < N → elt noEnt ((es.drop s).take N) j = elt noEnt es (s + j)) ∧
      ∃ f', ∀ BK, encK ((es.drop s).take N) = BK → BK.length ≤ N * 2710 → ∀ idx2, idx2 = (((idx ++ uvar (eKey (elt noEnt es (s + (N - 1)))).length ++ eKey (elt noEnt es (s + (N - 1)))) ++ uvar out.length) ++ uvar BK.length) → idx2.length ≤ idx.length + 542 → TabI es (i + 1) (s + N) f' (out ++ sumB BK) idx2 := by
  obtain ⟨h1, h2, h3, h4, h5, h6⟩ := h
  have hne : es.drop s ≠ [] := by
    intro e
    rw [e, chunkF_nil] at h2
    have := congrArg List.length h2
    rw [List.length_drop] at this
    simp at this
    omega
  have hsl : s < es.length := by
    rcases Nat.lt_or_ge s es.length with hlt | hge
    · exact hlt
    · exact absurd (List.drop_of_length_le hge) hne
  obtain ⟨f', rfl⟩ : ∃ f', f = f' + 1 := ⟨f - 1, by omega⟩
  rw [chunkF_step hne] at h2
  have hp := cutN_pos hne
  have hle := cutN_le (es.drop s)
  have hfw := cutN_few (es.drop s)
  have hfit := fit_cut (ha.drop s) (hs.drop s) hne
  rw [List.length_drop] at hle
  have hst := fun BK (hB : encK ((es.drop s).take (cutN (es.drop s))) = BK) => blkF_step (f := f') (out := out) (idx := idx) (N := cutN (es.drop s)) (BK := BK) (x := elt noEnt (es.drop s) (cutN (es.drop s) - 1)) hne rfl hB rfl
  generalize cutN (es.drop s) = N at *
  have hdr : (chunkF es.length es).drop i = elt [] (chunkF es.length es) i :: (chunkF es.length es).drop (i + 1) := by
    rw [List.drop_eq_getElem_cons hi]
    simp [elt, hi]
  rw [hdr] at h2
  injection h2 with h2 h2'
  refine ⟨N, hp, hfw, by omega, h2, hfit, by rw [List.length_take, List.length_drop]; omega, fun j hj => by rw [elt_take' _ _ _ _ hj, elt_drop'], f', fun BK hBK hbl idx2 hi2 hil => ⟨by omega, ?_, ?_, by omega, ?_, ?_⟩⟩
  · rw [h2', List.drop_drop]
  · rw [h3, hst BK hBK, elt_drop', List.drop_drop, hi2]
  · rw [List.length_append, sumB_len]; omega
  · omega
/-! ## Rows that lie apart -/
theorem RfJ.fresh {w W w' : World} {vo vi vb : Value} {out idx BK : List UInt8} (h : RfJ w W vo out vi idx) (hb : Below W.heap.size W w') (ob : OB w' W.heap.size vb BK) : RfJ w w' vb BK vi idx :=
  ⟨OB.mono ob h.size, h.2.1.below hb, fun k hk e => by
    have h1 := OB.base_ ob k hk
    have h2 := h.2.1.lt k e
    omega, below_then h.2.2.2 hb⟩
theorem RfJ.swap {w W : World} {v u : Value} {L T : List UInt8} (h : RfJ w W v L u T) : RfJ w W u T v L := ⟨h.2.1, h.1, h.2.2.1.symm, h.2.2.2⟩
theorem OB.apart_os {w : World} {base base' : Nat} {u v : Value} {V : List Value} {xs : List UInt8} (h : OB w base' u xs) (h2 : OS w base v V) : u.ownBlock = none ∨ u.ownBlock ≠ v.ownBlock := by
  rcases OS.apart h2 h with h1 | h1
  · rw [h1]
    cases u.ownBlock with
    | none => exact .inl rfl
    | some k => exact .inr (by intro e; cases e)
  · exact .inr (fun e => h1 e.symm)
theorem OS.base_ {w : World} {base : Nat} {v : Value} {V : List Value} (h : OS w base v V) (k : Nat) (hk : v.ownBlock = some k) : base ≤ k := own_base h k hk
/-- The keys' row has grown. -/
theorem RfJ.keys {w W w' : World} {v u kv : Value} {L T : List UInt8} {V : List Value} (h : RfJ w W v L u T) (hk : OS W w.heap.size kv V) (hg : W.grownBy w' kv.ownBlock) : RfJ w w' v L u T :=
  ⟨h.1.other hg (OB.apart_os h.1 hk), h.2.1.other hg (OB.apart_os h.2.1 hk), h.2.2.1, h.2.2.2.grown hg h.2.2.2.size (OS.base_ hk)⟩
/-- append of one slice of bytes, with what it leaves as it was. -/
theorem wpS_append1g {ops : Array Oper} {rest : List Oper} {o : Oper} {a : Act} {Q : Exit → Act → World → Prop} (w : World) (base : Nat) (hgd : o.guard = none) (s x : Operand)
    (ho : o.op = .call { callee := .builtin .append, args := #[s, x], argTypes := #[50, 50] })
    (v : Value) (V : List Value) (hs : a.eval s = v) (hown : OS w base v V) (A : Option Addr) (m c c2 g : Nat) (hg : g = w.heap.size) (hx : a.eval x = .slice (some ⟨g, 0, none⟩) 1 c2)
    (hbytes : (V.length + 1) * 24 ≤ 140737488355328) (hbase : base ≤ w.heap.size)
    (h : ∀ v' w', OS w' base v' (V ++ [.slice A m c]) → w.grownBy w' v.ownBlock → wpList Try.prog ops Q rest (a.put o.dst v') w') : wpList Try.prog ops Q (o :: rest) a (w.alloc (.cells #[.slice A m c] 25)) := by
  subst hg
  refine wpList_append_any _ hgd s x _ ho base 25 (.slice none 0 0) 1 24 Try.underlying50 bsinfo rfl (by omega) v V.length V hs (World.ownsRow.alloc hown _) (some ⟨w.heap.size, 0, none⟩) 1 c2 [.slice A m c] hx (Reads.block (heap_alloc_new w _) rfl) (fun u hu => by simp at hu; subst hu; rfl) (by simp only [maxLen]; omega) hbytes (by simp; omega) ?_
  intro v' w' h2 h3 h4
  refine h v' w' ?_ (grown_step (v0 := v) (World.grownBy_alloc w _ _) (AtRow.refl _ v) h3)
  show w'.ownsRow _ _ _ _ _ _
  rw [List.length_append]
  exact h2
end Go.Proofs.Ytkkclkknpjapcaa
/-! ### BkK -/
namespace Go.Proofs.Ytkkclkknpjapcaa
open Go.RowKit
set_option linter.unusedVariables false
set_option linter.unusedSimpArgs false

theorem cut_head (n : Nat) (e : EntR) (L L2 : List UInt8) (s : Nat) (h : L ++ uvar n ++ uvar ((eKey e).drop n).length ++ (eKey e).drop n = L2) (hs : eSeq e = (s : Int)) : bkHead n e L = L2 ++ uvar s := by
  rw [head_ref, ← h, hs, Int.toNat_natCast]
theorem tdiv4 {m k : Nat} (h : m = 4 * k) : Int.tdiv (m : Int) 4 = (k : Int) := by
  rw [show ((4 : Int)) = ((4 : Nat) : Int) from rfl, ← Int.ofNat_tdiv, h, Nat.mul_div_cancel_left _ (by omega)]
set_option maxHeartbeats 64000000 in
set_option maxRecDepth 200000 in
theorem block_fit (A : Option Addr) (n c : Nat) (es : List EntR) (w : World) (h : REnts w A n es) (hf : FitK es) :
    Calls Try.prog 43 #[.slice A n c] w fun r w' => ∃ v, r = .returned (.tuple #[v, .int .i64 0]) ∧ OB w' w.heap.size v (encK es) ∧ Below w.heap.size w w' := by
  have hl := h.1
  have hmax := h.2.1
  have h1 := hf.1
  have h400 := hf.2.1
  rw [hl] at h1 h400
  have hn0 : ((n : Int) == 0) = false := by rw [beq_eq_false_iff_ne]; omega
  have hn4 : decide ((400 : Int) < (n : Int)) = false := decide_eq_false (by omega)
  have HLen := hid (hf.len hl)
  have HMay : Hid (∀ j, j < n → mayE (elt noEnt es j) = true) := hid (fun j hj => hf.2.2.1 j (by omega))
  have HSr := hid (srtB_true hf.2.2.2)
  have H := hid h
  have HL := hid hl
  clear h hf hl
  go_enter Try.func43, Try.ntmps43
  go_wp2
  go_loopw [21] (fun i wr => ∃ k : Nat, k ≤ n ∧ i = .int .i64 k ∧ Below w.heap.size w wr) (fun i wr => n - (intOf i).toNat)
  case atStart => exact ⟨0, Nat.zero_le _, rfl, Below.refl _ _⟩
  case round =>
    obtain ⟨k, hk, rfl, hB⟩ := hrel
    by_cases hlt : k < n
    · obtain ⟨ad, rfl, hen⟩ := H.out.at_ hlt
      obtain ⟨Ak, nk, ck, Av, nv, cv, a0, a1, a2, a3, a4, a5, a6, a7, a8⟩ := hen.below hB
      have hm := HMay.out k hlt
      have hkl := a5.max
      have hvl := a6.max
      have e5 := a5.1
      have e6 := a6.1
      generalize elt noEnt es k = x at *
      have hmN : mayN nk (eSeq x) (eGone x) (eTil x) nv = true := by rw [← e5, ← e6]; exact hm
      have HmN := hid hmN
      clear hen a5 a6 hm hmN e5 e6
      go_wp2_with (go_at_call 41; (with_reducible refine (refmay_any Ak nk ck (eSeq x) (eGone x) (eTil x) Av nv cv _ hkl hvl).mono ?_); rintro r w1 ⟨rfl, hb1⟩; rw [HmN.out])
      go_roundw
      case rel => exact ⟨k + 1, by omega, by go_num, below_then (below_alloc' hB _) hb1⟩
      case measure => simp [intOf]; omega
    · obtain rfl : k = n := by omega
      go_wp2_with (go_at_call 31; (with_reducible refine (refordered_any A k c es _ (H.out.below hB)).mono ?_); rintro r w1 ⟨rfl, hb1⟩; rw [HSr.out]; have hB1 := below_then hB hb1)
      go_loopw [6, 7, 34] (fun v u i wr => ∃ j : Nat, j ≤ k ∧ i = .int .i64 j ∧ RfJ w wr v (accK es j) u (tlK es j)) (fun v u i wr => k - (intOf i).toNat)
      case atStart => exact ⟨0, Nat.zero_le _, rfl, OB.nil _ _, OB.nil _ _, (by intro q hq; cases hq), hB1⟩
      case round =>
        clear hB hB1 hb1
        obtain ⟨j, hj, rfl, hJ⟩ := hrel
        by_cases hjt : j < k
        · have hlen := HLen.out j hj
          have hsh := shN_le es j
          have hm := HMay.out j hjt
          have hacc : accK es (j + 1) = bkTail (elt noEnt es j) (bkHead (shN es j) (elt noEnt es j) (accK es j)) := rfl
          have hst : tlK es (j + 1) = if j % 8 = 0 then tlK es j ++ fixB (accK es j).length 4 else tlK es j := rfl
          have hsn : shN es j = if j % 8 = 0 then 0 else cmnB (eKey (elt noEnt es (j - 1))) (eKey (elt noEnt es j)) := rfl
          have htl4 := tl_len es j
          have hslen := stK_len es j
          have htln : (tlK es j).length + 10 ≤ 140737488355328 := by omega
          obtain ⟨ad, hA, hen⟩ := H.out.at_ hjt
          subst hA
          have hen1 : 0 < j → EnC w (ad.add ((j - 1) * 5)) (elt noEnt es (j - 1)) := fun h0 => by
            obtain ⟨ad1, ha, hx⟩ := H.out.at_ (show j - 1 < k by omega)
            obtain rfl := Option.some.inj ha
            exact hx
          clear htl4 hslen
          generalize elt noEnt es j = x at *
          generalize shN es j = NN at *
          obtain ⟨T2, hT2⟩ : ∃ T2, tlK es (j + 1) = T2 := ⟨_, rfl⟩
          rw [hT2] at hst
          have HT2 := hid hT2
          clear hT2
          generalize tlK es j = T at *
          generalize accK es j = L at *
          obtain ⟨m1, m2, m3, m4, m5⟩ := mayE_cases hm
          obtain ⟨m6, m7, m8⟩ := mayE_more hm
          obtain ⟨Ak, nk, ck, Av, nv, cv, a0, a1, a2, a3, a4, a5, a6, a7, a8⟩ := hen
          have a0 := below_cell hJ.2.2.2 a0
          have a1 := below_cell hJ.2.2.2 a1
          have a2 := below_cell hJ.2.2.2 a2
          have a3 := below_cell hJ.2.2.2 a3
          have a4 := below_cell hJ.2.2.2 a4
          obtain ⟨Ao, co, hve, _, _⟩ := hJ.1.open_
          subst hve
          have hnk := a5.1
          have hnv := a6.1
          have HK0 := hid a5
          have HV0 := hid a6
          obtain ⟨sq, hsq⟩ : ∃ sq : Nat, eSeq x = (sq : Int) := ⟨(eSeq x).toNat, by omega⟩
          obtain ⟨tl, htl⟩ : ∃ tl : Nat, eTil x = (tl : Int) := ⟨(eTil x).toNat, by omega⟩
          have hsq2 : sq < 18446744073709551616 := by omega
          have htl2 : tl < 18446744073709551616 := by omega
          have HSq := hid hsq
          have HTl := hid htl
          clear hsq htl m4 m5 m6 m7
          rw [hnk] at hsh m1 m2
          rw [hnv] at m3
          have hJ0 := hJ.below (below_alloc' (Below.refl _ _) (.cells #[.slice Ak nk ck, .int .i64 (eSeq x), .bool (eGone x), .int .i64 (eTil x), .slice Av nv cv] 42))
          have hbx : EnBx (wr.alloc (.cells #[.slice Ak nk ck, .int .i64 (eSeq x), .bool (eGone x), .int .i64 (eTil x), .slice Av nv cv] 42)) wr.heap.size Ak nk ck x Av nv cv := heap_alloc_new wr _
          have HAcc := hid hacc
          have HSt := hid hst
          have HEn1 := hid hen1
          have HSn := hid hsn
          have hq1 := wrap_u64_nat' NN (by omega)
          clear hacc hst hen1 hsn hm m8 a5 a6 hJ
          obtain ⟨M8, hM8⟩ : ∃ M8 : Bool, ((j : Int) % 8 == 0) = M8 := ⟨_, rfl⟩
          have HM8 : Hid (M8 = decide (j % 8 = 0)) := by
            unfold Hid
            rw [← hM8]
            by_cases h8 : j % 8 = 0
            · rw [decide_eq_true h8, beq_iff_eq]; omega
            · rw [decide_eq_false h8, beq_eq_false_iff_ne]; omega
          go_upto_if 41 with fail
          generalize wr.alloc (.cells #[.slice Ak nk ck, .int .i64 (eSeq x), .bool (eGone x), .int .i64 (eTil x), .slice Av nv cv] 42) = W0 at *
          generalize wr.heap.size = b at *
          clear a0 a1 a2 a3 a4
          go_cut [6, 7, 10] (fun v u s wx => s = .int .i64 (NN : Int) ∧ RfJ w wx v L u T2 ∧ EnBx wx b Ak nk ck x Av nv cv)
          case first =>
            have HW := hid (hJ0.2.2.2)
            cases M8
            · have h8 : ¬ j % 8 = 0 := of_decide_eq_false HM8.out.symm
              have HST : Hid (T = T2) := hid (by rw [HSt.out, if_neg h8])
              have hNe : NN = cmnB (eKey (elt noEnt es (j - 1))) (eKey x) := by rw [HSn.out, if_neg h8]
              obtain ⟨Bk, mk, dk, Bv, mv, dv, b0, _, _, _, _, b5, _, _, _⟩ := HEn1.out (by omega)
              have b0 := below_cell hJ0.2.2.2 b0
              obtain ⟨i, hi⟩ : ∃ i, j - 1 = i := ⟨_, rfl⟩
              have hkm : (j : Int) - 1 = (i : Int) := by omega
              have hws : IntKind.i64.wrap (i : Int) = (i : Int) := by rw [IntKind.wrap_i64]; omega
              have hik : i < k := by omega
              rw [hi] at b0 hNe b5
              generalize elt noEnt es i = y at *
              have ha0 := hbx.at_.1
              have hkx := HK0.out.1
              have hky := b5.1
              have hmx := HK0.out.max
              have hmy := b5.max
              have HI : Hid (∀ q, q ≤ nk → q ≤ mk → (∀ t, t < q → bAt (eKey x) t = bAt (eKey y) t) → (q = nk ∨ q = mk ∨ bAt (eKey x) q ≠ bAt (eKey y) q) → NN = q) := by
                intro q h1 h2 h3 h4
                rw [hNe]
                exact cmnB_is _ _ q (by omega) (by omega) (fun t ht => (h3 t ht).symm) (by rw [hkx, hky]; rcases h4 with h4 | h4 | h4 <;> first | exact .inr (.inl h4) | exact .inl h4 | exact .inr (.inr (fun e => h4 e.symm)))
              have HY0 := hid b5
              have HJ0 := hid hJ0
              have HBX := hid hbx
              clear h8 hi hNe b5 hkx hky hJ0 hbx
              go_wp2
              go_loopw [10] (fun s wx => ∃ q : Nat, q ≤ nk ∧ q ≤ mk ∧ s = .int .i64 q ∧ (∀ t, t < q → bAt (eKey x) t = bAt (eKey y) t) ∧ Below W0.heap.size W0 wx) (fun s wx => nk - (intOf s).toNat)
              case atStart => exact ⟨0, Nat.zero_le _, Nat.zero_le _, rfl, fun t ht => absurd ht (by omega), Below.refl _ _⟩
              case round =>
                obtain ⟨q, hqn, hqm, rfl, hall, hB⟩ := hrel
                have HA := hid hall
                clear hall
                have b0 := below_cell hB b0
                have ha0 := below_cell hB ha0
                have fin : Hid (∀ W, Below wr.heap.size wr W → RfJ w W (.slice Ao L.length co) L u7 T2 ∧ EnBx W b Ak nk ck x Av nv cv) := by
                  intro W hbW
                  rw [← HST.out]
                  exact ⟨HJ0.out.below (below_then hB hbW), blk_below (below_then hB hbW) HBX.out⟩
                rcases Nat.lt_or_ge q nk with h1 | h1
                · have hd1 : decide ((q : Int) < (nk : Int)) = true := decide_eq_true (by omega)
                  rcases Nat.lt_or_ge q mk with h2 | h2
                  · have hd2 : decide ((q : Int) < (mk : Int)) = true := decide_eq_true (by omega)
                    obtain ⟨ax, rfl, p0⟩ := HK0.out.at_ h1
                    obtain ⟨ay, rfl, q0⟩ := HY0.out.at_ h2
                    have p0 := below_cell (below_then HW.out hB) p0
                    have q0 := below_cell (below_then HW.out hB) q0
                    by_cases he : bAt (eKey x) q = bAt (eKey y) q
                    · have HA2 : Hid (∀ t, t < q + 1 → bAt (eKey x) t = bAt (eKey y) t) := by
                        intro t ht
                        rcases Nat.lt_succ_iff_lt_or_eq.1 ht with h3 | h3
                        · exact HA.out t h3
                        · rw [h3]; exact he
                      rw [he] at p0
                      clear he
                      go_wp2
                      go_quiet (fail)
                      go_wp2
                      go_roundw
                      case rel => exact ⟨q + 1, by omega, by omega, by go_num, HA2.out, below_drewN hB _⟩
                      case measure => simp [intOf]; omega
                    · have hd3 : ((bAt (eKey x) q : Int) == (bAt (eKey y) q : Int)) = false := by rw [beq_eq_false_iff_ne]; omega
                      have HR := hid (HI.out q hqn hqm HA.out (.inr (.inr he)))
                      clear he
                      go_wp2
                      go_quiet (fail)
                      go_wp2
                      go_meet
                      exact ⟨by rw [HR.out], fin.out _ (below_drewN (Below.refl _ _) _)⟩
                  · obtain rfl : mk = q := by omega
                    have hd2 : ¬ ((mk : Int) < (mk : Int)) := by omega
                    have HR := hid (HI.out mk hqn hqm HA.out (.inr (.inl rfl)))
                    go_wp2
                    go_quiet (fail)
                    go_wp2
                    go_meet
                    exact ⟨by rw [HR.out], fin.out _ (below_drewN (Below.refl _ _) _)⟩
                · obtain rfl : nk = q := by omega
                  have HR := hid (HI.out nk hqn hqm HA.out (.inl rfl))
                  go_wp2
                  go_quiet (fail)
                  go_wp2
                  go_meet
                  exact ⟨by rw [HR.out], fin.out _ (below_drewN (Below.refl _ _) _)⟩
            · have h8 : j % 8 = 0 := of_decide_eq_true HM8.out.symm
              have HST : Hid (T2 = T ++ fixB L.length 4) := hid (by rw [HSt.out, if_pos h8])
              have hN0 : NN = 0 := by rw [HSn.out, if_pos h8]
              have hLl := wrap_u64_nat' L.length (by omega)
              subst hN0
              clear h8
              have hoU := hJ0.2.1
              have hoS := hJ0.size
              go_wp2_with (go_at_call 47; (with_reducible refine (reffixed_any u7 w.heap.size T L.length 4 _ hoU hoS (by omega) (by omega) htln).mono ?_); rintro r w1 ⟨v1, rfl, hown1, hgr1, hat1⟩; have hbx1 := hbx.grown hgr1 hJ0.2.1; have hJ1 := hJ0.stepU hgr1 hown1 hat1.place)
              go_meet
              exact ⟨rfl, by rw [HST.out]; exact hJ1, hbx1⟩
          case rest =>
            obtain ⟨rfl, hJ1, hbx1⟩ := hcut
            clear hJ0 hbx hM8 HM8 M8
            generalize wc = W1 at *
            have hown := hJ1.1
            have hbW1 := hJ1.size
            have hJ1B := hJ1.2.2.2
            have huN := uvar_len NN
            obtain ⟨A4, c4, hkcut, hrb, hc4⟩ := cutB_lo (A := Ak) a7 hsh (NN : Int) rfl
            have hr4 := hrb _ _ HK0.out
            have HR4 := hid hr4
            have hd4 : ((eKey x).drop NN).length = nk - NN := hr4.1
            clear hrb hr4
            go_wp2
            apply wp_region_txtP (w.heap.size) 0 (u6.ownBlock) [none, none, none, none, none, none, some 9, none, none, none, none, none, none, none, none, none, none, none, none, none, none, none, none, none, none, none, none, none, none, none, none, none, none, none, none, none, none, none, none, none, none, none, none, none, none, none, none, none, none, none, none, none, none, none, none, none, none, none, none, none, none, none, none, none, none, none, none, none, none, none, none, none, none, none, none, none, none, none, none, none, none, none, some 0, some 1, some 2, some 3, some 4, some 5, some 6, some 7, some 8, none, none, none, none, none, none, none, none, none, none, none, none, none, none, none, none, none, none, none, none, none, none, none, none, none, none, none, none, none] [0, 3, 8, 9] [(0, 3), (3, 8), (8, 9)] [undef, _, _, undef, _, _, _, _, undef, undef] [_, [], [], _, [], [], [], [], _, _]
            case hm => rfl
            case hs => rfl
            case hst => kernel_rfl
            case hrow0 => exact fun k hk => (World.ownsRow.lt hown k hk).2
            case hput => exact OpsOK.cons (fun _ _ => rfl) (OpsOK.cons (fun _ _ => rfl) (OpsOK.cons (fun _ _ => rfl) (OpsOK.cons (fun _ _ => rfl) (OpsOK.cons (fun _ _ => rfl) (OpsOK.cons (fun _ _ => rfl) (OpsOK.cons (fun _ _ => rfl) (OpsOK.cons (fun _ _ => rfl) (OpsOK.cons (fun _ _ => rfl) (OpsOK.cons (fun _ _ => rfl) (OpsOK.nil))))))))))
            case hops =>
              refine OpsOK.cons ?_ ?_
              · intro u W K hB hz0 hz1 hd hK
                have hbW := Nat.le_trans hbW1 hB.size
                replace hK := hk_oldB hK rfl (by decide) (by rfl)
                clear hd
                have hw : u 9 = (u6) := (was_of hz1 9 (by kernel_rfl)).trans rfl
                clear hz1
                simp only [lay, Act.put, List.setIfInBounds_toArray, List.set_cons_zero, List.set_cons_succ, hw] at hK ⊢
                go_simp
                exact hK.out _ (OB.below hown (hz0 rfl)) (fun k hk => hk.symm)
              refine OpsOK.cons ?_ ?_
              · intro u W K hB hz0 hz1 hd hK
                have hbW := Nat.le_trans hbW1 hB.size
                replace hK := hk_valB hK (by decide) (by rfl)
                clear hd
                clear hz1
                simp only [lay, Act.put, List.setIfInBounds_toArray, List.set_cons_zero, List.set_cons_succ] at hK ⊢
                go_simp
                exact hK.out _ _ rfl (Below.refl _ _)
              refine OpsOK.cons ?_ ?_
              · intro u W K hB hz0 hz1 hd hK
                have hbW := Nat.le_trans hbW1 hB.size
                have h1 := fact_valB (dep_of hd 1 (by kernel_rfl) (by kernel_rfl)) (by decide)
                dsimp only [nth] at h1
                replace hK := hk_valB hK (by decide) (by rfl)
                clear hd
                clear hz1
                simp only [lay, Act.put, List.setIfInBounds_toArray, List.set_cons_zero, List.set_cons_succ, h1] at hK ⊢
                go_simp
                exact hK.out _ _ rfl (Below.refl _ _)
              refine OpsOK.cons ?_ ?_
              · intro u W K hB hz0 hz1 hd hK
                have hbW := Nat.le_trans hbW1 hB.size
                have h0 := fact_rowB (dep_of hd 0 (by kernel_rfl) (by kernel_rfl)) (by decide)
                dsimp only [nth] at h0
                have h2 := fact_valB (dep_of hd 2 (by kernel_rfl) (by kernel_rfl)) (by decide)
                dsimp only [nth] at h2
                replace hK := hk_parB hK (by decide) 0 (by rfl)
                clear hd
                clear hz1
                simp only [lay, Act.put, List.setIfInBounds_toArray, List.set_cons_zero, List.set_cons_succ, h2] at hK ⊢
                try simp only [hq1] at hK ⊢
                go_simp
                first
                  | (go_at_call 45; (with_reducible refine (refput_any _ w.heap.size L NN W h0 hbW (by omega) (by omega)).mono ?_); rintro e w1 ⟨v1, rfl, hown1, hgr1, hat1⟩; exact hK.out _ _ hown1 hgr1 hat1)
                  | (go_at_call 44; (with_reducible refine (refputbytes_any _ w.heap.size (L ++ uvar NN) A4 _ c4 ((eKey x).drop NN) W h3 hbW (HR4.out.below (hJ1B.grown hB hbW1 (OB.base_ hown))) (own_key h3 HR4.out) (by simp only [List.length_append]; omega)).mono ?_); rintro e w1 ⟨v1, rfl, hown1, hgr1, hat1⟩; exact hK.out _ _ hown1 hgr1 hat1)
              refine OpsOK.cons ?_ ?_
              · intro u W K hB hz0 hz1 hd hK
                have hbW := Nat.le_trans hbW1 hB.size
                replace hK := hk_valB hK (by decide) (by rfl)
                clear hd
                clear hz1
                simp only [lay, Act.put, List.setIfInBounds_toArray, List.set_cons_zero, List.set_cons_succ] at hK ⊢
                go_simp
                exact hK.out _ _ rfl (Below.refl _ _)
              refine OpsOK.cons ?_ ?_
              · intro u W K hB hz0 hz1 hd hK
                have hbW := Nat.le_trans hbW1 hB.size
                have h4 := fact_valB (dep_of hd 4 (by kernel_rfl) (by kernel_rfl)) (by decide)
                dsimp only [nth] at h4
                replace hK := hk_valB hK (by decide) (by rfl)
                clear hd
                clear hz1
                simp only [lay, Act.put, List.setIfInBounds_toArray, List.set_cons_zero, List.set_cons_succ, h4] at hK ⊢
                have y0 := (hbx1.grown hB hown).at_.1
                go_simp
                exact hK.out _ _ rfl (Below.refl _ _)
              refine OpsOK.cons ?_ ?_
              · intro u W K hB hz0 hz1 hd hK
                have hbW := Nat.le_trans hbW1 hB.size
                replace hK := hk_valB hK (by decide) (by rfl)
                clear hd
                clear hz1
                simp only [lay, Act.put, List.setIfInBounds_toArray, List.set_cons_zero, List.set_cons_succ] at hK ⊢
                go_simp
                exact hK.out _ _ rfl (Below.refl _ _)
              refine OpsOK.cons ?_ ?_
              · intro u W K hB hz0 hz1 hd hK
                have hbW := Nat.le_trans hbW1 hB.size
                have h5 := fact_valB (dep_of hd 5 (by kernel_rfl) (by kernel_rfl)) (by decide)
                dsimp only [nth] at h5
                have h6 := fact_valB (dep_of hd 6 (by kernel_rfl) (by kernel_rfl)) (by decide)
                dsimp only [nth] at h6
                replace hK := hk_valB hK (by decide) (by rfl)
                clear hd
                clear hz1
                simp only [lay, Act.put, List.setIfInBounds_toArray, List.set_cons_zero, List.set_cons_succ, h5, h6] at hK ⊢
                go_simp
                exact hK.out _ _ rfl (Below.refl _ _)
              refine OpsOK.cons ?_ ?_
              · intro u W K hB hz0 hz1 hd hK
                have hbW := Nat.le_trans hbW1 hB.size
                have h3 := fact_rowB (dep_of hd 3 (by kernel_rfl) (by kernel_rfl)) (by decide)
                dsimp only [nth] at h3
                have h7 := fact_valB (dep_of hd 7 (by kernel_rfl) (by kernel_rfl)) (by decide)
                dsimp only [nth] at h7
                replace hK := hk_parB hK (by decide) 3 (by rfl)
                clear hd
                clear hz1
                simp only [lay, Act.put, List.setIfInBounds_toArray, List.set_cons_zero, List.set_cons_succ, h7] at hK ⊢
                go_simp
                first
                  | (go_at_call 45; (with_reducible refine (refput_any _ w.heap.size L NN W h0 hbW (by omega) (by omega)).mono ?_); rintro e w1 ⟨v1, rfl, hown1, hgr1, hat1⟩; exact hK.out _ _ hown1 hgr1 hat1)
                  | (go_at_call 44; (with_reducible refine (refputbytes_any _ w.heap.size (L ++ uvar NN) A4 _ c4 ((eKey x).drop NN) W h3 hbW (HR4.out.below (hJ1B.grown hB hbW1 (OB.base_ hown))) (own_key h3 HR4.out) (by simp only [List.length_append]; omega)).mono ?_); rintro e w1 ⟨v1, rfl, hown1, hgr1, hat1⟩; exact hK.out _ _ hown1 hgr1 hat1)
              refine OpsOK.cons ?_ ?_
              · intro u W K hB hz0 hz1 hd hK
                have hbW := Nat.le_trans hbW1 hB.size
                have h8 := fact_rowB (dep_of hd 8 (by kernel_rfl) (by kernel_rfl)) (by decide)
                dsimp only [nth] at h8
                replace hK := hk_parB hK (by decide) 8 (by rfl)
                clear hd
                clear hz1
                simp only [lay, Act.put, List.setIfInBounds_toArray, List.set_cons_zero, List.set_cons_succ] at hK ⊢
                go_simp
                exact hK.out _ _ h8 (grown_refl _ _) (AtRow.refl _ _)
              exact OpsOK.nil
            intro u W hB hp hf
            have p9 := hp 9 (by decide) (by decide) (by decide)
            clear hp
            have h1 := fact_valB (hf 1 (by decide) (by decide)) (by decide)
            dsimp only [nth] at h1
            have h2 := fact_valB (hf 2 (by decide) (by decide)) (by decide)
            dsimp only [nth] at h2
            have h4 := fact_valB (hf 4 (by decide) (by decide)) (by decide)
            dsimp only [nth] at h4
            have h5 := fact_valB (hf 5 (by decide) (by decide)) (by decide)
            dsimp only [nth] at h5
            have h6 := fact_valB (hf 6 (by decide) (by decide)) (by decide)
            dsimp only [nth] at h6
            have h7 := fact_valB (hf 7 (by decide) (by decide)) (by decide)
            dsimp only [nth] at h7
            have h9 := fact_rowB (hf 9 (by decide) (by decide)) (by decide)
            dsimp only [nth] at h9
            clear hf
            simp only [lay, h1, h2, h4, h5, h6, h7]
            clear h1 h2 h4 h5 h6 h7
            have hJ2 := hJ1.step hB h9 p9
            have hbx2 := hbx1.grown hB hown
            generalize u 9 = v9 at *
            have huR := uvar_len ((eKey x).drop NN).length
            have hL2 : (L ++ uvar NN ++ uvar ((eKey x).drop NN).length ++ (eKey x).drop NN).length ≤ L.length + 532 := by simp only [List.length_append]; omega
            obtain ⟨L2, hL2e⟩ : ∃ L2, L ++ uvar NN ++ uvar ((eKey x).drop NN).length ++ (eKey x).drop NN = L2 := ⟨_, rfl⟩
            have HHead := hid (cut_head NN x L L2 sq hL2e HSq.out)
            rw [hL2e] at hJ2 hL2
            clear hL2e h9 p9 hJ1 hbx1 hB hown hbW1 hJ1B hkcut hd4
            generalize W = W2 at *
            have hown2 := hJ2.1
            have hbW2 := hJ2.size
            have huS := uvar_len sq
            have hq3 := wrap_u64_nat' sq hsq2
            have hq4 := wrap_u64_nat' tl htl2
            have y1 := hbx2.at_.2.1
            rw [HSq.out] at y1
            obtain ⟨G, hG⟩ : ∃ G, eGone x = G := ⟨_, rfl⟩
            have HG := hid hG
            clear hG
            cases G
            · go_wp2_with (go_at_call 45; (with_reducible refine (refput_any _ w.heap.size L2 sq _ hown2 hbW2 hsq2 (by omega)).mono ?_); rintro e w3 ⟨v3, rfl, hown3, hgr3, hat3⟩; have hJ3 := hJ2.step hgr3 hown3 hat3.place; have hbx3 := hbx2.grown hgr3 hown2; have hgx := hbx3.at_.2.2.1; rw [HG.out] at hgx; have hbW3 := hJ3.size; have hJ3B := hJ3.2.2.2; have hL3 : (L2 ++ uvar sq).length ≤ L.length + 542 := by simp only [List.length_append]; omega)
              have huT := uvar_len tl
              have huV := uvar_len (eVal x).length
              obtain ⟨L3, hL3e⟩ : ∃ L3, L2 ++ uvar sq = L3 := ⟨_, rfl⟩
              have HL3 := hid (HHead.out.trans hL3e)
              rw [hL3e] at hown3 hJ3 hL3
              clear hL3e hbx2 hJ2 hown2 hbW2 y1 hgx hgr3 hat3
              generalize w3 = W3 at *
              apply wp_region_txtP (w.heap.size) 0 (v3.ownBlock) [none, none, none, none, none, none, some 10, none, none, none, none, none, none, none, none, none, none, none, none, none, none, none, none, none, none, none, none, none, none, none, none, none, none, none, none, none, none, none, none, none, none, none, none, none, none, none, none, none, none, none, none, none, none, none, none, none, none, none, none, none, none, none, none, none, none, none, none, none, none, none, none, none, none, none, none, none, none, none, none, none, none, none, none, none, none, none, none, none, none, none, none, none, none, none, none, none, none, none, none, none, none, some 0, some 1, some 2, some 3, some 4, some 5, some 6, some 7, some 8, some 9, none, none, none, none, none, none, none, none, none] [0, 1, 2, 6, 9, 10] [(0, 2), (2, 6), (6, 9), (9, 10)] [undef, undef, undef, _, _, _, undef, _, _, undef, undef] [_, _, _, [], [], [], _, [], [], _, _]
              case hm => rfl
              case hs => rfl
              case hst => kernel_rfl
              case hrow0 => exact fun k hk => (World.ownsRow.lt hown3 k hk).2
              case hput => exact OpsOK.cons (fun _ _ => rfl) (OpsOK.cons (fun _ _ => rfl) (OpsOK.cons (fun _ _ => rfl) (OpsOK.cons (fun _ _ => rfl) (OpsOK.cons (fun _ _ => rfl) (OpsOK.cons (fun _ _ => rfl) (OpsOK.cons (fun _ _ => rfl) (OpsOK.cons (fun _ _ => rfl) (OpsOK.cons (fun _ _ => rfl) (OpsOK.cons (fun _ _ => rfl) (OpsOK.cons (fun _ _ => rfl) (OpsOK.nil)))))))))))
              case hops =>
                refine OpsOK.cons ?_ ?_
                · intro u W K hB hz0 hz1 hd hK
                  have hbW := Nat.le_trans hbW3 hB.size
                  replace hK := hk_oldB hK rfl (by decide) (by rfl)
                  clear hd
                  have hw : u 10 = (v3) := (was_of hz1 10 (by kernel_rfl)).trans rfl
                  clear hz1
                  simp only [lay, Act.put, List.setIfInBounds_toArray, List.set_cons_zero, List.set_cons_succ, hw] at hK ⊢
                  go_simp
                  exact hK.out _ (OB.below hown3 (hz0 rfl)) (fun k hk => hk.symm)
                refine OpsOK.cons ?_ ?_
                · intro u W K hB hz0 hz1 hd hK
                  have hbW := Nat.le_trans hbW3 hB.size
                  replace hK := hk_rowB hbW hK (by decide) (by decide) (by rfl)
                  clear hd
                  clear hz1
                  simp only [lay, Act.put, List.setIfInBounds_toArray, List.set_cons_zero, List.set_cons_succ] at hK ⊢
                  (go_simp; exact hK.out _ _ (OB.lit1' _ _ (Nat.le_refl _) 0 0 rfl) (below_alloc' (Below.refl _ _) _))
                refine OpsOK.cons ?_ ?_
                · intro u W K hB hz0 hz1 hd hK
                  have hbW := Nat.le_trans hbW3 hB.size
                  have h0 := fact_rowB (dep_of hd 0 (by kernel_rfl) (by kernel_rfl)) (by decide)
                  dsimp only [nth] at h0
                  have h1 := fact_rowB (dep_of hd 1 (by kernel_rfl) (by kernel_rfl)) (by decide)
                  dsimp only [nth] at h1
                  replace hK := hk_parB hK (by decide) 0 (by rfl)
                  clear hd
                  clear hz1
                  (obtain ⟨A7, c7, e7, hr7, _⟩ := h1.open_; refine stepB_append W W w.heap.size (.tmp 101) (.tmp 102) (by rfl) (by rfl) (u 0) L3 (by rfl) h0 A7 _ c7 [0] (by exact e7) hr7 (by simp only [List.length_singleton]; omega) (Below.refl _ _) hbW ?_; intro v' w' a b d f; exact hK.out _ _ (show OB _ _ _ (L3 ++ [0]) from a) d f)
                refine OpsOK.cons ?_ ?_
                · intro u W K hB hz0 hz1 hd hK
                  have hbW := Nat.le_trans hbW3 hB.size
                  replace hK := hk_valB hK (by decide) (by rfl)
                  clear hd
                  clear hz1
                  simp only [lay, Act.put, List.setIfInBounds_toArray, List.set_cons_zero, List.set_cons_succ] at hK ⊢
                  go_simp
                  exact hK.out _ _ rfl (Below.refl _ _)
                refine OpsOK.cons ?_ ?_
                · intro u W K hB hz0 hz1 hd hK
                  have hbW := Nat.le_trans hbW3 hB.size
                  have h3 := fact_valB (dep_of hd 3 (by kernel_rfl) (by kernel_rfl)) (by decide)
                  dsimp only [nth] at h3
                  replace hK := hk_valB hK (by decide) (by rfl)
                  clear hd
                  clear hz1
                  simp only [lay, Act.put, List.setIfInBounds_toArray, List.set_cons_zero, List.set_cons_succ, h3] at hK ⊢
                  have y3 := (hbx3.grown hB hown3).at_.2.2.2.1
                  go_simp
                  exact hK.out _ _ rfl (Below.refl _ _)
                refine OpsOK.cons ?_ ?_
                · intro u W K hB hz0 hz1 hd hK
                  have hbW := Nat.le_trans hbW3 hB.size
                  have h4 := fact_valB (dep_of hd 4 (by kernel_rfl) (by kernel_rfl)) (by decide)
                  dsimp only [nth] at h4
                  replace hK := hk_valB hK (by decide) (by rfl)
                  clear hd
                  clear hz1
                  simp only [lay, Act.put, List.setIfInBounds_toArray, List.set_cons_zero, List.set_cons_succ, h4] at hK ⊢
                  go_simp
                  exact hK.out _ _ rfl (Below.refl _ _)
                refine OpsOK.cons ?_ ?_
                · intro u W K hB hz0 hz1 hd hK
                  have hbW := Nat.le_trans hbW3 hB.size
                  have h2 := fact_rowB (dep_of hd 2 (by kernel_rfl) (by kernel_rfl)) (by decide)
                  dsimp only [nth] at h2
                  have h5 := fact_valB (dep_of hd 5 (by kernel_rfl) (by kernel_rfl)) (by decide)
                  dsimp only [nth] at h5
                  replace hK := hk_parB hK (by decide) 2 (by rfl)
                  clear hd
                  clear hz1
                  simp only [lay, Act.put, List.setIfInBounds_toArray, List.set_cons_zero, List.set_cons_succ, h5] at hK ⊢
                  try simp only [HTl.out, hq4] at hK ⊢
                  go_simp
                  first
                    | (go_at_call 45; (with_reducible refine (refput_any _ w.heap.size (L3 ++ [0]) tl W h2 hbW (by omega) (by simp only [List.length_append, List.length_singleton]; omega)).mono ?_); rintro e w1 ⟨v1, rfl, hown1, hgr1, hat1⟩; exact hK.out _ _ hown1 hgr1 hat1)
                    | (go_at_call 44; (with_reducible refine (refputbytes_any _ w.heap.size (L3 ++ [0] ++ uvar tl) Av _ cv (eVal x) W h6 hbW (HV0.out.below (hJ3B.grown hB hbW3 (OB.base_ hown3))) (own_key h6 HV0.out) (by simp only [List.length_append, List.length_singleton]; omega)).mono ?_); rintro e w1 ⟨v1, rfl, hown1, hgr1, hat1⟩; exact hK.out _ _ hown1 hgr1 hat1)
                refine OpsOK.cons ?_ ?_
                · intro u W K hB hz0 hz1 hd hK
                  have hbW := Nat.le_trans hbW3 hB.size
                  replace hK := hk_valB hK (by decide) (by rfl)
                  clear hd
                  clear hz1
                  simp only [lay, Act.put, List.setIfInBounds_toArray, List.set_cons_zero, List.set_cons_succ] at hK ⊢
                  go_simp
                  exact hK.out _ _ rfl (Below.refl _ _)
                refine OpsOK.cons ?_ ?_
                · intro u W K hB hz0 hz1 hd hK
                  have hbW := Nat.le_trans hbW3 hB.size
                  have h7 := fact_valB (dep_of hd 7 (by kernel_rfl) (by kernel_rfl)) (by decide)
                  dsimp only [nth] at h7
                  replace hK := hk_valB hK (by decide) (by rfl)
                  clear hd
                  clear hz1
                  simp only [lay, Act.put, List.setIfInBounds_toArray, List.set_cons_zero, List.set_cons_succ, h7] at hK ⊢
                  have y4 := (hbx3.grown hB hown3).at_.2.2.2.2
                  go_simp
                  exact hK.out _ _ rfl (Below.refl _ _)
                refine OpsOK.cons ?_ ?_
                · intro u W K hB hz0 hz1 hd hK
                  have hbW := Nat.le_trans hbW3 hB.size
                  have h6 := fact_rowB (dep_of hd 6 (by kernel_rfl) (by kernel_rfl)) (by decide)
                  dsimp only [nth] at h6
                  have h8 := fact_valB (dep_of hd 8 (by kernel_rfl) (by kernel_rfl)) (by decide)
                  dsimp only [nth] at h8
                  replace hK := hk_parB hK (by decide) 6 (by rfl)
                  clear hd
                  clear hz1
                  simp only [lay, Act.put, List.setIfInBounds_toArray, List.set_cons_zero, List.set_cons_succ, h8] at hK ⊢
                  go_simp
                  first
                    | (go_at_call 45; (with_reducible refine (refput_any _ w.heap.size (L3 ++ [0]) tl W h2 hbW (by omega) (by simp only [List.length_append, List.length_singleton]; omega)).mono ?_); rintro e w1 ⟨v1, rfl, hown1, hgr1, hat1⟩; exact hK.out _ _ hown1 hgr1 hat1)
                    | (go_at_call 44; (with_reducible refine (refputbytes_any _ w.heap.size (L3 ++ [0] ++ uvar tl) Av _ cv (eVal x) W h6 hbW (HV0.out.below (hJ3B.grown hB hbW3 (OB.base_ hown3))) (own_key h6 HV0.out) (by simp only [List.length_append, List.length_singleton]; omega)).mono ?_); rintro e w1 ⟨v1, rfl, hown1, hgr1, hat1⟩; exact hK.out _ _ hown1 hgr1 hat1)
                refine OpsOK.cons ?_ ?_
                · intro u W K hB hz0 hz1 hd hK
                  have hbW := Nat.le_trans hbW3 hB.size
                  have h9 := fact_rowB (dep_of hd 9 (by kernel_rfl) (by kernel_rfl)) (by decide)
                  dsimp only [nth] at h9
                  replace hK := hk_parB hK (by decide) 9 (by rfl)
                  clear hd
                  clear hz1
                  simp only [lay, Act.put, List.setIfInBounds_toArray, List.set_cons_zero, List.set_cons_succ] at hK ⊢
                  go_simp
                  exact hK.out _ _ h9 (grown_refl _ _) (AtRow.refl _ _)
                exact OpsOK.nil
              intro u W hB hp hf
              have p1 := hp 1 (by decide) (by decide) (by decide)
              have p10 := hp 10 (by decide) (by decide) (by decide)
              clear hp
              have h1 := fact_rowB (hf 1 (by decide) (by decide)) (by decide)
              dsimp only [nth] at h1
              have h3 := fact_valB (hf 3 (by decide) (by decide)) (by decide)
              dsimp only [nth] at h3
              have h4 := fact_valB (hf 4 (by decide) (by decide)) (by decide)
              dsimp only [nth] at h4
              have h5 := fact_valB (hf 5 (by decide) (by decide)) (by decide)
              dsimp only [nth] at h5
              have h7 := fact_valB (hf 7 (by decide) (by decide)) (by decide)
              dsimp only [nth] at h7
              have h8 := fact_valB (hf 8 (by decide) (by decide)) (by decide)
              dsimp only [nth] at h8
              have h10 := fact_rowB (hf 10 (by decide) (by decide)) (by decide)
              dsimp only [nth] at h10
              clear hf
              simp only [lay, h3, h4, h5, h7, h8]
              clear h3 h4 h5 h7 h8
              have hJ4 := hJ3.step hB h10 p10
              go_wp2
              go_roundw
              case rel => exact ⟨j + 1, by omega, by go_num, by rw [HAcc.out, HT2.out, HL3.out, bkTail_false HG.out, HTl.out, Int.toNat_natCast]; exact hJ4⟩
              case measure => simp [intOf]; omega
            · go_wp2_with (first | (go_at_call 45; (with_reducible refine (refput_any _ w.heap.size L2 sq _ hown2 hbW2 hsq2 (by omega)).mono ?_); rintro e w3 ⟨v3, rfl, hown3, hgr3, hat3⟩; have hJ3 := hJ2.step hgr3 hown3 hat3.place; have hbx3 := hbx2.grown hgr3 hown2; have hgx := hbx3.at_.2.2.1; rw [HG.out] at hgx; have hbW3 := hJ3.size; have hJ3B := hJ3.2.2.2; have hL3 : (L2 ++ uvar sq).length ≤ L.length + 542 := by simp only [List.length_append]; omega) | (at_builtin; refine wpB_append1 w _ w.heap.size rfl (.tmp 98) (.tmp 99) rfl v3 (L2 ++ uvar sq) rfl hown3 1 1 rfl 1 rfl (by omega) hJ3B hbW3 ?_; intro v4 w4 hown4 hB4 hg4 hat4))
              have hJ4 := hJ3.step hg4 hown4 hat4.place
              rw [← HHead.out] at hJ4
              go_roundw
              case rel => exact ⟨j + 1, by omega, by go_num, by rw [HAcc.out, HT2.out, bkTail_true HG.out]; exact hJ4⟩
              case measure => simp [intOf]; omega
        · obtain rfl : j = k := by omega
          have hlen := HLen.out j (Nat.le_refl _)
          have htl4 := tl_len es j
          have hslen := stK_len es j
          have HX : Hid (encK es = (accK es j ++ tlK es j) ++ fixB ((tlK es j).length / 4) 4) := hid (by have := enc_tl es; rw [HL.out] at this; exact this)
          generalize (stK es j).length = m at *
          have hm60 : m ≤ 60 := by omega
          have htd := tdiv4 htl4
          have htd2 : (tlK es j).length / 4 = m := by omega
          rw [htd2] at HX
          have htln : (tlK es j).length ≤ 300 := by omega
          have HL4 := hid htl4
          obtain ⟨hO, hU, hap, hBw⟩ := hJ
          have hbs := hBw.size
          obtain ⟨At, ct, hve, hrt, hct⟩ := hU.open_
          subst hve
          have hqm := wrap_u64_nat' m (by omega)
          clear htl4 hslen htd2
          generalize tlK es j = T at *
          generalize accK es j = L at *
          go_wp2_with (first
            | (at_builtin; refine wpB_append w _ w.heap.size rfl (.tmp 112) (.tmp 113) rfl u6 L rfl hO At T.length ct T rfl hrt (by omega) hBw hbs ?_; intro v2 w2 hown2 hB2 hg2 hat2; have hbs2 := hB2.size; have hsz : (L ++ T).length + 10 ≤ 140737488355328 := by simp only [List.length_append]; omega)
            | (go_at_call 47; (with_reducible refine (reffixed_any _ w.heap.size (L ++ T) m 4 _ hown2 hbs2 (by omega) (by omega) hsz).mono ?_); rintro r w3 ⟨v3, rfl, hown3, hgr3, hat3⟩))
          go_ret2
          exact ⟨_, rfl, by rw [HX.out]; exact hown3, hB2.grown hgr3 hbs2 (OB.base_ hown2)⟩
end Go.Proofs.Ytkkclkknpjapcaa
/-! ### BkU -/
namespace Go.Proofs.Ytkkclkknpjapcaa
open Go.RowKit
set_option linter.unusedVariables false
set_option linter.unusedSimpArgs false

theorem block_any (A : Option Addr) (n c : Nat) (es : List EntR) (w : World) (h : REnts w A n es) :
    Calls Try.prog 43 #[.slice A n c] w fun r w' => EncC w w' es r := by
  have hl := h.1
  rcases bk_cases es with hc | ⟨h1, h2⟩ | ⟨h1, h2, h3⟩ | hc
  · refine (block_none A n c es w h (by omega)).mono ?_
    rintro r w' ⟨rfl, hb⟩
    exact ⟨13, _, rfl, .inl ⟨hc, rfl⟩, OB.nil _ _, hb⟩
  · refine (block_bad A n c es w h (by omega) 1 (.inl ⟨h2, rfl⟩)).mono ?_
    rintro r w' ⟨rfl, hb⟩
    exact ⟨1, _, rfl, .inr (.inl ⟨h1, h2, rfl⟩), OB.nil _ _, hb⟩
  · refine (block_bad A n c es w h (by omega) 11 (.inr ⟨h2, h3, rfl⟩)).mono ?_
    rintro r w' ⟨rfl, hb⟩
    exact ⟨11, _, rfl, .inr (.inr (.inl ⟨h1, h2, h3, rfl⟩)), OB.nil _ _, hb⟩
  · refine (block_fit A n c es w h hc).mono ?_
    rintro r w' ⟨v, rfl, ho, hb⟩
    exact ⟨0, v, rfl, .inr (.inr (.inr ⟨hc, rfl⟩)), ho, hb⟩
theorem made_bys (k : Nat) : (madeCells #[Value.int .u8 0] k).toList = bys (List.replicate k 0) := by
  apply List.ext_getElem
  · simp [madeCells, bys]
  · intro i h1 h2
    simp [madeCells, bys, Nat.mod_one]
theorem OB.made (w : World) (base k : Nat) (hb : base ≤ w.heap.size) (hk : k ≤ 3000) : OB (w.alloc (.cells (madeCells #[.int .u8 0] k) 5)) base (.slice (some ⟨w.heap.size, 0, none⟩) k k) (List.replicate k 0) := by
  show World.ownsRow _ _ _ _ _ _ _
  rw [List.length_replicate]
  refine ⟨by simp [bys], .inr ⟨w.heap.size, k, _, rfl, hb, heap_alloc_new w _, Nat.le_refl _, by simp only [maxLen]; omega, by simp [madeCells], ?_⟩⟩
  rw [made_bys, List.take_of_length_le (by simp [bys])]
theorem rb_lit2' (w : World) (x y : UInt8) (z1 z2 : Int) (h1 : z1 = x.toNat) (h2 : z2 = y.toNat) (T : TypeId) (fr : Nat × Nat) (g : Nat) (hg : g = w.heap.size) : RB (w.alloc (.cells #[.int .u8 z1, .int .u8 z2] T fr)) (some ⟨g, 0, none⟩) 2 [x, y] := by
  subst h1 h2 hg
  exact RB.lit w [x, y] _ _ _ rfl (by simp)
theorem byteM0 (j : Nat) : (j : Int) % 256 = ((UInt8.ofNat j).toNat : Int) := by rw [UInt8.toNat_ofNat']; omega
theorem byteM0' (j : Nat) : IntKind.u8.wrap (j : Int) = ((UInt8.ofNat j).toNat : Int) := by rw [IntKind.wrap_u8]; exact byteM0 j
theorem byteM1 (j : Nat) : ((j : Int) / 256) % 256 = ((UInt8.ofNat (j / 256)).toNat : Int) := by rw [UInt8.toNat_ofNat']; omega
theorem byteM1' (j : Nat) (h : j < 65536) : (j : Int) / 256 = ((UInt8.ofNat (j / 256)).toNat : Int) := by rw [UInt8.toNat_ofNat']; omega
theorem wpB_mk2 {ops : Array Oper} {rest : List Oper} {o : Oper} {a : Act} {Q : Exit → Act → World → Prop} (wr : World) (z : Nat) (hz : z ≤ 3000) (hgd : o.guard = none) (s x : Operand)
    (ho : o.op = .call { callee := .builtin .append, args := #[s, x], argTypes := #[25, 25] })
    (z1 z2 : Int) (y1 y2 : UInt8) (h1 : z1 = y1.toNat) (h2 : z2 = y2.toNat) (hs : a.eval s = .slice (some ⟨wr.heap.size, 0, none⟩) z z) (g c : Nat) (hg : g = wr.heap.size + 1) (hx : a.eval x = .slice (some ⟨g, 0, none⟩) 2 c)
    (h : ∀ A1 c1 w', OB w' wr.heap.size (.slice A1 (z + 2) c1) (List.replicate z 0 ++ [y1, y2]) → Below wr.heap.size wr w' → wpList Try.prog ops Q rest (a.put o.dst (.slice A1 (z + 2) c1)) w') :
    wpList Try.prog ops Q (o :: rest) a ((wr.alloc (.cells (madeCells #[.int .u8 0] z) 5)).alloc (.cells #[.int .u8 z1, .int .u8 z2] 5)) := by
  have hown := (OB.made wr wr.heap.size z (Nat.le_refl _) hz).alloc (.cells #[.int .u8 z1, .int .u8 z2] 5)
  have hr := rb_lit2' (wr.alloc (.cells (madeCells #[.int .u8 0] z) 5)) y1 y2 z1 z2 h1 h2 5 (0, 0) g (by rw [hg]; simp)
  have hB := below_alloc' (below_alloc' (Below.refl wr.heap.size wr) (.cells (madeCells #[.int .u8 0] z) 5)) (.cells #[.int .u8 z1, .int .u8 z2] 5)
  refine wpB_append wr _ wr.heap.size hgd s x ho _ _ hs hown _ 2 c [y1, y2] hx hr (by simp; omega) hB hB.size ?_
  intro v' w' o' b' _ _
  obtain ⟨A1, c1, rfl, _, _⟩ := o'.openN (z + 2) (by simp)
  exact h A1 c1 w' o' b'
theorem mny_step {wr w1 w' : World} {base z n k : Nat} {x : UInt8} {v v' : Value} {V : List (List Value)} {A1 : Option Addr} {c1 : Nat} {zx : Int} (hv : OV wr base 42 5 v V) (hr : RelV noEnt (PEo wr base) V (mnyS z n x k)) (hb : base ≤ wr.heap.size) (hb1 : Below wr.heap.size wr w1)
    (ho1 : OB w1 wr.heap.size (.slice A1 (z + 2) c1) (List.replicate z 0 ++ [UInt8.ofNat (k / 256), UInt8.ofNat k])) (hx : zx = x.toNat) (hg : (w1.alloc (.cells #[.int .u8 zx] 5)).grownBy w' v.ownBlock)
    (hv' : OV w' base 42 5 v' (V ++ [[.slice A1 (z + 2) c1, .int .i64 ((n : Int) - (k : Int)), .bool false, .int .i64 0, .slice (some ⟨w1.heap.size, 0, none⟩) 1 1]])) : ROw w' base v' (mnyS z n x (k + 1)) := by
  rw [mnyS_succ]
  exact ⟨_, hv', row_step (e := mnyE z n x k) (below_alloc' hb1 _) hv hr hb (ho1.alloc _) (OB.lit1' w1 wr.heap.size hb1.size x zx hx) hg⟩
theorem bk_mod (z : Int) (m : Nat) (hm : 1 ≤ m ∧ m ≤ 3000) (hz : -9223372036854775808 ≤ z ∧ z ≤ 9223372036854775807) : ∃ p : Nat, p < m ∧ (wrap64 (z.tmod m + m)).tmod m = (p : Int) := back_mod z m (by omega) hz
theorem enc_size4 {es : List EntR} (h : FitK es) : (encK es).length ≤ 1000000000 := by
  have hl := accK_len h.2.2.1 es.length (Nat.le_refl _)
  have hs := stK_len es es.length
  have h1 := h.2.1
  unfold encK
  rw [List.length_append, fix4_len, fixK_len, hs]
  have h2 : es.length * 2700 ≤ 1080000 := Nat.mul_le_mul_right 2700 h1
  omega
theorem decode_nil (w : World) : Calls Try.prog 77 #[.slice none 0 0] w fun r w' => ∃ v, ∃ e : Int, e ≠ 0 ∧ r = .returned (.tuple #[v, .int .i64 e]) ∧ Below w.heap.size w w' := by
  refine (decode_any none 0 0 [] w (OB.nil w 0).rb.1 (Nat.le_refl _) (by omega)).mono ?_
  intro r w' hd
  unfold DecC at hd
  rw [decF_short (by decide)] at hd
  obtain ⟨⟨e, he, rfl⟩, hb⟩ := hd
  exact ⟨_, e, he, rfl, hb⟩
end Go.Proofs.Ytkkclkknpjapcaa
/-! ### TbL -/
namespace Go.Proofs.Ytkkclkknpjapcaa
open Go.RowKit
set_option linter.unusedVariables false
set_option linter.unusedSimpArgs false

set_option maxHeartbeats 16000000 in
set_option maxRecDepth 100000 in
theorem tsorted_any (A : Option Addr) (n c : Nat) (es : List EntR) (w : World) (h : REnts w A n es) : Calls Try.prog 14 #[.slice A n c] w fun r w' => SrtdB w w' r := by
  have hmax := h.2.1
  have H := hid h
  clear h
  go_enter Try.func14, Try.ntmps14
  go_wp2
  go_loopw [3, 8] (fun v i wr => ∃ j : Nat, j ≤ n ∧ i = .int .i64 j ∧ SoB w wr v j) (fun v i wr => n - (intOf i).toNat)
  case atStart => exact ⟨0, Nat.zero_le _, rfl, [], [], OV.nil _ _ _ _, RelV.nil, trivial, Nat.le_refl _, Nat.zero_le _, fun e he => (by cases he), Below.refl _ _⟩
  case round =>
    obtain ⟨j, hj, rfl, hS⟩ := hrel
    have HS := hid hS
    obtain ⟨es0, U, hU, hUr, hs1, hs2, hs3, hs4, hBw⟩ := hS
    by_cases hjl : j < n
    · obtain ⟨ae, rfl, hc1⟩ := H.out.at_ hjl
      obtain ⟨Ak, nk, ck, Av, nv, cv, a0, a1, a2, a3, a4, a5, a6, a7, a8⟩ := hc1
      have a0 := below_cell hBw a0
      have a1 := below_cell hBw a1
      have a2 := below_cell hBw a2
      have a3 := below_cell hBw a3
      have a4 := below_cell hBw a4
      have hkl := a5.max
      have hvl := a6.max
      have e5 := a5.1
      have e6 := a6.1
      generalize elt noEnt es j = x at *
      obtain ⟨M, hM⟩ : ∃ M, mayE x = M := ⟨_, rfl⟩
      have hmN : mayN nk (eSeq x) (eGone x) (eTil x) nv = M := by rw [← e5, ← e6]; exact hM
      have HmN := hid hmN
      have HM := hid hM
      have HKV := hid (⟨a5, a6, a7, a8⟩ : _ ∧ _ ∧ _ ∧ _)
      have hba := below_alloc' (Below.refl wr.heap.size wr) (.cells #[.slice Ak nk ck, .int .i64 (eSeq x), .bool (eGone x), .int .i64 (eTil x), .slice Av nv cv] 42)
      have HSn := hid ((HS.out.below hba).more)
      have hB2 := hid (below_then hBw hba)
      obtain ⟨Ao, co, hve, _⟩ := hU.openN es0.length hUr.1
      subst hve
      have HU := hid (hU.below hba)
      have HUr := hid hUr
      have HQ := hid (⟨hs1, hs2, hs3, hs4⟩ : _ ∧ _ ∧ _ ∧ _)
      clear a5 a6 a7 a8 hM hmN e5 e6 hU hUr hs1 hs2 hs3 hs4 HS hBw hba
      by_cases hp : j < 60
      · have hd1 : decide ((j : Int) < 60) = true := decide_eq_true (by omega)
        cases M
        · go_wp2_with (go_at_call 41; (with_reducible refine (refmay_any Ak nk ck (eSeq x) (eGone x) (eTil x) Av nv cv _ hkl hvl).mono ?_); rintro r w4 ⟨rfl, hb4⟩; rw [HmN.out])
          go_roundw
          case rel => exact ⟨j + 1, by omega, by go_num, HSn.out.below hb4⟩
          case measure => simp [intOf]; omega
        · go_wp2_with (first
            | (go_at_call 41; (with_reducible refine (refmay_any Ak nk ck (eSeq x) (eGone x) (eTil x) Av nv cv _ hkl hvl).mono ?_); rintro r w4 ⟨rfl, hb4⟩; rw [HmN.out]; have HB4 := hid hb4; have hbx := heap_alloc_new wr (.cells #[.slice Ak nk ck, .int .i64 (eSeq x), .bool (eGone x), .int .i64 (eTil x), .slice Av nv cv] 42); obtain ⟨y0, y1, y2, y3, y4⟩ := box5 (blk_below hb4 hbx); clear hb4 hbx)
            | (go_at_call 48; (with_reducible refine (refputE_any w w.heap.size Ao es0.length co U es0 Ak nk ck Av nv cv x _ (below_then hB2.out HB4.out) (HU.out.below HB4.out) HUr.out (below_then hB2.out HB4.out).size HKV.out.1 HKV.out.2.1 HKV.out.2.2.1 HKV.out.2.2.2 rfl (by have := HQ.out.2.2.1; omega)).mono ?_); rintro r w5 ⟨v5, V5, rfl, hv5, hr5, hb5⟩))
          have HN : Hid (SoB w w5 v5 (j + 1)) := hid ⟨putE es0 x, V5, hv5, hr5, put_srt HQ.out.1, by have := put_len' es0 x; have := HQ.out.2.1; omega, by have := put_len' es0 x; have := HQ.out.2.1; omega, fun y hy => (put_mem' hy).elim (HQ.out.2.2.2 y) (fun h => by rw [h]; exact HM.out), below_then (below_then hB2.out HB4.out) hb5⟩
          clear hv5 hr5
          go_roundw
          case rel => exact ⟨j + 1, by omega, by go_num, HN.out⟩
          case measure => simp [intOf]; omega
      · have hd1 : decide ((j : Int) < 60) = false := decide_eq_false (by omega)
        go_wp2
        go_roundw
        case rel => exact ⟨j + 1, by omega, by go_num, HSn.out⟩
        case measure => simp [intOf]; omega
    · obtain rfl : j = n := by omega
      obtain ⟨A2, c2, hv2, hc2, hr2⟩ := REnts_of hU (hUr.mono fun x a hx => hx.below hBw) (by omega)
      subst hv2
      have HR := hid hr2
      have HAll : Hid (AllM es0) := hid (fun i hi => hs4 _ (elt_mem hi))
      have HSr := hid hs1
      clear hr2 hU hUr hs1 hs4 HS
      go_wp2
      go_ret
      exact ⟨A2, c2, es0, rfl, hc2, HR.out, HSr.out, HAll.out, hs3, hBw⟩
end Go.Proofs.Ytkkclkknpjapcaa
/-! ### TbU -/
namespace Go.Proofs.Ytkkclkknpjapcaa
open Go.RowKit
set_option linter.unusedVariables false
set_option linter.unusedSimpArgs false

theorem rowinfo : (Try.prog.info? 22).map (fun i => (i.zero, i.size, i.bytes)) = some (some (.slice none 0 0), 1, 24) := by kernel_rfl
set_option maxHeartbeats 8000000 in
set_option maxRecDepth 100000 in
theorem refsummed_any (A : Option Addr) (n c : Nat) (xs : List UInt8) (w : World) (h : RB w A n xs) (hsz : n + 20 ≤ 140737488355328) :
    Calls Try.prog 46 #[.slice A n c] w fun e w' => ∃ v, e = .returned v ∧ OB w' w.heap.size v (sumB xs) ∧ Below w.heap.size w w' := by
  have hlt := sumOf_lt xs
  have hl := h.1
  obtain ⟨S, hS⟩ : ∃ S, sumOf xs = S := ⟨_, rfl⟩
  have HS : Hid (crcMask (crcMore 0 xs) = S) := hid hS
  have hSB : sumB xs = xs ++ fixB S 4 := by rw [sumB, hS]
  rw [hS] at hlt
  rw [hSB]
  have hw := wrap_u64_nat S (by omega)
  have H := hid h
  have HL := hid hl
  clear hS hSB h hl
  go_enter Try.func46, Try.ntmps46
  go_wp2_with (first
    | (at_builtin; refine wpB_append w _ w.heap.size rfl (.const (.slice none 0 0)) (.tmp 3) rfl (.slice none 0 0) [] rfl (OB.nil _ _) A n c xs rfl H.out (by have := HL.out; simp; omega) (Below.refl _ _) (Nat.le_refl _) ?_; intro v1 w1 hown1 hB1 hg1 hat1; rw [List.nil_append] at hown1; have HO1 := hid hown1; have HB1 := hid hB1; clear hown1 hB1 hg1 hat1)
    | (go_at_call 74; (with_reducible refine (refsum_any A n c xs _ (H.out.below HB1.out)).mono ?_); rintro e w2 ⟨rfl, rfl⟩)
    | (go_at_call 73; (with_reducible refine (refmask_any _ (crcMore_lt _ _) _).mono ?_); rintro e w2 ⟨rfl, rfl⟩; rw [HS.out])
    | (go_at_call 47; (with_reducible refine (reffixed_any v1 w.heap.size xs S 4 _ HO1.out HB1.out.size (by omega) (by omega) (by have := HL.out; omega)).mono ?_); rintro e w3 ⟨v3, rfl, ho3, hg3, ha3⟩; have HB3 := hid (HB1.out.grown hg3 HB1.out.size (OB.base_ HO1.out))))
  go_ret
  exact ⟨_, rfl, ho3, HB3.out⟩
end Go.Proofs.Ytkkclkknpjapcaa
/-! ### TbU2 -/
namespace Go.Proofs.Ytkkclkknpjapcaa
open Go.RowKit
set_option linter.unusedVariables false
set_option linter.unusedSimpArgs false

/-- Slices of entries, as cells. -/
def PSl (w : World) (x : List Value) (es : List EntR) : Prop := ∃ A c, x = [.slice A es.length c] ∧ es.length ≤ c ∧ REnts w A es.length es
def CutC (w w' : World) (es : List EntR) (r : Ending) : Prop := ∃ v V, r = .returned v ∧ OV w' w.heap.size 22 1 v V ∧ RelV [] (PSl w) V (chunkF es.length es) ∧ Below w.heap.size w w'
theorem RelV.len_ {V : List (List Value)} {w : World} {R : List (List EntR)} (h : RelV [] (PSl w) V R) : V.length = R.length := h.1
set_option maxHeartbeats 16000000 in
set_option maxRecDepth 100000 in
theorem refcut_any (A : Option Addr) (n c : Nat) (es : List EntR) (w : World) (h : REnts w A n es) (hc : n ≤ c) (hn : n ≤ 4000) (hlen : AllM es) :
    Calls Try.prog 42 #[.slice A n c] w fun r w' => CutC w w' es r := by
  have hl := h.1
  have H := hid h
  have HL := hid hl
  have HM : Hid (∀ j, j < n → mayE (elt noEnt es j) = true) := hid (fun j hj => hlen j (by omega))
  have H0 := hid (CutI.start es)
  clear h hl hlen
  go_enter Try.func42, Try.ntmps42
  go_wp2
  go_loopw [3, 4, 5, 10] (fun v fr sm i wr => ∃ (k W s f : Nat) (R : List (List EntR)) (V : List (List Value)), k ≤ n ∧ i = .int .i64 k ∧ fr = .int .i64 s ∧ sm = .int .i64 W ∧ CutI es k W s f R ∧ OV wr w.heap.size 22 1 v V ∧ RelV [] (PSl w) V R ∧ Below w.heap.size w wr) (fun _ _ _ i wr => n - (intOf i).toNat)
  case atStart => exact ⟨0, 0, 0, es.length, [], [], Nat.zero_le _, rfl, rfl, rfl, H0.out, OV.nil _ _ _ _, RelV.nil, Below.refl _ _⟩
  case round =>
    clear H0
    obtain ⟨k, W, s, f, R, V, hk, rfl, rfl, rfl, hI, hv, hr, hB⟩ := hrel
    have hW : W < 256 := hI.2.2.2.2.2.1
    have hsk : s ≤ k := hI.1
    have hVl : V.length ≤ 4000 := by have h1 := hr.len_; have h2 := hI.2.2.2.2.2.2; omega
    have HI := hid hI
    have HV := hid hv
    have HRl := hid hr
    clear hI hv hr
    by_cases hlt : k < n
    · obtain ⟨ad, rfl, hen⟩ := H.out.at_ hlt
      have hs1 : s ≤ k + 1 := Nat.le_succ_of_le hsk
      have hs2 : k + 1 ≤ n := hlt
      have hs3 : (k : Int) + 1 = ((k + 1 : Nat) : Int) := rfl
      obtain ⟨A2, c2, hcut, hre, hc2⟩ := cutEn (A := some ad) hc (lo := s) (hi := k + 1) hs1 hs2 (s : Int) ((k : Int) + 1) rfl hs3
      have hmm := mayE_cases (HM.out k hlt)
      have hwg : wgt (elt noEnt es k) = (eKey (elt noEnt es k)).length + (eVal (elt noEnt es k)).length + 16 := rfl
      have HCl : Hid (256 ≤ W + wgt (elt noEnt es k) ∨ k + 1 = n → ∃ f', CutI es (k + 1) 0 (k + 1) f' (R ++ [(es.drop s).take (k + 1 - s)])) := hid (fun h => HI.out.close (by rw [HL.out]; exact hlt) (by rw [HL.out]; exact h))
      have HGo : Hid (k + 1 < n → W + wgt (elt noEnt es k) < 256 → CutI es (k + 1) (W + wgt (elt noEnt es k)) s f R) := hid (fun h h' => HI.out.go (by rw [HL.out]; exact h) h')
      generalize elt noEnt es k = x at *
      obtain ⟨Ak, nk, ck, Av, nv, cv, a0, a1, a2, a3, a4, a5, a6, a7, a8⟩ := hen.below hB
      have e5 := a5.1
      have e6 := a6.1
      rw [e5, e6] at hwg
      rw [e5, e6] at hmm
      rw [hwg] at HCl HGo
      obtain ⟨m1, m2, m3, m4, m5⟩ := hmm
      have HE5 := hid e5
      have HE6 := hid e6
      have HRe := hid (hre _ _ H.out)
      have hclen : ((es.drop s).take (k + 1 - s)).length = k + 1 - s := HRe.out.1
      have HCn := hid hclen
      clear hs3 hwg hen a5 a6 e5 e6 m4 m5 hre hclen
      by_cases hcl : 256 ≤ W + (nk + nv + 16) ∨ k + 1 = n
      · obtain ⟨f', hI'⟩ := HCl.out hcl
        have HI' := hid hI'
        clear hI'
        by_cases hge : 256 ≤ W + (nk + nv + 16)
        · have hd1 : decide ((256 : Int) ≤ (W : Int) + ((nk : Int) + (nv : Int) + 16)) = true := decide_eq_true (by omega)
          clear hcl
          go_wp2_with (first
            | (go_at_call 72; (with_reducible refine (refweight_any Ak nk ck (eSeq x) (eGone x) (eTil x) Av nv cv x _ HE5.out HE6.out (by omega) (by omega)).mono ?_); rintro r w1 ⟨rfl, hb1⟩; have HB1 := hid (below_then (below_alloc' hB _) hb1); have HV1 := hid ((HV.out.below (below_alloc' (Below.refl _ _) _)).below hb1); clear hb1)
            | (at_builtin; go_loud (refine wpV_append1 70 22 _ 1 24 Try.underlying70 rowinfo rfl (by omega) w w1 w.heap.size rfl (.tmp 28) (.tmp 34) rfl u3 V rfl HV1.out #[.slice A2 (k + 1 - s) c2] rfl (by intro u hu; simp only [List.mem_cons, List.not_mem_nil, or_false] at hu; subst hu; rfl) 1 _ (by first | rfl | simp) rfl (by simp only [maxLen]; omega) (by omega) HB1.out HB1.out.size ?_); intro v' w' hown' hB' hg' _))
          have HN := hid (HRl.out.snoc (x := [.slice A2 (k + 1 - s) c2]) (a := (es.drop s).take (k + 1 - s)) ⟨A2, c2, by rw [HCn.out], by rw [HCn.out]; exact hc2, by rw [HCn.out]; exact HRe.out⟩)
          go_roundw
          case rel => exact ⟨k + 1, 0, k + 1, f', _, _, by omega, by go_num, by go_num, by go_num, HI'.out, hown', HN.out, hB'⟩
          case measure => simp [intOf]; omega
        · have hkn : k + 1 = n := by rcases hcl with h | h; exact absurd h hge; exact h
          have hd1 : decide ((256 : Int) ≤ (W : Int) + ((nk : Int) + (nv : Int) + 16)) = false := decide_eq_false (by omega)
          have hd2 : ((k : Int) + 1 == (n : Int)) = true := by rw [beq_iff_eq]; omega
          clear hcl hkn
          go_wp2_with (first
            | (go_at_call 72; (with_reducible refine (refweight_any Ak nk ck (eSeq x) (eGone x) (eTil x) Av nv cv x _ HE5.out HE6.out (by omega) (by omega)).mono ?_); rintro r w1 ⟨rfl, hb1⟩; have HB1 := hid (below_then (below_alloc' hB _) hb1); have HV1 := hid ((HV.out.below (below_alloc' (Below.refl _ _) _)).below hb1); clear hb1)
            | (at_builtin; go_loud (refine wpV_append1 70 22 _ 1 24 Try.underlying70 rowinfo rfl (by omega) w w1 w.heap.size rfl (.tmp 28) (.tmp 34) rfl u3 V rfl HV1.out #[.slice A2 (k + 1 - s) c2] rfl (by intro u hu; simp only [List.mem_cons, List.not_mem_nil, or_false] at hu; subst hu; rfl) 1 _ (by first | rfl | simp) rfl (by simp only [maxLen]; omega) (by omega) HB1.out HB1.out.size ?_); intro v' w' hown' hB' hg' _))
          have HN := hid (HRl.out.snoc (x := [.slice A2 (k + 1 - s) c2]) (a := (es.drop s).take (k + 1 - s)) ⟨A2, c2, by rw [HCn.out], by rw [HCn.out]; exact hc2, by rw [HCn.out]; exact HRe.out⟩)
          go_roundw
          case rel => exact ⟨k + 1, 0, k + 1, f', _, _, by omega, by go_num, by go_num, by go_num, HI'.out, hown', HN.out, hB'⟩
          case measure => simp [intOf]; omega
      · have hge : ¬ 256 ≤ W + (nk + nv + 16) := fun h => hcl (.inl h)
        have hkn : ¬ k + 1 = n := fun h => hcl (.inr h)
        have HI' := hid (HGo.out (by omega) (by omega))
        have hd1 : decide ((256 : Int) ≤ (W : Int) + ((nk : Int) + (nv : Int) + 16)) = false := decide_eq_false (by omega)
        have hd2 : ((k : Int) + 1 == (n : Int)) = false := by rw [beq_eq_false_iff_ne]; omega
        clear hcl
        go_wp2_with (go_at_call 72; (with_reducible refine (refweight_any Ak nk ck (eSeq x) (eGone x) (eTil x) Av nv cv x _ HE5.out HE6.out (by omega) (by omega)).mono ?_); rintro r w1 ⟨rfl, hb1⟩; have HB1 := hid (below_then (below_alloc' hB _) hb1); have HV1 := hid ((HV.out.below (below_alloc' (Below.refl _ _) _)).below hb1); clear hb1)
        go_roundw
        case rel => exact ⟨k + 1, W + (nk + nv + 16), s, f, R, V, by omega, by go_num, rfl, by go_num, HI'.out, HV1.out, HRl.out, HB1.out⟩
        case measure => simp [intOf]; omega
    · obtain rfl : k = n := by omega
      have HD : Hid (R = chunkF es.length es) := hid (by have := HI.out; rw [← HL.out] at this; exact this.done)
      go_wp2
      go_ret
      exact ⟨_, V, rfl, HV.out, by rw [← HD.out]; exact HRl.out, hB⟩
end Go.Proofs.Ytkkclkknpjapcaa
/-! ### TbU3 -/
namespace Go.Proofs.Ytkkclkknpjapcaa
open Go.RowKit
set_option linter.unusedVariables false
set_option linter.unusedSimpArgs false

set_option maxHeartbeats 8000000 in
theorem table_none (A : Option Addr) (n c : Nat) (es : List EntR) (w : World) (h : REnts w A n es) (hn : n = 0 ∨ 4000 < n) :
    Calls Try.prog 13 #[.slice A n c] w fun r w' => EncBad w w' 13 r := by
  clear h
  rcases hn with rfl | hn
  · go_enter Try.func13, Try.ntmps13
    go_wp2
    go_ret2
    exact ⟨rfl, Below.refl _ _⟩
  · have hn0 : ((n : Int) == 0) = false := by rw [beq_eq_false_iff_ne]; omega
    have hn4 : decide ((4000 : Int) < (n : Int)) = true := decide_eq_true (by omega)
    go_enter Try.func13, Try.ntmps13
    go_wp2
    go_ret2
    exact ⟨rfl, Below.refl _ _⟩
set_option maxHeartbeats 16000000 in
set_option maxRecDepth 100000 in
theorem table_bad (A : Option Addr) (n c : Nat) (es : List EntR) (w : World) (h : REnts w A n es) (hn : 1 ≤ n ∧ n ≤ 4000) (E : Nat) (hE : (¬ AllM es ∧ E = 1) ∨ (AllM es ∧ ¬ Srt es ∧ E = 11)) :
    Calls Try.prog 13 #[.slice A n c] w fun r w' => EncBad w w' E r := by
  have hl := h.1
  have hmax := h.2.1
  have hn0 : ((n : Int) == 0) = false := by rw [beq_eq_false_iff_ne]; omega
  have hn4 : decide ((4000 : Int) < (n : Int)) = false := decide_eq_false (by omega)
  have H := hid h
  have HE := hid hE
  have HAll : Hid ((∀ j, j < n → mayE (elt noEnt es j) = true) → AllM es) := hid (fun hh j hj => hh j (by omega))
  have HNot : Hid (∀ k, k < n → mayE (elt noEnt es k) = false → ¬ AllM es) := hid (fun k hk hf ha => by rw [ha k (by omega)] at hf; cases hf)
  clear h hl hE hn
  go_enter Try.func13, Try.ntmps13
  go_wp2
  go_loopw [30] (fun i wr => ∃ k : Nat, k ≤ n ∧ i = .int .i64 k ∧ (∀ j, j < k → mayE (elt noEnt es j) = true) ∧ Below w.heap.size w wr) (fun i wr => n - (intOf i).toNat)
  case atStart => exact ⟨0, Nat.zero_le _, rfl, fun j hj => absurd hj (by omega), Below.refl _ _⟩
  case round =>
    obtain ⟨k, hk, rfl, hall, hB⟩ := hrel
    have HA := hid hall
    clear hall
    by_cases hlt : k < n
    · obtain ⟨ad, rfl, hen⟩ := H.out.at_ hlt
      obtain ⟨Ak, nk, ck, Av, nv, cv, a0, a1, a2, a3, a4, a5, a6, a7, a8⟩ := hen.below hB
      have hkl := a5.max
      have hvl := a6.max
      have e5 := a5.1
      have e6 := a6.1
      have HNk := hid (HNot.out k hlt)
      have HA2 : Hid (mayE (elt noEnt es k) = true → ∀ j, j < k + 1 → mayE (elt noEnt es j) = true) := by
        intro h j hj
        rcases Nat.lt_succ_iff_lt_or_eq.1 hj with h1 | h1
        · exact HA.out j h1
        · rw [h1]; exact h
      obtain ⟨M, hM⟩ : ∃ M, mayE (elt noEnt es k) = M := ⟨_, rfl⟩
      rw [hM] at HNk HA2
      generalize elt noEnt es k = x at *
      have hmN : mayN nk (eSeq x) (eGone x) (eTil x) nv = M := by rw [← e5, ← e6]; exact hM
      have HmN := hid hmN
      clear hen a5 a6 hM hmN e5 e6
      cases M
      · have HE1 : Hid (E = 1) := hid (HE.out.elim (fun h => h.2) (fun h => absurd h.1 (HNk.out rfl)))
        go_wp2_with (go_at_call 41; (with_reducible refine (refmay_any Ak nk ck (eSeq x) (eGone x) (eTil x) Av nv cv _ hkl hvl).mono ?_); rintro r w1 ⟨rfl, hb1⟩; rw [HmN.out])
        go_ret2
        rw [HE1.out]
        exact ⟨rfl, below_then (below_alloc' hB _) hb1⟩
      · go_wp2_with (go_at_call 41; (with_reducible refine (refmay_any Ak nk ck (eSeq x) (eGone x) (eTil x) Av nv cv _ hkl hvl).mono ?_); rintro r w1 ⟨rfl, hb1⟩; rw [HmN.out])
        go_roundw
        case rel => exact ⟨k + 1, by omega, by go_num, HA2.out (by first | rfl | trivial), below_then (below_alloc' hB _) hb1⟩
        case measure => simp [intOf]; omega
    · obtain rfl : k = n := by omega
      obtain ⟨hs, hE11⟩ : ¬ Srt es ∧ E = 11 := by
        rcases HE.out with h | h
        · exact absurd (HAll.out HA.out) h.1
        · exact h.2
      have HSr := hid (srtB_false hs)
      have HE1 := hid hE11
      clear hs hE11
      go_wp2_with (go_at_call 31; (with_reducible refine (refordered_any A k c es _ (H.out.below hB)).mono ?_); rintro r w1 ⟨rfl, hb1⟩; rw [HSr.out]; have hB1 := below_then hB hb1)
      go_ret2
      rw [HE1.out]
      exact ⟨rfl, hB1⟩
end Go.Proofs.Ytkkclkknpjapcaa
/-! ### TbU4 -/
namespace Go.Proofs.Ytkkclkknpjapcaa
open Go.RowKit
set_option linter.unusedVariables false
set_option linter.unusedSimpArgs false

theorem cut_at {w w2 : World} {base : Nat} {v : Value} {V : List (List Value)} {R : List (List EntR)} (h : OV w2 base 22 1 v V) (hr : RelV [] (PSl w) V R) :
    ∃ Ac cc, v = .slice Ac R.length cc ∧ ∀ i, i < R.length → ∃ ad Ai ci, Ac = some ad ∧ w2.cell? (ad.add i) = some (.slice Ai (elt [] R i).length ci) ∧ (elt [] R i).length ≤ ci ∧ REnts w Ai (elt [] R i).length (elt [] R i) := by
  have hl : V.length = R.length := hr.1
  rcases Nat.eq_zero_or_pos V.length with h0 | h0
  · obtain ⟨A, c, rfl, hc⟩ := h.open_
    exact ⟨A, c, by rw [hl], fun i hi => absurd hi (by omega)⟩
  · obtain ⟨g, c, rfl, _, _, hc⟩ := h.form h0
    refine ⟨_, c, by rw [hl], fun i hi => ?_⟩
    obtain ⟨A', c', hx, h1, h2⟩ := hr.2 i (by omega)
    have hce := h.cell (j := i) (i := 0) (by omega) (by omega)
    rw [hx] at hce
    refine ⟨_, A', c', rfl, ?_, h1, h2⟩
    rw [add_plain, Nat.zero_add]
    simpa using hce
theorem RfJ.start {w W : World} {v : Value} {L : List UInt8} (h : OB W w.heap.size v L) (hb : Below w.heap.size w W) : RfJ w W v L (.slice none 0 0) [] := ⟨h, OB.nil _ _, (by intro q _ e; cases e), hb⟩
theorem RfJ.o1 {w W : World} {v u : Value} {L T : List UInt8} (h : RfJ w W v L u T) : OB W w.heap.size v L := h.1
theorem RfJ.o2 {w W : World} {v u : Value} {L T : List UInt8} (h : RfJ w W v L u T) : OB W w.heap.size u T := h.2.1
theorem RfJ.bel {w W : World} {v u : Value} {L T : List UInt8} (h : RfJ w W v L u T) : Below w.heap.size w W := h.2.2.2
/-- What Table's outer loop holds. -/
def TbJ (es : List EntR) (w w2 wr : World) (ov iv kv : Value) (i : Nat) : Prop := ∃ (s f : Nat) (out idx : List UInt8) (V : List Value), TabI es i s f out idx ∧ RfJ w2 wr ov out iv idx ∧ OS wr w2.heap.size kv V ∧ RBW w V (keysU es s)
set_option maxHeartbeats 64000000 in
set_option maxRecDepth 200000 in
theorem table_fit (A : Option Addr) (n c : Nat) (es : List EntR) (w : World) (h : REnts w A n es) (hc : n ≤ c) (hn : 1 ≤ n ∧ n ≤ 4000) (hall : AllM es) (hsrt : Srt es) :
    Calls Try.prog 13 #[.slice A n c] w fun r w' => BdF w w' es r := by
  have hl := h.1
  have hmax := h.2.1
  have hn0 : ((n : Int) == 0) = false := by rw [beq_eq_false_iff_ne]; omega
  have hn4 : decide ((4000 : Int) < (n : Int)) = false := decide_eq_false (by omega)
  have HMay : Hid (∀ j, j < n → mayE (elt noEnt es j) = true) := hid (fun j hj => hall j (by omega))
  have HSr := hid (srtB_true hsrt)
  have HAll := hid hall
  have HSrt := hid hsrt
  have H := hid h
  have HL := hid hl
  have hchl : (chunkF es.length es).length ≤ n := by have := chunkF_len es.length es; omega
  have HBl : Hid (∀ out idx, blkF es.length es [] [] = (out, idx) → ∀ FIL, filterB (keysU es n) = FIL → tabB es = (((out ++ sumB idx) ++ sumB FIL) ++ sumB (footU [out.length, idx.length, out.length + idx.length + 4, FIL.length, n] 5)) ++ magicB) := hid (fun out idx h FIL hF => by
    have e : es.length = n := HL.out
    unfold tabB blocksB indexB filtB
    rw [h, e, hF, footU_five, List.length_append, sumB_len, ← Nat.add_assoc])
  have HI0 := hid (TabI.start es)
  clear h hall hsrt hl
  go_enter Try.func13, Try.ntmps13
  go_wp2
  go_loopw [30] (fun i wr => ∃ k : Nat, k ≤ n ∧ i = .int .i64 k ∧ Below w.heap.size w wr) (fun i wr => n - (intOf i).toNat)
  case atStart => exact ⟨0, Nat.zero_le _, rfl, Below.refl _ _⟩
  case round =>
    obtain ⟨k, hk, rfl, hB⟩ := hrel
    by_cases hlt : k < n
    · obtain ⟨ad, rfl, hen⟩ := H.out.at_ hlt
      obtain ⟨Ak, nk, ck, Av, nv, cv, a0, a1, a2, a3, a4, a5, a6, a7, a8⟩ := hen.below hB
      have hm := HMay.out k hlt
      have hkl := a5.max
      have hvl := a6.max
      have e5 := a5.1
      have e6 := a6.1
      generalize elt noEnt es k = x at *
      have hmN : mayN nk (eSeq x) (eGone x) (eTil x) nv = true := by rw [← e5, ← e6]; exact hm
      have HmN := hid hmN
      clear hen a5 a6 hm hmN e5 e6
      go_wp2_with (go_at_call 41; (with_reducible refine (refmay_any Ak nk ck (eSeq x) (eGone x) (eTil x) Av nv cv _ hkl hvl).mono ?_); rintro r w1 ⟨rfl, hb1⟩; rw [HmN.out])
      go_roundw
      case rel => exact ⟨k + 1, by omega, by go_num, below_then (below_alloc' hB _) hb1⟩
      case measure => simp [intOf]; omega
    · obtain rfl : k = n := by omega
      go_wp2_with (first
        | (go_at_call 31; (with_reducible refine (refordered_any A k c es _ (H.out.below hB)).mono ?_); rintro r w1 ⟨rfl, hb1⟩; rw [HSr.out]; have HB1 := hid (below_then hB hb1))
        | (go_at_call 42; (with_reducible refine (refcut_any A k c es _ (H.out.below HB1.out) hc (by omega) HAll.out).mono ?_); rintro r w2 ⟨vc, Vc, rfl, hvc, hrv, hb2⟩; obtain ⟨Ac, cc, rfl, hat⟩ := cut_at hvc hrv; have HAt := hid hat; clear hat; have HB2 := hid (below_then HB1.out hb2); have HC2 := hid hb2; clear hvc hrv hb2))
      have HAt2 := HAt
      obtain ⟨M, hM⟩ : ∃ M, (chunkF es.length es).length = M := ⟨_, rfl⟩
      rw [hM] at hchl HAt2
      have HM := hid hM
      rw [hM]
      clear HAt hM hB hlt hk
      have HJ0 : Hid (TbJ es w1 w2 w2 (.slice none 0 0) (.slice none 0 0) (.slice none 0 0) 0) := hid ⟨0, es.length, [], [], [], HI0.out, ⟨OB.nil _ _, OB.nil _ _, (by intro q hq; cases hq), Below.refl _ _⟩, OS.nil _ _, RBW.nil _⟩
      clear HI0
      go_loopw [6, 7, 8, 44] (fun ov iv kv i wr => ∃ m : Nat, m ≤ M ∧ i = .int .i64 m ∧ TbJ es w1 w2 wr ov iv kv m) (fun _ _ _ i wr => M - (intOf i).toNat)
      case atStart => exact ⟨0, Nat.zero_le _, rfl, HJ0.out⟩
      case round =>
        clear HJ0
        obtain ⟨m, hm, rfl, hJ⟩ := hrel
        unfold TbJ at hJ
        obtain ⟨s, f, out, idx, V, hI, hJ1, hos, hrw⟩ := hJ
        obtain ⟨Ao, co, hve, _, _⟩ := hJ1.1.open_
        subst hve
        have hol : out.length ≤ 2720 * 4000 := by have := hI.2.2.2.2.1; have := HL.out; omega
        have hil : idx.length ≤ 560 * 4000 := by have := hI.2.2.2.2.2; have := HL.out; omega
        have hKl : V.length ≤ 4000 := by have h1 := hrw.1; have h2 := keysU_len es s; have h3 := hI.1; have := HL.out; omega
        have HI := hid hI
        have HJ1 := hid hJ1
        have HOS := hid hos
        have HRW := hid hrw
        clear hI hJ1 hos hrw
        by_cases hlm : m < M
        · obtain ⟨N, hN1, hN2, hsN, hck, hfit, hcl, hce, f', hnx⟩ := HI.out.at_ (by rw [HM.out]; exact hlm) HAll.out HSrt.out
          obtain ⟨ad, Ai, ci, rfl, hcell, hle, hre⟩ := HAt2.out m hlm
          rw [hck, hcl] at hcell hle hre
          obtain ⟨CH, hCH⟩ : ∃ C, (es.drop s).take N = C := ⟨_, rfl⟩
          rw [hCH] at hfit hcl hce hre hnx
          obtain ⟨q, hq⟩ : ∃ q, N - 1 = q := ⟨_, rfl⟩
          have hNm : (N : Int) - 1 = (q : Int) := by omega
          have hqN : q < N := by omega
          rw [hq] at hnx
          obtain ⟨ad3, rfl, hen⟩ := hre.at_ hqN
          have hml := mayE_cases (HMay.out (s + q) (by have := HL.out; omega))
          have hm1 := hml.1
          have hm2 := hml.2.1
          rw [hce q hqN] at hen
          generalize elt noEnt es (s + q) = x at *
          obtain ⟨Ak, nk, ck, Av, nv, cv, a0, a1, a2, a3, a4, a5, a6, a7, a8⟩ := hen
          have hnk := a5.1
          rw [hnk] at hm1 hm2
          obtain ⟨BK, hBK⟩ : ∃ B, encK CH = B := ⟨_, rfl⟩
          have hbl : BK.length ≤ N * 2710 := by rw [← hBK]; have := enc_len hfit.2.2.1 hfit.1; rwa [hcl] at this
          have HNx := hid (hnx BK hBK hbl)
          have HBK := hid hBK
          have HFit := hid hfit
          have HCe := hid hce
          have HRe := hid hre
          have HKey := hid (a5.below HC2.out)
          have hcell := below_cell HJ1.out.bel hcell
          have a0 := below_cell HJ1.out.bel (below_cell HC2.out a0)
          have hu1 := uvar_len nk
          have hu2 := uvar_len out.length
          have hu3 := uvar_len BK.length
          have hw1 := wrap_u64_nat out.length (by omega)
          have hw2 := wrap_u64_nat BK.length (by omega)
          have HNk := hid hnk
          have HCw := hid (below_then HC2.out HJ1.out.bel)
          clear hnx hBK hfit hce hre hck hcl hCH hq hml a1 a2 a3 a4 a5 a6 hnk
          go_upto_region 20 with (first
            | (go_at_call 43; (with_reducible refine (block_fit (some ad3) N ci CH _ (HRe.out.below HCw.out) HFit.out).mono ?_); rintro r w3 ⟨v3, rfl, ho3, hb3⟩; rw [HBK.out] at ho3; obtain ⟨Ab, cb, rfl, hrb3, hcb3⟩ := ho3.open_; have HJ3 := hid (HJ1.out.below hb3); have HK3 := hid (HJ1.out.fresh hb3 ho3); have HO3 := hid (HOS.out.below hb3); have a9 := below_cell hb3 a0; clear ho3 hrb3 hb3)
            | (go_at_call 44; (with_reducible refine (refputbytes_any u7 w2.heap.size idx Ak nk ck (eKey x) _ HJ3.out.o2 HJ3.out.size (HKey.out.below HJ3.out.bel) (own_key HJ3.out.o2 HKey.out) (by omega)).mono ?_); rintro e w4 ⟨v4, rfl, ho4, hg4, ha4⟩; obtain ⟨I1, hI1⟩ : ∃ I, idx ++ uvar (eKey x).length ++ eKey x = I := ⟨_, rfl⟩; rw [hI1] at ho4; have hl1 : I1.length ≤ idx.length + 522 := (by rw [← hI1, List.length_append, List.length_append, HNk.out]; omega); have HJ4 := hid (HJ3.out.stepU hg4 ho4 ha4.place); have HK4 := hid (HK3.out.stepU hg4 ho4 ha4.place); have HO4 := hid (HO3.out.other hg4 (OS.apart HO3.out HJ3.out.o2)); have HI1 := hid hI1; clear ho4 hg4 ha4 hI1)
            | (go_at_call 45; (with_reducible refine (refput_any v4 w2.heap.size I1 out.length _ HJ4.out.o2 HJ4.out.size (by omega) (by omega)).mono ?_); rintro e w5 ⟨v5, rfl, ho5, hg5, ha5⟩; obtain ⟨I2, hI2⟩ : ∃ I, I1 ++ uvar out.length = I := ⟨_, rfl⟩; rw [hI2] at ho5; have hl2 : I2.length ≤ idx.length + 532 := (by rw [← hI2, List.length_append]; omega); have HJ5 := hid (HJ4.out.stepU hg5 ho5 ha5.place); have HK5 := hid (HK4.out.stepU hg5 ho5 ha5.place); have HO5 := hid (HO4.out.other hg5 (OS.apart HO4.out HJ4.out.o2)); have HI2 := hid hI2; clear ho5 hg5 ha5 hI2)
            | (go_at_call 45; (with_reducible refine (refput_any v5 w2.heap.size I2 BK.length _ HJ5.out.o2 HJ5.out.size (by omega) (by omega)).mono ?_); rintro e w6 ⟨v6, rfl, ho6, hg6, ha6⟩; obtain ⟨I3, hI3⟩ : ∃ I, I2 ++ uvar BK.length = I := ⟨_, rfl⟩; rw [hI3] at ho6; have hl3 : I3.length ≤ idx.length + 542 := (by rw [← hI3, List.length_append]; omega); have HJ6 := hid (HJ5.out.stepU hg6 ho6 ha6.place); have HK6 := hid (HK5.out.stepU hg6 ho6 ha6.place); have HO6 := hid (HO5.out.other hg6 (OS.apart HO5.out HJ5.out.o2)); have HI3 := hid hI3; clear ho6 hg6 ha6 hI3)
            | (go_at_call 46; (with_reducible refine (refsummed_any Ab BK.length cb BK _ HK6.out.o1.rb.1 (by omega)).mono ?_); rintro e w7 ⟨v7, rfl, ho7, hb7⟩; obtain ⟨SB, hSB⟩ : ∃ S, sumB BK = S := ⟨_, rfl⟩; rw [hSB] at ho7; have hl7 : Hid (SB.length = BK.length + 4) := hid (by rw [← hSB, sumB_len]); obtain ⟨A7, d7, rfl, hr7, hc7⟩ := ho7.open_; have HJ7 := hid (HJ6.out.below hb7); have HO7 := hid (HO6.out.below hb7); have HSB := hid hSB; have HR7 := hid hr7; clear ho7 hr7 hb7 hSB)
            | (at_builtin; refine wpB_append w2 w7 w2.heap.size rfl (.tmp 71) (.tmp 73) rfl (.slice Ao out.length co) out rfl HJ7.out.o1 A7 SB.length d7 SB rfl HR7.out (by have := hl7.out; omega) HJ7.out.bel HJ7.out.size ?_; intro v8 w8 hown8 hB8 hg8 hat8; obtain ⟨O2, hO2⟩ : ∃ O, out ++ SB = O := ⟨_, rfl⟩; rw [hO2] at hown8; have hl8 : Hid (O2.length = out.length + SB.length) := hid (app_len hO2); have HJ8 := hid (HJ7.out.step hg8 hown8 hat8.place); have HO8 := hid (HO7.out.other hg8 (OS.apart HO7.out HJ7.out.o1)); have HO2 := hid hO2; clear hown8 hB8 hg8 hat8 hO2))
          have HN2 : Hid (TabI es (m + 1) (s + N) f' O2 I3) := hid (by rw [← HO2.out, ← HSB.out]; exact HNx.out I3 (by rw [← HI3.out, ← HI2.out, ← HI1.out]) hl3)
          have HHJ8 := HJ8
          clear HJ3 HK3 HO3 HJ4 HK4 HO4 HJ5 HK5 HO5 HJ6 HK6 HO6 HJ7 HO7 HI1 HI2 HI3 HSB HO2 HR7 HNx a9 hcell hu1 hu2 hu3 hw1 hw2 HKey HNk HBK HFit HCw HOS HJ1 hl7 hl8
          go_wp2
          go_loopw [8, 77] (fun kv j wr => ∃ (p : Nat) (V : List Value), p ≤ N ∧ j = .int .i64 p ∧ OS wr w2.heap.size kv V ∧ RBW w1 V (keysU es (s + p)) ∧ RfJ w2 wr v8 O2 v6 I3) (fun _ j wr => N - (intOf j).toNat)
          case atStart => exact ⟨0, V, Nat.zero_le _, rfl, HO8.out, HRW.out, HJ8.out⟩
          case round =>
            clear HJ8 HO8 HRW HHJ8 hKl
            obtain ⟨p, V, hp, rfl, hos, hrw, hJ⟩ := hrel
            have hsn : s ≤ k := by have := HL.out; omega
            have hVl : V.length ≤ 4000 := by have h1 := hrw.1; have h2 := keysU_len es (s + p); have := HL.out; omega
            have HJr := hid hJ
            have HBr := hid (below_then HC2.out hJ.bel)
            clear hJ
            by_cases hpN : p < N
            · obtain ⟨ad4, hae, hen⟩ := HRe.out.at_ hpN
              obtain rfl := Option.some.inj hae
              rw [HCe.out p hpN] at hen
              obtain ⟨z, hz⟩ : ∃ z, s + p = z := ⟨_, rfl⟩
              rw [hz] at hen hrw
              have HZ1 : Hid (s + (p + 1) = z + 1) := hid (by omega)
              have hzn : z < k := by have := HL.out; omega
              obtain ⟨Ak, nk, ck, Av, nv, cv, a0, a1, a2, a3, a4, a5, a6, a7, a8⟩ := hen
              have hstep : keysU es (z + 1) = if z = 0 ∨ eKey (elt noEnt es (z - 1)) ≠ eKey (elt noEnt es z) then keysU es z ++ [eKey (elt noEnt es z)] else keysU es z := rfl
              have a0 := below_cell HBr.out a0
              have a1 := below_cell HBr.out a1
              have a2 := below_cell HBr.out a2
              have a3 := below_cell HBr.out a3
              have a4 := below_cell HBr.out a4
              obtain ⟨Akk, ckk, rfl, hckk, hrd⟩ := hos.readsN V.length rfl
              have hvk := hrw.1
              have HOs := hid hos
              by_cases hz0 : z = 0
              · have hV0 : V.length = 0 := by rw [hvk, hz0]; rfl
                have hkz : ((V.length : Int) == 0) = true := by rw [beq_iff_eq]; omega
                rw [if_pos (.inl hz0)] at hstep
                have HK2 : Hid (RBW w1 (V ++ [.slice Ak nk ck]) (keysU es (s + (p + 1)))) := hid (by rw [HZ1.out, hstep]; exact hrw.append (RBW.one a5 a7))
                clear hstep hrw a5 a6 hz0 hz hrd hvk hV0 hos
                go_wp2
                go_quiet (fail)
                go_wp2_with (at_builtin; refine wpS_append1g _ w2.heap.size rfl (.tmp 96) (.tmp 99) rfl _ V rfl (by exact (HOs.out.below (below_alloc' (Below.refl _ _) _)).below (below_drewN (Below.refl _ _) _)) Ak nk ck 1 _ (by first | rfl | simp) rfl (by omega) (HJr.out.below (below_drewN (below_alloc' (Below.refl _ _) _) _)).size ?_; intro v9 w9 hown9 hg9; have HJ9 := hid ((HJr.out.below (below_drewN (below_alloc' (Below.refl _ _) _) _)).keys ((HOs.out.below (below_alloc' (Below.refl _ _) _)).below (below_drewN (Below.refl _ _) _)) hg9))
                go_roundw
                case rel => exact ⟨p + 1, _, by omega, by go_num, hown9, HK2.out, HJ9.out⟩
                case measure => simp [intOf]; omega
              · have hVp : 0 < V.length := by
                  rcases Nat.eq_zero_or_pos V.length with h0 | h0
                  · rw [hvk] at h0
                    exact absurd ((keysU_zero_iff es z).1 h0) hz0
                  · exact h0
                have hkz : ((V.length : Int) == 0) = false := by rw [beq_eq_false_iff_ne]; omega
                obtain ⟨t, ht⟩ : ∃ t, V.length - 1 = t := ⟨_, rfl⟩
                have hkm : (V.length : Int) - 1 = (t : Int) := by omega
                have hws : IntKind.i64.wrap (t : Int) = (t : Int) := by rw [IntKind.wrap_i64]; omega
                have htV : t < V.length := by omega
                have hRs := RBs_of_reads hrd (hrw.below HBr.out) (by omega)
                obtain ⟨adk, rfl, Bk, mk, dk, b0, b5, b6⟩ := hRs.at_ htV
                have hlast := keysU_elt (es := es) (k := z) (by omega)
                rw [← hvk, ht] at hlast
                rw [hlast] at b5
                have b9 : (wr.alloc (.cells #[.slice Ak nk ck, .int .i64 (eSeq (elt noEnt es z)), .bool (eGone (elt noEnt es z)), .int .i64 (eTil (elt noEnt es z)), .slice Av nv cv] 42)).cell? (adk.add t) = some (.slice Bk mk dk) := below_cell (below_alloc' (Below.refl _ _) _) b0
                have HKa := hid ((a5.below HBr.out).below (below_alloc' (Below.refl _ _) (.cells #[.slice Ak nk ck, .int .i64 (eSeq (elt noEnt es z)), .bool (eGone (elt noEnt es z)), .int .i64 (eTil (elt noEnt es z)), .slice Av nv cv] 42)))
                have HKb := hid (b5.below (below_alloc' (Below.refl _ _) (.cells #[.slice Ak nk ck, .int .i64 (eSeq (elt noEnt es z)), .bool (eGone (elt noEnt es z)), .int .i64 (eTil (elt noEnt es z)), .slice Av nv cv] 42)))
                obtain ⟨C, hC⟩ : ∃ C, cmpB (eKey (elt noEnt es (z - 1))) (eKey (elt noEnt es z)) = C := ⟨_, rfl⟩
                have hCz := cmpB_zero (eKey (elt noEnt es (z - 1))) (eKey (elt noEnt es z))
                rw [hC] at hCz
                have HC := hid hC
                by_cases heq : eKey (elt noEnt es (z - 1)) = eKey (elt noEnt es z)
                · rw [if_neg (by rintro (h | h); exact hz0 h; exact h heq)] at hstep
                  have HK2 : Hid (RBW w1 V (keysU es (s + (p + 1)))) := hid (by rw [HZ1.out, hstep]; exact hrw)
                  have hC0 : C = 0 := hCz.2 heq
                  subst hC0
                  clear hstep hrw a5 a6 b5 heq hz0 hz hrd hvk hos hC hCz hRs hlast ht
                  go_wp2
                  go_quiet (first | (go_at_call 24; refine Calls.quiet_of (v := .int .i64 0) ((refcompare_quiet Bk mk dk _ Ak nk ck _ _ (HKb.out.drewN _) (HKa.out.drewN _)).mono ?_); rintro r w9 ⟨rfl, q, hq⟩; exact ⟨by rw [HC.out], q, hq⟩))
                  go_wp2
                  go_roundw
                  case rel => exact ⟨p + 1, V, by omega, by go_num, (HOs.out.below (below_alloc' (Below.refl _ _) _)).below (below_drewN (Below.refl _ _) _), HK2.out, HJr.out.below (below_drewN (below_alloc' (Below.refl _ _) _) _)⟩
                  case measure => simp [intOf]; omega
                · rw [if_pos (.inr heq)] at hstep
                  have HK2 : Hid (RBW w1 (V ++ [.slice Ak nk ck]) (keysU es (s + (p + 1)))) := hid (by rw [HZ1.out, hstep]; exact hrw.append (RBW.one a5 a7))
                  have hC0 : (C == 0) = false := by rw [beq_eq_false_iff_ne]; exact fun e => heq (hCz.1 e)
                  have hC1 : (C != 0) = true := by rw [bne, hC0]; rfl
                  clear hstep hrw a5 a6 b5 heq hz0 hz hrd hvk hos hC hCz hRs hlast ht
                  go_wp2
                  go_quiet (first | (go_at_call 24; refine Calls.quiet_of (v := .int .i64 C) ((refcompare_quiet Bk mk dk _ Ak nk ck _ _ (HKb.out.drewN _) (HKa.out.drewN _)).mono ?_); rintro r w9 ⟨rfl, q, hq⟩; exact ⟨by rw [HC.out], q, hq⟩))
                  go_wp2_with (at_builtin; refine wpS_append1g _ w2.heap.size rfl (.tmp 96) (.tmp 99) rfl _ V rfl (by exact (HOs.out.below (below_alloc' (Below.refl _ _) _)).below (below_drewN (Below.refl _ _) _)) Ak nk ck 1 _ (by first | rfl | simp) rfl (by omega) (HJr.out.below (below_drewN (below_alloc' (Below.refl _ _) _) _)).size ?_; intro v9 w9 hown9 hg9; have HJ9 := hid ((HJr.out.below (below_drewN (below_alloc' (Below.refl _ _) _) _)).keys ((HOs.out.below (below_alloc' (Below.refl _ _) _)).below (below_drewN (Below.refl _ _) _)) hg9))
                  go_roundw
                  case rel => exact ⟨p + 1, _, by omega, by go_num, hown9, HK2.out, HJ9.out⟩
                  case measure => simp [intOf]; omega
            · obtain rfl : p = N := by omega
              have HNJ : Hid (TbJ es w1 w2 wr v8 v6 u8 (m + 1)) := hid ⟨_, _, _, _, _, HN2.out, HJr.out, hos, hrw⟩
              clear hos hrw
              go_wp2
              go_roundw
              case rel => exact ⟨m + 1, by omega, by go_num, HNJ.out⟩
              case measure => simp [intOf]; omega
        · obtain rfl : m = M := by omega
          obtain ⟨hsn, hblk⟩ := HI.out.done (by rw [HM.out]; exact Nat.le_refl _)
          have HRWk : Hid (RBW w1 V (keysU es k)) := hid (by rw [← HL.out, ← hsn]; exact HRW.out)
          obtain ⟨FIL, hFIL⟩ : ∃ F, filterB (keysU es k) = F := ⟨_, rfl⟩
          have hT := HBl.out out idx hblk FIL hFIL
          have hfl : FIL.length ≤ 5008 := by
            have h1 := keysU_len es k
            have h2 : FIL.length = sizeF (keysU es k).length := by rw [← hFIL]; exact fillUpto_len _ _ _ _
            rw [h2]
            unfold sizeF
            split <;> omega
          have HFIL := hid hFIL
          obtain ⟨Akk, ckk, rfl, hckk, hrd⟩ := HOS.out.readsN V.length rfl
          have HKs := hid (RBs_of_reads hrd (HRWk.out.below (below_then HC2.out HJ1.out.bel)) (by omega))
          obtain ⟨Aii, cii, rfl, _, _⟩ := HJ1.out.o2.open_
          obtain ⟨P, hP⟩ : ∃ P, out.length + idx.length + 4 = P := ⟨_, rfl⟩
          rw [hP] at hT
          have hPi : (out.length : Int) + (idx.length : Int) + 4 = (P : Int) := by omega
          have hPl : P ≤ 14000000 := by omega
          have HT := hid hT
          have HBW := hid (below_then HB2.out (Below.refl _ _))
          clear hT hrd hFIL hP hblk hsn HBl HRW HRWk HI HOS HAt2 HMay H HM hm hlm
          go_wp2_with (go_at_call 30; (with_reducible refine (filter_any Akk V.length ckk (keysU es k) _ HKs.out (by omega)).mono ?_); rintro e w3 ⟨v3, rfl, ho3, hb3⟩; rw [HFIL.out] at ho3; obtain ⟨A3, d3, rfl, _, _⟩ := ho3.open_; have HJ3 := hid (HJ1.out.below hb3); have HF3 := hid (HJ1.out.swap.fresh hb3 ho3); clear ho3 hb3)
          have HAp := hid (HF3.out.2.2.1.symm)
          have H5 : Hid (∀ q, q < 5 → elt 0 [out.length, idx.length, P, FIL.length, k] q < 4294967296) := hid (fun q hq => elt5_lt (by omega) hq)
          have HS0 : Hid (RfJ w2 w3 (.slice Ao out.length co) out (.slice none 0 0) (footU [out.length, idx.length, P, FIL.length, k] 0) ∧ RfJ w2 w3 (.slice Aii idx.length cii) idx (.slice none 0 0) (footU [out.length, idx.length, P, FIL.length, k] 0) ∧ RfJ w2 w3 (.slice A3 FIL.length d3) FIL (.slice none 0 0) (footU [out.length, idx.length, P, FIL.length, k] 0)) := hid ⟨RfJ.start HJ3.out.o1 HJ3.out.bel, RfJ.start HJ3.out.o2 HJ3.out.bel, RfJ.start HF3.out.o1 HJ3.out.bel⟩
          clear HJ3 HF3 HJ1 HKs HFIL
          go_loopw [17, 120] (fun fv i wr => ∃ (q : Nat), q ≤ 5 ∧ i = .int .i64 q ∧ RfJ w2 wr (.slice Ao out.length co) out fv (footU [out.length, idx.length, P, FIL.length, k] q) ∧ RfJ w2 wr (.slice Aii idx.length cii) idx fv (footU [out.length, idx.length, P, FIL.length, k] q) ∧ RfJ w2 wr (.slice A3 FIL.length d3) FIL fv (footU [out.length, idx.length, P, FIL.length, k] q)) (fun _ i _ => 5 - (intOf i).toNat)
          case atStart => exact ⟨0, by omega, rfl, HS0.out⟩
          case round =>
            clear HS0
            obtain ⟨q, hq, rfl, hja, hji, hjl⟩ := hrel
            have HJF := hid hja
            have HJI := hid hji
            have HJL := hid hjl
            have hfl2 := footU_len [out.length, idx.length, P, FIL.length, k] q
            clear hja hji hjl
            by_cases hq5 : q < 5
            · have hix := run_index5 out.length idx.length P FIL.length k hq5 wr
              have hX := H5.out q hq5
              have hsucc : footU [out.length, idx.length, P, FIL.length, k] (q + 1) = footU [out.length, idx.length, P, FIL.length, k] q ++ fixB (elt 0 [out.length, idx.length, P, FIL.length, k] q) 4 := rfl
              have HSu := hid hsucc
              clear hsucc
              generalize elt 0 [out.length, idx.length, P, FIL.length, k] q = X at *
              have hxw := wrap_u64_nat X (by omega)
              have HFx := hid (reffixed_any u17 w2.heap.size _ X 4 wr HJF.out.o2 HJF.out.size (by omega) (by omega) (by omega))
              go_wp2_with (go_at_call 47; refine (HFx.out).mono ?_; rintro e w6 ⟨v6, rfl, ho6, hg6, ha6⟩; rw [← HSu.out] at ho6; have HA6 := hid (HJF.out.stepU hg6 ho6 ha6.place); have HI6 := hid (HJI.out.stepU hg6 ho6 ha6.place); have HL6 := hid (HJL.out.stepU hg6 ho6 ha6.place); clear ho6 hg6 ha6)
              go_roundw
              case rel => exact ⟨q + 1, by omega, by go_num, HA6.out, HI6.out, HL6.out⟩
              case measure => simp [intOf]; omega
            · obtain rfl : q = 5 := by omega
              obtain ⟨FT, hFT⟩ : ∃ F, footU [out.length, idx.length, P, FIL.length, k] 5 = F := ⟨_, rfl⟩
              have hT2 := HT.out
              rw [hFT] at hT2 HJF HJI HJL hfl2
              have HJT : Hid (RfJ w2 wr (.slice Ao out.length co) out (.slice A3 FIL.length d3) FIL) := hid ⟨HJF.out.o1, HJL.out.o1, HAp.out, HJF.out.bel⟩
              obtain ⟨Af, cf, rfl, _, _⟩ := HJF.out.o2.open_
              obtain ⟨TB, hTB⟩ : ∃ T, tabB es = T := ⟨_, rfl⟩
              rw [hTB] at hT2
              obtain ⟨SI, hSI⟩ : ∃ S, sumB idx = S := ⟨_, rfl⟩
              have hlI : SI.length = idx.length + 4 := by rw [← hSI, sumB_len]
              obtain ⟨SF, hSF⟩ : ∃ S, sumB FIL = S := ⟨_, rfl⟩
              have hlF : SF.length = FIL.length + 4 := by rw [← hSF, sumB_len]
              obtain ⟨SS, hSS⟩ : ∃ S, sumB FT = S := ⟨_, rfl⟩
              have hlS : SS.length = FT.length + 4 := by rw [← hSS, sumB_len]
              rw [hSI, hSF, hSS] at hT2
              obtain ⟨O2, hO2⟩ : ∃ O, out ++ SI = O := ⟨_, rfl⟩
              have hl2 := app_len hO2
              rw [hO2] at hT2
              obtain ⟨O3, hO3⟩ : ∃ O, O2 ++ SF = O := ⟨_, rfl⟩
              have hl3 := app_len hO3
              rw [hO3] at hT2
              obtain ⟨O4, hO4⟩ : ∃ O, O3 ++ SS = O := ⟨_, rfl⟩
              have hl4 := app_len hO4
              rw [hO4] at hT2
              have hlT : TB.length = O4.length + 8 := by rw [hT2, List.length_append]; rfl
              have hO4l : O4.length ≤ 14000000 := by omega
              have hTl : TB.length ≤ 14000008 := by omega
              have hO3l : O3.length ≤ 14000000 := by omega
              have hO2l : O2.length ≤ 14000000 := by omega
              have hSSl : SS.length ≤ 1000 := by omega
              have hSFl : SF.length ≤ 10000 := by omega
              have hSIl : SI.length ≤ 14000000 := by omega
              have hFTl : FT.length ≤ 1000 := by omega
              have HSI := hid hSI
              have HSF := hid hSF
              have HSS := hid hSS
              have HO2 := hid hO2
              have HO3 := hid hO3
              have HO4 := hid hO4
              have HT2 := hid hT2
              have HTB := hid hTB
              have hms : (⟨#[104, 97, 108, 121, 97, 114, 100, 49]⟩ : ByteArray) = bstr magicB := rfl
              have HMs := hid hms
              clear hFT hSI hSF hSS hO2 hO3 hO4 hT2 hTB hms H5 HT HAp hlI hlF hlS hl2 hl3 hl4 hlT hfl2 hPi
              by_cases hbig : 4194304 < TB.length
              · have hd1 : decide ((4194304 : Int) < (TB.length : Int)) = true := decide_eq_true (by omega)
                go_wp2_with (first
                  | (go_at_call 46; (with_reducible refine (refsummed_any Aii idx.length cii idx _ HJI.out.o1.rb.1 (by omega)).mono ?_); rintro e w4 ⟨v4, rfl, ho4, hb4⟩; rw [HSI.out] at ho4; obtain ⟨A4, d4, rfl, hr4, _⟩ := ho4.open_; have HJF4 := hid (HJF.out.below hb4); have HJT4 := hid (HJT.out.below hb4); have HR4 := hid hr4; clear ho4 hr4 hb4)
                  | (at_builtin; refine wpB_append w2 w4 w2.heap.size rfl (.tmp 128) (.tmp 130) rfl (.slice Ao out.length co) out rfl HJF4.out.o1 A4 SI.length d4 SI rfl HR4.out (by omega) HJF4.out.bel HJF4.out.size ?_; intro v5 w5 hown5 hB5 hg5 hat5; rw [HO2.out] at hown5; have HJF5 := hid (HJF4.out.step hg5 hown5 hat5.place); have HJT5 := hid (HJT4.out.step hg5 hown5 hat5.place); clear hB5 hg5 hat5 hown5)
                  | (go_at_call 46; (with_reducible refine (refsummed_any A3 FIL.length d3 FIL _ HJT5.out.o2.rb.1 (by omega)).mono ?_); rintro e w6 ⟨v6, rfl, ho6, hb6⟩; rw [HSF.out] at ho6; obtain ⟨A6, d6, rfl, hr6, _⟩ := ho6.open_; have HJF6 := hid (HJF5.out.below hb6); have HR6 := hid hr6; clear ho6 hr6 hb6)
                  | (at_builtin; refine wpB_append w2 w6 w2.heap.size rfl (.tmp 131) (.tmp 133) rfl v5 O2 rfl HJF6.out.o1 A6 SF.length d6 SF rfl HR6.out (by omega) HJF6.out.bel HJF6.out.size ?_; intro v7 w7 hown7 hB7 hg7 hat7; rw [HO3.out] at hown7; have HJF7 := hid (HJF6.out.step hg7 hown7 hat7.place); clear hB7 hg7 hat7 hown7)
                  | (go_at_call 46; (with_reducible refine (refsummed_any Af FT.length cf FT _ HJF7.out.o2.rb.1 (by omega)).mono ?_); rintro e w8 ⟨v8, rfl, ho8, hb8⟩; rw [HSS.out] at ho8; obtain ⟨A8, d8, rfl, hr8, _⟩ := ho8.open_; have HJF8 := hid (HJF7.out.below hb8); have HR8 := hid hr8; clear ho8 hr8 hb8)
                  | (at_builtin; refine wpB_append w2 w8 w2.heap.size rfl (.tmp 134) (.tmp 136) rfl v7 O3 rfl HJF8.out.o1 A8 SS.length d8 SS rfl HR8.out (by omega) HJF8.out.bel HJF8.out.size ?_; intro v9 w9 hown9 hB9 hg9 hat9; rw [HO4.out] at hown9; obtain ⟨A9, d9, rfl, _, _⟩ := hown9.openN O4.length rfl; have HO9 := hid hown9; have HB9 := hid hB9; clear hB9 hg9 hat9 hown9)
                  | (at_builtin; refine wpB_append_str w2 w9 w2.heap.size rfl (.tmp 138) _ rfl (.slice A9 O4.length d9) O4 rfl HO9.out magicB _ rfl HMs.out (by decide) (by show O4.length + 8 ≤ _; omega) HB9.out HB9.out.size ?_; intro v10 w10 hown10 hB10 hg10 hat10; rw [← HT2.out] at hown10; obtain ⟨A10, d10, rfl, _, _⟩ := hown10.openN TB.length rfl; have HO10 := hid (OB.mono hown10 HBW.out.size); have HB10 := hid (below_then HBW.out hB10); clear hown10 hB10 hg10 hat10))
                go_ret2
                unfold BdF
                rw [HTB.out, if_pos hbig]
                exact ⟨rfl, HB10.out⟩
              · have hd1 : decide ((4194304 : Int) < (TB.length : Int)) = false := decide_eq_false (by omega)
                go_wp2_with (first
                  | (go_at_call 46; (with_reducible refine (refsummed_any Aii idx.length cii idx _ HJI.out.o1.rb.1 (by omega)).mono ?_); rintro e w4 ⟨v4, rfl, ho4, hb4⟩; rw [HSI.out] at ho4; obtain ⟨A4, d4, rfl, hr4, _⟩ := ho4.open_; have HJF4 := hid (HJF.out.below hb4); have HJT4 := hid (HJT.out.below hb4); have HR4 := hid hr4; clear ho4 hr4 hb4)
                  | (at_builtin; refine wpB_append w2 w4 w2.heap.size rfl (.tmp 128) (.tmp 130) rfl (.slice Ao out.length co) out rfl HJF4.out.o1 A4 SI.length d4 SI rfl HR4.out (by omega) HJF4.out.bel HJF4.out.size ?_; intro v5 w5 hown5 hB5 hg5 hat5; rw [HO2.out] at hown5; have HJF5 := hid (HJF4.out.step hg5 hown5 hat5.place); have HJT5 := hid (HJT4.out.step hg5 hown5 hat5.place); clear hB5 hg5 hat5 hown5)
                  | (go_at_call 46; (with_reducible refine (refsummed_any A3 FIL.length d3 FIL _ HJT5.out.o2.rb.1 (by omega)).mono ?_); rintro e w6 ⟨v6, rfl, ho6, hb6⟩; rw [HSF.out] at ho6; obtain ⟨A6, d6, rfl, hr6, _⟩ := ho6.open_; have HJF6 := hid (HJF5.out.below hb6); have HR6 := hid hr6; clear ho6 hr6 hb6)
                  | (at_builtin; refine wpB_append w2 w6 w2.heap.size rfl (.tmp 131) (.tmp 133) rfl v5 O2 rfl HJF6.out.o1 A6 SF.length d6 SF rfl HR6.out (by omega) HJF6.out.bel HJF6.out.size ?_; intro v7 w7 hown7 hB7 hg7 hat7; rw [HO3.out] at hown7; have HJF7 := hid (HJF6.out.step hg7 hown7 hat7.place); clear hB7 hg7 hat7 hown7)
                  | (go_at_call 46; (with_reducible refine (refsummed_any Af FT.length cf FT _ HJF7.out.o2.rb.1 (by omega)).mono ?_); rintro e w8 ⟨v8, rfl, ho8, hb8⟩; rw [HSS.out] at ho8; obtain ⟨A8, d8, rfl, hr8, _⟩ := ho8.open_; have HJF8 := hid (HJF7.out.below hb8); have HR8 := hid hr8; clear ho8 hr8 hb8)
                  | (at_builtin; refine wpB_append w2 w8 w2.heap.size rfl (.tmp 134) (.tmp 136) rfl v7 O3 rfl HJF8.out.o1 A8 SS.length d8 SS rfl HR8.out (by omega) HJF8.out.bel HJF8.out.size ?_; intro v9 w9 hown9 hB9 hg9 hat9; rw [HO4.out] at hown9; obtain ⟨A9, d9, rfl, _, _⟩ := hown9.openN O4.length rfl; have HO9 := hid hown9; have HB9 := hid hB9; clear hB9 hg9 hat9 hown9)
                  | (at_builtin; refine wpB_append_str w2 w9 w2.heap.size rfl (.tmp 138) _ rfl (.slice A9 O4.length d9) O4 rfl HO9.out magicB _ rfl HMs.out (by decide) (by show O4.length + 8 ≤ _; omega) HB9.out HB9.out.size ?_; intro v10 w10 hown10 hB10 hg10 hat10; rw [← HT2.out] at hown10; obtain ⟨A10, d10, rfl, _, _⟩ := hown10.openN TB.length rfl; have HO10 := hid (OB.mono hown10 HBW.out.size); have HB10 := hid (below_then HBW.out hB10); clear hown10 hB10 hg10 hat10))
                go_ret2
                unfold BdF
                rw [HTB.out, if_neg hbig]
                exact ⟨_, rfl, HO10.out, HB10.out⟩
end Go.Proofs.Ytkkclkknpjapcaa
/-! ### TbM2 -/
namespace Go.Proofs.Ytkkclkknpjapcaa
open Go.RowKit
set_option linter.unusedVariables false
set_option linter.unusedSimpArgs false

def KeyO (w w' : World) (key : List UInt8) (r : Ending) : Prop := ∃ v, r = .returned v ∧ OB w' w.heap.size v key ∧ Below w.heap.size w w'
set_option maxHeartbeats 8000000 in
set_option maxRecDepth 100000 in
theorem tleast_row (bt : Nat) (es : List EntR) (fil : List UInt8) (w : World) (h : TabR w bt es fil) (hne : 1 ≤ es.length) (hm : AllM es) :
    Calls Try.prog 25 #[.pointer (some ⟨bt, 0, none⟩)] w fun r w' => KeyO w w' (eKey (elt noEnt es 0)) r := by
  have HT := hid h
  obtain ⟨A, n, c, Af, m, cf, h1, h2, hc, _⟩ := h
  have hn := h2.1
  have hmax := h2.2.1
  have q0 := box_at h1 0 _ rfl
  obtain ⟨ad, rfl, hen⟩ := h2.at_ (show 0 < n by omega)
  have hmx := mayE_cases (hm 0 (by omega))
  generalize elt noEnt es 0 = x at *
  obtain ⟨Ak, nk, ck, Av, nv, cv, a0, a1, a2, a3, a4, a5, a6, a7, a8⟩ := hen
  rw [Nat.zero_mul, addr_zero'] at a0 a1 a2 a3 a4
  have hn0 : (0 : Int) < (n : Int) := by omega
  have hn0' : 0 < n := by omega
  have e5 := a5.1
  have e6 := a6.1
  have hnk : nk ≤ 140737488355328 := by omega
  have hnv : nv ≤ 140737488355328 := by omega
  have HKV := hid (⟨a5, a6⟩ : _ ∧ _)
  have hzz : ((es.length : Int) == 0) = false := by rw [beq_eq_false_iff_ne]; omega
  clear h1 h2 a5 a6 hm hmx e5 e6
  go_enter Try.func25, Try.ntmps25
  go_wp2_with (first
    | (go_at_call 19; (with_reducible refine (tlen_any bt es fil _ HT.out).mono ?_); rintro e w1 ⟨rfl, rfl⟩)
    | (go_at_call 61; (with_reducible refine (town_any Ak nk ck (eKey x) (eSeq x) (eGone x) (eTil x) Av nv cv (eVal x) _ HKV.out.1 HKV.out.2 hnk hnv).mono ?_); rintro r w4 ⟨kv, vv, rfl, ok1, ov1, hb4⟩; have ok2 := ok1; obtain ⟨A4, c4, rfl, hr4, hc4⟩ := ok1.open_; have hfd := run_field0 (.slice A4 (eKey x).length c4) vv (.int .i64 (eSeq x)) (.bool (eGone x)) (.int .i64 (eTil x)) w4))
  go_ret
  exact ⟨_, rfl, ok2, hb4⟩
set_option maxHeartbeats 8000000 in
set_option maxRecDepth 100000 in
theorem tmost_row (bt : Nat) (es : List EntR) (fil : List UInt8) (w : World) (h : TabR w bt es fil) (hne : 1 ≤ es.length) (hm : AllM es) :
    Calls Try.prog 26 #[.pointer (some ⟨bt, 0, none⟩)] w fun r w' => KeyO w w' (eKey (elt noEnt es (es.length - 1))) r := by
  have HT := hid h
  obtain ⟨A, n, c, Af, m, cf, h1, h2, hc, _⟩ := h
  have hn := h2.1
  have hmax := h2.2.1
  have q0 := box_at h1 0 _ rfl
  obtain ⟨j, hj⟩ : ∃ j, es.length - 1 = j := ⟨_, rfl⟩
  rw [hj]
  have hji : (n : Int) - 1 = (j : Int) := by omega
  have hjn : j < n := by omega
  have hws : IntKind.i64.wrap (j : Int) = (j : Int) := by rw [IntKind.wrap_i64]; omega
  obtain ⟨ad, rfl, hen⟩ := h2.at_ hjn
  have hmx := mayE_cases (hm j (by omega))
  generalize elt noEnt es j = x at *
  obtain ⟨Ak, nk, ck, Av, nv, cv, a0, a1, a2, a3, a4, a5, a6, a7, a8⟩ := hen
  have e5 := a5.1
  have e6 := a6.1
  have hnk : nk ≤ 140737488355328 := by omega
  have hnv : nv ≤ 140737488355328 := by omega
  have HKV := hid (⟨a5, a6⟩ : _ ∧ _)
  have hzz : ((es.length : Int) == 0) = false := by rw [beq_eq_false_iff_ne]; omega
  clear h1 h2 a5 a6 hm hmx e5 e6 hj
  go_enter Try.func26, Try.ntmps26
  go_wp2_with (go_at_call 19; (with_reducible refine (tlen_any bt es fil _ HT.out).mono ?_); rintro e w1 ⟨rfl, rfl⟩)
  go_still_tail 12, (by kernel_rfl)
  change wpList _ _ _ _ _ w.drew
  have hbd : Below w.heap.size w w.drew := below_drew (Below.refl _ _)
  have HKd := hid (⟨HKV.out.1.drew, HKV.out.2.drew⟩ : _ ∧ _)
  generalize w.drew = w2 at *
  go_wp2_with (go_at_call 61; (with_reducible refine (town_any Ak nk ck (eKey x) (eSeq x) (eGone x) (eTil x) Av nv cv (eVal x) _ HKd.out.1 HKd.out.2 hnk hnv).mono ?_); rintro r w4 ⟨kv, vv, rfl, ok1, ov1, hb4⟩; have ok2 := ok1; obtain ⟨A4, c4, rfl, hr4, hc4⟩ := ok1.open_; have hfd := run_field0 (.slice A4 (eKey x).length c4) vv (.int .i64 (eSeq x)) (.bool (eGone x)) (.int .i64 (eTil x)) w4)
  go_ret
  exact ⟨_, rfl, ok2.mono hbd.size, below_then hbd hb4⟩
theorem refcompare_row (A : Option Addr) (n c : Nat) (xs : List UInt8) (v : Value) (base : Nat) (ys : List UInt8) (w : World) (h : RB w A n xs) (h' : OB w base v ys) :
    Calls Try.prog 24 #[.slice A n c, v] w fun e w' => e = .returned (.int .i64 (cmpB xs ys)) ∧ Below w.heap.size w w' := by
  obtain ⟨A2, c2, rfl, hr, _⟩ := h'.open_
  refine (refcompare_quiet A n c xs A2 _ c2 ys w h hr).mono ?_
  rintro e w' ⟨rfl, m, rfl⟩
  exact ⟨rfl, below_drewN (Below.refl _ _) m⟩
end Go.Proofs.Ytkkclkknpjapcaa
/-! ### TbT2 -/
namespace Go.Proofs.Ytkkclkknpjapcaa
open Go.RowKit
set_option linter.unusedVariables false
set_option linter.unusedSimpArgs false

theorem str_dec (xs ys : List UInt8) : ((bstr xs).toList == (bstr ys).toList) = decide (xs = ys) := by
  rw [bstr_list, bstr_list]
  exact Bool.eq_iff_iff.2 (by simp)
/-- Is a key among the first ones? -/
def thereB (L : List EntR) (key : List UInt8) (k : Nat) : Bool := (L.take k).any fun x => decide (eKey x = key)
theorem there_zero (L : List EntR) (key : List UInt8) : thereB L key 0 = false := rfl
theorem there_succ {L : List EntR} {key : List UInt8} {k : Nat} (hk : k < L.length) : thereB L key (k + 1) = (thereB L key k || decide (eKey (elt noEnt L k) = key)) := by
  unfold thereB
  rw [take_succ_elt noEnt hk, List.any_append]
  simp
theorem there_get {L : List EntR} {key : List UInt8} (hm : AllM L) : (getR key 4611686018427387904 L).2 = thereB L key L.length := by
  unfold thereB
  rw [List.take_length]
  have : ∀ l : List EntR, (∀ x ∈ l, mayE x = true) → (getR key 4611686018427387904 l).2 = l.any fun x => decide (eKey x = key) := by
    intro l
    induction l with
    | nil => intro _; rfl
    | cons x l ih =>
      intro h
      rw [getR, List.any_cons]
      have hx := mayE_cases (h x List.mem_cons_self)
      by_cases hk : eKey x = key
      · rw [if_pos ⟨hk, hx.2.2.2.2⟩, decide_eq_true hk]; rfl
      · rw [if_neg (fun e => hk e.1), decide_eq_false hk, ih (fun y hy => h y (List.mem_cons_of_mem _ hy))]; rfl
  refine this L fun x hx => ?_
  obtain ⟨j, hj, rfl⟩ := mem_elt hx
  exact hm j hj
theorem there_has {L : List EntR} {key : List UInt8} (h : thereB L key L.length = true) : hasB (filtB L) key = true := by
  unfold thereB at h
  rw [List.take_length, List.any_eq_true] at h
  obtain ⟨x, hx, e⟩ := h
  rw [decide_eq_true_iff] at e
  rw [← e]
  exact filt_has hx
/-- Each key lies between the least and the most. -/
theorem key_least {L : List EntR} (hs : Srt L) {k : Nat} (hk : k < L.length) : 0 ≤ cmpB (eKey (elt noEnt L k)) (eKey (elt noEnt L 0)) := by
  rcases Nat.eq_zero_or_pos k with rfl | h0
  · rw [(cmpB_zero _ _).2 rfl]; omega
  · rcases aheadK_iff.1 (hs.at_ 0 k h0 hk) with h | ⟨h, _⟩
    · rw [cmpB_swap]; omega
    · rw [h, (cmpB_zero _ _).2 rfl]; omega
theorem key_most {L : List EntR} (hs : Srt L) {k : Nat} (hk : k < L.length) : cmpB (eKey (elt noEnt L k)) (eKey (elt noEnt L (L.length - 1))) ≤ 0 := by
  rcases Nat.lt_or_ge k (L.length - 1) with h0 | h0
  · rcases aheadK_iff.1 (hs.at_ k (L.length - 1) h0 (by omega)) with h | ⟨h, _⟩
    · omega
    · rw [h, (cmpB_zero _ _).2 rfl]; omega
  · obtain rfl : k = L.length - 1 := by omega
    rw [(cmpB_zero _ _).2 rfl]; omega
theorem refordered_rows {w : World} {base : Nat} {v : Value} {L : List EntR} (h : ROw w base v L) (hs : Srt L) : Calls Try.prog 31 #[v] w fun e w' => e = .returned (.bool true) ∧ Below w.heap.size w w' := by
  obtain ⟨A, c, rfl, _, hr⟩ := h.len h.len_lt
  refine (refordered_any A _ c L w hr).mono ?_
  rintro e w' ⟨rfl, hb⟩
  rw [srtB_true hs]
  exact ⟨rfl, hb⟩
set_option maxHeartbeats 32000000 in
set_option maxRecDepth 100000 in
theorem TableKeys_walk (A : Option Addr) (n c : Nat) (es : List EntR) (Ar : Option Addr) (nr cr : Nat) (key : List UInt8) (w : World) (h : REnts w A n es) (hc : n ≤ c) (hk : RB w Ar nr key) (hkc : nr ≤ cr) (hksz : nr ≤ 140737488351232) :
    Calls Try.prog 9 #[.slice A n c, .slice Ar nr cr] w fun e w' => e = .returned (.bool true) ∧ Below w.heap.size w w' := by
  have H := hid h
  have HK := hid hk
  clear h hk
  go_enter Try.func9, Try.ntmps9
  go_upto_region 2 with (go_at_call 14; (with_reducible refine (tsorted_any A n c es _ H.out).mono ?_); rintro r w1 ⟨A1, c1, L, rfl, hc1, hr1, hs1, hm1, hl1, hb1⟩; have HR1 := hid hr1; have HS1 := hid (⟨hs1, hm1⟩ : _ ∧ _); have HB1 := hid hb1; clear hr1 hs1 hm1 hb1)
  by_cases hL : L.length = 0
  · have HNo : Hid (∀ E, TbC L E → E ≠ 0) := hid (fun E hE e => by
      have := (hE.fit.1 e).1.1
      omega)
    have hz : ((L.length : Int) == 0) = true := by rw [beq_iff_eq]; omega
    clear hL
    go_wp2_with (first
      | (go_at_call 12; (with_reducible refine (tbuild_any A1 L.length c1 L _ HR1.out hc1).mono ?_); rintro r w2 ⟨E2, v2, rfl, hE2, ho2, hb2⟩; have hne := HNo.out E2 hE2; have hneb : ((E2 : Int) != 0) = true := (by simpa using hne); have HB2 := hid (below_then HB1.out hb2); clear hE2 ho2)
      | (go_at_call 11; (with_reducible refine (tawake_any _).mono ?_); rintro e w6 ⟨rfl, hb6⟩; have HB6 := hid (below_then HB2.out hb6)))
    go_ret
    exact ⟨by first | rfl | simp, HB6.out⟩
  · have HFit : Hid (FitT L) := hid (fit_small HS1.out.2 HS1.out.1 (by omega) (by omega))
    go_wp2_with (first
      | (go_at_call 12; (with_reducible refine (build_tab A1 L.length c1 L _ HR1.out hc1 HFit.out).mono ?_); rintro r w2 ⟨A2, n2, c2, rfl, hn2, ho2, hr2, hc2, hb2⟩; have HR2 := hid hr2; have HB2 := hid (below_then HB1.out hb2); have HC2 := hid hb2; clear ho2 hr2 hn2 hb2)
      | (go_at_call 15; (with_reducible refine (open_tab A2 n2 c2 L _ HR2.out hc2 HFit.out).mono ?_); rintro r w3 ⟨bt, rfl, ht3, hb3⟩; have HT3 := hid ht3; have HB3 := hid (below_then HB2.out hb3); have HC3 := hid (below_then HC2.out hb3); clear ht3 hb3))
    have HR3 := hid (HR1.out.below HC3.out)
    have HK3 := hid (HK.out.below HB3.out)
    clear HR1 HK HC3 HC2 HB2 HR2 HB1 H
    go_loopw [10, 39] (fun th i wr => ∃ k : Nat, k ≤ L.length ∧ i = .int .i64 k ∧ th = .bool (thereB L key k) ∧ Below w3.heap.size w3 wr) (fun _ i wr => L.length - (intOf i).toNat)
    case atStart => exact ⟨0, Nat.zero_le _, rfl, rfl, Below.refl _ _⟩
    case round =>
      obtain ⟨k, hk, rfl, rfl, hB⟩ := hrel
      have HTr := hid (HT3.out.below hB)
      have HRr := hid (HR3.out.below hB)
      have HKr := hid (HK3.out.below hB)
      have HBr := hid (below_then HB3.out hB)
      by_cases hlt : k < L.length
      · obtain ⟨ad, rfl, hen⟩ := HRr.out.at_ hlt
        have hsucc := there_succ (key := key) hlt
        have hle := key_least HS1.out.1 hlt
        have hmo := key_most HS1.out.1 hlt
        have hfh := filt_has (elt_mem hlt)
        obtain ⟨C0, hC0⟩ : ∃ C, cmpB (eKey (elt noEnt L k)) (eKey (elt noEnt L 0)) = C := ⟨_, rfl⟩
        obtain ⟨C1, hC1⟩ : ∃ C, cmpB (eKey (elt noEnt L k)) (eKey (elt noEnt L (L.length - 1))) = C := ⟨_, rfl⟩
        rw [hC0] at hle
        rw [hC1] at hmo
        have HC0 := hid hC0
        have HC1 := hid hC1
        have HFh := hid hfh
        obtain ⟨K0, hK0⟩ : ∃ K, eKey (elt noEnt L 0) = K := ⟨_, rfl⟩
        obtain ⟨K1, hK1⟩ : ∃ K, eKey (elt noEnt L (L.length - 1)) = K := ⟨_, rfl⟩
        have HLe := hid (fun (u : World) (hu : Below wr.heap.size wr u) => tleast_row bt L (filtB L) u (HTr.out.below hu) (by omega) HS1.out.2)
        have HMo := hid (fun (u : World) (hu : Below wr.heap.size wr u) => tmost_row bt L (filtB L) u (HTr.out.below hu) (by omega) HS1.out.2)
        rw [hK0] at HLe HC0
        rw [hK1] at HMo HC1
        obtain ⟨TH, hTH⟩ : ∃ T, thereB L key k = T := ⟨_, rfl⟩
        rw [hTH] at hsucc
        have HSu := hid hsucc
        obtain ⟨x, hx⟩ : ∃ x, elt noEnt L k = x := ⟨_, rfl⟩
        rw [hx] at hen HC0 HC1 HFh HSu
        obtain ⟨Ak, nk, ck, Av, nv, cv, a0, a1, a2, a3, a4, a5, a6, a7, a8⟩ := hen
        have hdl : decide (C0 < 0) = false := decide_eq_false (by omega)
        have hdm : decide ((0 : Int) < C1) = false := decide_eq_false (by omega)
        have hbxx := heap_alloc_new wr (.cells #[.slice Ak nk ck, .int .i64 (eSeq x), .bool (eGone x), .int .i64 (eTil x), .slice Av nv cv] 42)
        have hBx := below_alloc' (Below.refl wr.heap.size wr) (.cells #[.slice Ak nk ck, .int .i64 (eSeq x), .bool (eGone x), .int .i64 (eTil x), .slice Av nv cv] 42)
        have HX5 := hid (a5.below hBx)
        rw [hTH]
        clear hsucc hfh hC0 hC1 hK0 hK1 hTH hx a5 a6
        go_upto_region 12 with (fail)
        generalize hW5 : wr.alloc (.cells #[.slice Ak nk ck, .int .i64 (eSeq x), .bool (eGone x), .int .i64 (eTil x), .slice Av nv cv] 42) = W5 at *
        clear hW5
        have g0 := box_at hbxx 0 _ rfl
        have HBx := hid hBx
        have HTW := hid (fun (u : World) (hu : Below W5.heap.size W5 u) => HTr.out.below (below_then HBx.out hu))
        have HLe5 := hid (fun (u : World) (hu : Below W5.heap.size W5 u) => HLe.out u (below_then HBx.out hu))
        have HMo5 := hid (fun (u : World) (hu : Below W5.heap.size W5 u) => HMo.out u (below_then HBx.out hu))
        have HKW := hid (fun (u : World) (hu : Below W5.heap.size W5 u) => HKr.out.below (below_then HBx.out hu))
        have HBW := hid (fun (u : World) (hu : Below W5.heap.size W5 u) => below_then (below_then hB HBx.out) hu)
        clear hbxx hBx hB hle hmo
        apply wp_region_txt [none, none, none, none, none, none, none, none, none, none, none, none, none, none, none, none, none, none, none, none, none, none, none, none, none, none, none, none, none, none, none, none, none, none, none, none, none, none, none, none, none, none, none, some 0, some 1, some 2, some 3, some 4, some 5, some 6, some 7, some 8, some 9, some 10, some 11, some 12, some 13, some 14, some 15, some 16, some 17, some 18, some 19, some 20, none, none, none, none, none, none, none, none, none, none, none, none, none, none, none, none, none, none, none, none, none, none, none, none, none, none, none, none, none, none, none, none, none, none, none, none] [9, 17] [] [_, _, _, _, _, _, _, _, _, undef, _, _, _, _, _, _, _, undef, _, _, _] [[], [], [], [], [], [], [], [], [], _, [], [], [], [], [], [], [], _, [], [], []]
        case hm => rfl
        case hs => rfl
        case hst => kernel_rfl
        case hput => exact OpsOK.cons (fun _ _ => rfl) (OpsOK.cons (fun _ _ => rfl) (OpsOK.cons (fun _ _ => rfl) (OpsOK.cons (fun _ _ => rfl) (OpsOK.cons (fun _ _ => rfl) (OpsOK.cons (fun _ _ => rfl) (OpsOK.cons (fun _ _ => rfl) (OpsOK.cons (fun _ _ => rfl) (OpsOK.cons (fun _ _ => rfl) (OpsOK.cons (fun _ _ => rfl) (OpsOK.cons (fun _ _ => rfl) (OpsOK.cons (fun _ _ => rfl) (OpsOK.cons (fun _ _ => rfl) (OpsOK.cons (fun _ _ => rfl) (OpsOK.cons (fun _ _ => rfl) (OpsOK.cons (fun _ _ => rfl) (OpsOK.cons (fun _ _ => rfl) (OpsOK.cons (fun _ _ => rfl) (OpsOK.cons (fun _ _ => rfl) (OpsOK.cons (fun _ _ => rfl) (OpsOK.cons (fun _ _ => rfl) (OpsOK.nil)))))))))))))))))))))
        case hops =>
          refine OpsOK.cons ?_ ?_
          · intro u W K hB hd hK
            replace hK := hk_val hK (by decide) (by rfl)
            clear hd
            simp only [lay, Act.put, List.setIfInBounds_toArray, List.set_cons_zero, List.set_cons_succ] at hK ⊢
            go_simp
            exact hK.out _ _ rfl (Below.refl _ _)
          refine OpsOK.cons ?_ ?_
          · intro u W K hB hd hK
            replace hK := hk_val hK (by decide) (by rfl)
            clear hd
            simp only [lay, Act.put, List.setIfInBounds_toArray, List.set_cons_zero, List.set_cons_succ] at hK ⊢
            go_simp
            exact hK.out _ _ rfl (Below.refl _ _)
          refine OpsOK.cons ?_ ?_
          · intro u W K hB hd hK
            have h1 := fact_val (dep_of hd 1 (by kernel_rfl) (by kernel_rfl)) (by decide)
            dsimp only [nth] at h1
            replace hK := hk_val hK (by decide) (by rfl)
            clear hd
            simp only [lay, Act.put, List.setIfInBounds_toArray, List.set_cons_zero, List.set_cons_succ, h1] at hK ⊢
            have y0 := below_cell hB g0
            go_simp
            exact hK.out _ _ rfl (Below.refl _ _)
          refine OpsOK.cons ?_ ?_
          · intro u W K hB hd hK
            have h0 := fact_val (dep_of hd 0 (by kernel_rfl) (by kernel_rfl)) (by decide)
            dsimp only [nth] at h0
            have h2 := fact_val (dep_of hd 2 (by kernel_rfl) (by kernel_rfl)) (by decide)
            dsimp only [nth] at h2
            replace hK := hk_val hK (by decide) (by rfl)
            clear hd
            simp only [lay, Act.put, List.setIfInBounds_toArray, List.set_cons_zero, List.set_cons_succ, h0, h2] at hK ⊢
            go_simp
            first
              | (go_at_call 28; (with_reducible refine (tmay_any bt L (filtB L) Ak nk ck (eKey x) W (HTW.out W hB) (HX5.out.below hB)).mono ?_); rintro r w9 ⟨rfl, hb⟩; rw [HFh.out]; exact hK.out _ _ rfl hb)
              | (go_at_call 25; (with_reducible refine (HLe5.out W hB).mono ?_); rintro r w9 ⟨v9, rfl, ho9, hb9⟩; exact hK.out _ _ ho9 hb9)
              | (go_at_call 26; (with_reducible refine (HMo5.out W hB).mono ?_); rintro r w9 ⟨v9, rfl, ho9, hb9⟩; exact hK.out _ _ ho9 hb9)
              | (go_at_call 24; (with_reducible refine (refcompare_row Ak nk ck (eKey x) _ _ K0 W (HX5.out.below hB) h9).mono ?_); rintro r w9 ⟨rfl, hb⟩; rw [HC0.out]; exact hK.out _ _ rfl hb)
              | (go_at_call 24; (with_reducible refine (refcompare_row Ak nk ck (eKey x) _ _ K1 W (HX5.out.below hB) h17).mono ?_); rintro r w9 ⟨rfl, hb⟩; rw [HC1.out]; exact hK.out _ _ rfl hb)
          refine OpsOK.cons ?_ ?_
          · intro u W K hB hd hK
            have h3 := fact_val (dep_of hd 3 (by kernel_rfl) (by kernel_rfl)) (by decide)
            dsimp only [nth] at h3
            replace hK := hk_val hK (by decide) (by rfl)
            clear hd
            simp only [lay, Act.put, List.setIfInBounds_toArray, List.set_cons_zero, List.set_cons_succ, h3] at hK ⊢
            go_simp
            exact hK.out _ _ rfl (Below.refl _ _)
          refine OpsOK.cons ?_ ?_
          · intro u W K hB hd hK
            have h3 := fact_val (dep_of hd 3 (by kernel_rfl) (by kernel_rfl)) (by decide)
            dsimp only [nth] at h3
            have h4 := fact_val (dep_of hd 4 (by kernel_rfl) (by kernel_rfl)) (by decide)
            dsimp only [nth] at h4
            replace hK := hk_val hK (by decide) (by rfl)
            clear hd
            simp only [lay, Act.put, List.setIfInBounds_toArray, List.set_cons_zero, List.set_cons_succ, h3, h4] at hK ⊢
            go_simp
            exact hK.out _ _ rfl (Below.refl _ _)
          refine OpsOK.cons ?_ ?_
          · intro u W K hB hd hK
            have h5 := fact_val (dep_of hd 5 (by kernel_rfl) (by kernel_rfl)) (by decide)
            dsimp only [nth] at h5
            replace hK := hk_val hK (by decide) (by rfl)
            clear hd
            simp only [lay, Act.put, List.setIfInBounds_toArray, List.set_cons_zero, List.set_cons_succ, h5] at hK ⊢
            go_simp
            exact hK.out _ _ rfl (Below.refl _ _)
          refine OpsOK.cons ?_ ?_
          · intro u W K hB hd hK
            have h5 := fact_val (dep_of hd 5 (by kernel_rfl) (by kernel_rfl)) (by decide)
            dsimp only [nth] at h5
            have h6 := fact_val (dep_of hd 6 (by kernel_rfl) (by kernel_rfl)) (by decide)
            dsimp only [nth] at h6
            replace hK := hk_val hK (by decide) (by rfl)
            clear hd
            simp only [lay, Act.put, List.setIfInBounds_toArray, List.set_cons_zero, List.set_cons_succ, h5, h6] at hK ⊢
            have y0 := below_cell hB g0
            go_simp
            exact hK.out _ _ rfl (Below.refl _ _)
          refine OpsOK.cons ?_ ?_
          · intro u W K hB hd hK
            have h5 := fact_val (dep_of hd 5 (by kernel_rfl) (by kernel_rfl)) (by decide)
            dsimp only [nth] at h5
            replace hK := hk_val hK (by decide) (by rfl)
            clear hd
            simp only [lay, Act.put, List.setIfInBounds_toArray, List.set_cons_zero, List.set_cons_succ, h5] at hK ⊢
            go_simp
            exact hK.out _ _ rfl (Below.refl _ _)
          refine OpsOK.cons ?_ ?_
          · intro u W K hB hd hK
            have h5 := fact_val (dep_of hd 5 (by kernel_rfl) (by kernel_rfl)) (by decide)
            dsimp only [nth] at h5
            have h8 := fact_val (dep_of hd 8 (by kernel_rfl) (by kernel_rfl)) (by decide)
            dsimp only [nth] at h8
            replace hK := hk_row hB hK (by decide) (by rfl)
            clear hd
            simp only [lay, Act.put, List.setIfInBounds_toArray, List.set_cons_zero, List.set_cons_succ, h5, h8] at hK ⊢
            go_simp
            first
              | (go_at_call 28; (with_reducible refine (tmay_any bt L (filtB L) Ak nk ck (eKey x) W (HTW.out W hB) (HX5.out.below hB)).mono ?_); rintro r w9 ⟨rfl, hb⟩; rw [HFh.out]; exact hK.out _ _ rfl hb)
              | (go_at_call 25; (with_reducible refine (HLe5.out W hB).mono ?_); rintro r w9 ⟨v9, rfl, ho9, hb9⟩; exact hK.out _ _ ho9 hb9)
              | (go_at_call 26; (with_reducible refine (HMo5.out W hB).mono ?_); rintro r w9 ⟨v9, rfl, ho9, hb9⟩; exact hK.out _ _ ho9 hb9)
              | (go_at_call 24; (with_reducible refine (refcompare_row Ak nk ck (eKey x) _ _ K0 W (HX5.out.below hB) h9).mono ?_); rintro r w9 ⟨rfl, hb⟩; rw [HC0.out]; exact hK.out _ _ rfl hb)
              | (go_at_call 24; (with_reducible refine (refcompare_row Ak nk ck (eKey x) _ _ K1 W (HX5.out.below hB) h17).mono ?_); rintro r w9 ⟨rfl, hb⟩; rw [HC1.out]; exact hK.out _ _ rfl hb)
          refine OpsOK.cons ?_ ?_
          · intro u W K hB hd hK
            have h5 := fact_val (dep_of hd 5 (by kernel_rfl) (by kernel_rfl)) (by decide)
            dsimp only [nth] at h5
            have h7 := fact_val (dep_of hd 7 (by kernel_rfl) (by kernel_rfl)) (by decide)
            dsimp only [nth] at h7
            have h9 := fact_row (dep_of hd 9 (by kernel_rfl) (by kernel_rfl)) (by decide)
            dsimp only [nth] at h9
            replace hK := hk_val hK (by decide) (by rfl)
            clear hd
            simp only [lay, Act.put, List.setIfInBounds_toArray, List.set_cons_zero, List.set_cons_succ, h5, h7] at hK ⊢
            go_simp
            first
              | (go_at_call 28; (with_reducible refine (tmay_any bt L (filtB L) Ak nk ck (eKey x) W (HTW.out W hB) (HX5.out.below hB)).mono ?_); rintro r w9 ⟨rfl, hb⟩; rw [HFh.out]; exact hK.out _ _ rfl hb)
              | (go_at_call 25; (with_reducible refine (HLe5.out W hB).mono ?_); rintro r w9 ⟨v9, rfl, ho9, hb9⟩; exact hK.out _ _ ho9 hb9)
              | (go_at_call 26; (with_reducible refine (HMo5.out W hB).mono ?_); rintro r w9 ⟨v9, rfl, ho9, hb9⟩; exact hK.out _ _ ho9 hb9)
              | (go_at_call 24; (with_reducible refine (refcompare_row Ak nk ck (eKey x) _ _ K0 W (HX5.out.below hB) h9).mono ?_); rintro r w9 ⟨rfl, hb⟩; rw [HC0.out]; exact hK.out _ _ rfl hb)
              | (go_at_call 24; (with_reducible refine (refcompare_row Ak nk ck (eKey x) _ _ K1 W (HX5.out.below hB) h17).mono ?_); rintro r w9 ⟨rfl, hb⟩; rw [HC1.out]; exact hK.out _ _ rfl hb)
          refine OpsOK.cons ?_ ?_
          · intro u W K hB hd hK
            have h5 := fact_val (dep_of hd 5 (by kernel_rfl) (by kernel_rfl)) (by decide)
            dsimp only [nth] at h5
            have h10 := fact_val (dep_of hd 10 (by kernel_rfl) (by kernel_rfl)) (by decide)
            dsimp only [nth] at h10
            replace hK := hk_val hK (by decide) (by rfl)
            clear hd
            simp only [lay, Act.put, List.setIfInBounds_toArray, List.set_cons_zero, List.set_cons_succ, h5, h10] at hK ⊢
            go_simp
            exact hK.out _ _ rfl (Below.refl _ _)
          refine OpsOK.cons ?_ ?_
          · intro u W K hB hd hK
            have h5 := fact_val (dep_of hd 5 (by kernel_rfl) (by kernel_rfl)) (by decide)
            dsimp only [nth] at h5
            have h11 := fact_val (dep_of hd 11 (by kernel_rfl) (by kernel_rfl)) (by decide)
            dsimp only [nth] at h11
            replace hK := hk_val hK (by decide) (by rfl)
            clear hd
            simp only [lay, Act.put, List.setIfInBounds_toArray, List.set_cons_zero, List.set_cons_succ, h5, h11] at hK ⊢
            go_simp
            exact hK.out _ _ rfl (Below.refl _ _)
          refine OpsOK.cons ?_ ?_
          · intro u W K hB hd hK
            have h10 := fact_val (dep_of hd 10 (by kernel_rfl) (by kernel_rfl)) (by decide)
            dsimp only [nth] at h10
            have h12 := fact_val (dep_of hd 12 (by kernel_rfl) (by kernel_rfl)) (by decide)
            dsimp only [nth] at h12
            replace hK := hk_val hK (by decide) (by rfl)
            clear hd
            simp only [lay, Act.put, List.setIfInBounds_toArray, List.set_cons_zero, List.set_cons_succ, h10, h12] at hK ⊢
            go_simp
            exact hK.out _ _ rfl (Below.refl _ _)
          refine OpsOK.cons ?_ ?_
          · intro u W K hB hd hK
            have h13 := fact_val (dep_of hd 13 (by kernel_rfl) (by kernel_rfl)) (by decide)
            dsimp only [nth] at h13
            replace hK := hk_val hK (by decide) (by rfl)
            clear hd
            simp only [lay, Act.put, List.setIfInBounds_toArray, List.set_cons_zero, List.set_cons_succ, h13] at hK ⊢
            go_simp
            exact hK.out _ _ rfl (Below.refl _ _)
          refine OpsOK.cons ?_ ?_
          · intro u W K hB hd hK
            have h13 := fact_val (dep_of hd 13 (by kernel_rfl) (by kernel_rfl)) (by decide)
            dsimp only [nth] at h13
            have h14 := fact_val (dep_of hd 14 (by kernel_rfl) (by kernel_rfl)) (by decide)
            dsimp only [nth] at h14
            replace hK := hk_val hK (by decide) (by rfl)
            clear hd
            simp only [lay, Act.put, List.setIfInBounds_toArray, List.set_cons_zero, List.set_cons_succ, h13, h14] at hK ⊢
            have y0 := below_cell hB g0
            go_simp
            exact hK.out _ _ rfl (Below.refl _ _)
          refine OpsOK.cons ?_ ?_
          · intro u W K hB hd hK
            have h13 := fact_val (dep_of hd 13 (by kernel_rfl) (by kernel_rfl)) (by decide)
            dsimp only [nth] at h13
            replace hK := hk_val hK (by decide) (by rfl)
            clear hd
            simp only [lay, Act.put, List.setIfInBounds_toArray, List.set_cons_zero, List.set_cons_succ, h13] at hK ⊢
            go_simp
            exact hK.out _ _ rfl (Below.refl _ _)
          refine OpsOK.cons ?_ ?_
          · intro u W K hB hd hK
            have h13 := fact_val (dep_of hd 13 (by kernel_rfl) (by kernel_rfl)) (by decide)
            dsimp only [nth] at h13
            have h16 := fact_val (dep_of hd 16 (by kernel_rfl) (by kernel_rfl)) (by decide)
            dsimp only [nth] at h16
            replace hK := hk_row hB hK (by decide) (by rfl)
            clear hd
            simp only [lay, Act.put, List.setIfInBounds_toArray, List.set_cons_zero, List.set_cons_succ, h13, h16] at hK ⊢
            go_simp
            first
              | (go_at_call 28; (with_reducible refine (tmay_any bt L (filtB L) Ak nk ck (eKey x) W (HTW.out W hB) (HX5.out.below hB)).mono ?_); rintro r w9 ⟨rfl, hb⟩; rw [HFh.out]; exact hK.out _ _ rfl hb)
              | (go_at_call 25; (with_reducible refine (HLe5.out W hB).mono ?_); rintro r w9 ⟨v9, rfl, ho9, hb9⟩; exact hK.out _ _ ho9 hb9)
              | (go_at_call 26; (with_reducible refine (HMo5.out W hB).mono ?_); rintro r w9 ⟨v9, rfl, ho9, hb9⟩; exact hK.out _ _ ho9 hb9)
              | (go_at_call 24; (with_reducible refine (refcompare_row Ak nk ck (eKey x) _ _ K0 W (HX5.out.below hB) h9).mono ?_); rintro r w9 ⟨rfl, hb⟩; rw [HC0.out]; exact hK.out _ _ rfl hb)
              | (go_at_call 24; (with_reducible refine (refcompare_row Ak nk ck (eKey x) _ _ K1 W (HX5.out.below hB) h17).mono ?_); rintro r w9 ⟨rfl, hb⟩; rw [HC1.out]; exact hK.out _ _ rfl hb)
          refine OpsOK.cons ?_ ?_
          · intro u W K hB hd hK
            have h13 := fact_val (dep_of hd 13 (by kernel_rfl) (by kernel_rfl)) (by decide)
            dsimp only [nth] at h13
            have h15 := fact_val (dep_of hd 15 (by kernel_rfl) (by kernel_rfl)) (by decide)
            dsimp only [nth] at h15
            have h17 := fact_row (dep_of hd 17 (by kernel_rfl) (by kernel_rfl)) (by decide)
            dsimp only [nth] at h17
            replace hK := hk_val hK (by decide) (by rfl)
            clear hd
            simp only [lay, Act.put, List.setIfInBounds_toArray, List.set_cons_zero, List.set_cons_succ, h13, h15] at hK ⊢
            go_simp
            first
              | (go_at_call 28; (with_reducible refine (tmay_any bt L (filtB L) Ak nk ck (eKey x) W (HTW.out W hB) (HX5.out.below hB)).mono ?_); rintro r w9 ⟨rfl, hb⟩; rw [HFh.out]; exact hK.out _ _ rfl hb)
              | (go_at_call 25; (with_reducible refine (HLe5.out W hB).mono ?_); rintro r w9 ⟨v9, rfl, ho9, hb9⟩; exact hK.out _ _ ho9 hb9)
              | (go_at_call 26; (with_reducible refine (HMo5.out W hB).mono ?_); rintro r w9 ⟨v9, rfl, ho9, hb9⟩; exact hK.out _ _ ho9 hb9)
              | (go_at_call 24; (with_reducible refine (refcompare_row Ak nk ck (eKey x) _ _ K0 W (HX5.out.below hB) h9).mono ?_); rintro r w9 ⟨rfl, hb⟩; rw [HC0.out]; exact hK.out _ _ rfl hb)
              | (go_at_call 24; (with_reducible refine (refcompare_row Ak nk ck (eKey x) _ _ K1 W (HX5.out.below hB) h17).mono ?_); rintro r w9 ⟨rfl, hb⟩; rw [HC1.out]; exact hK.out _ _ rfl hb)
          refine OpsOK.cons ?_ ?_
          · intro u W K hB hd hK
            have h13 := fact_val (dep_of hd 13 (by kernel_rfl) (by kernel_rfl)) (by decide)
            dsimp only [nth] at h13
            have h18 := fact_val (dep_of hd 18 (by kernel_rfl) (by kernel_rfl)) (by decide)
            dsimp only [nth] at h18
            replace hK := hk_val hK (by decide) (by rfl)
            clear hd
            simp only [lay, Act.put, List.setIfInBounds_toArray, List.set_cons_zero, List.set_cons_succ, h13, h18] at hK ⊢
            go_simp
            exact hK.out _ _ rfl (Below.refl _ _)
          refine OpsOK.cons ?_ ?_
          · intro u W K hB hd hK
            have h13 := fact_val (dep_of hd 13 (by kernel_rfl) (by kernel_rfl)) (by decide)
            dsimp only [nth] at h13
            have h19 := fact_val (dep_of hd 19 (by kernel_rfl) (by kernel_rfl)) (by decide)
            dsimp only [nth] at h19
            replace hK := hk_val hK (by decide) (by rfl)
            clear hd
            simp only [lay, Act.put, List.setIfInBounds_toArray, List.set_cons_zero, List.set_cons_succ, h13, h19] at hK ⊢
            go_simp
            exact hK.out _ _ rfl (Below.refl _ _)
          exact OpsOK.nil
        intro u W hB hf
        have h0 := fact_val (hf 0 (by decide) (by decide)) (by decide)
        dsimp only [nth] at h0
        have h1 := fact_val (hf 1 (by decide) (by decide)) (by decide)
        dsimp only [nth] at h1
        have h2 := fact_val (hf 2 (by decide) (by decide)) (by decide)
        dsimp only [nth] at h2
        have h3 := fact_val (hf 3 (by decide) (by decide)) (by decide)
        dsimp only [nth] at h3
        have h4 := fact_val (hf 4 (by decide) (by decide)) (by decide)
        dsimp only [nth] at h4
        have h5 := fact_val (hf 5 (by decide) (by decide)) (by decide)
        dsimp only [nth] at h5
        have h6 := fact_val (hf 6 (by decide) (by decide)) (by decide)
        dsimp only [nth] at h6
        have h7 := fact_val (hf 7 (by decide) (by decide)) (by decide)
        dsimp only [nth] at h7
        have h8 := fact_val (hf 8 (by decide) (by decide)) (by decide)
        dsimp only [nth] at h8
        have h9 := fact_row (hf 9 (by decide) (by decide)) (by decide)
        dsimp only [nth] at h9
        have h10 := fact_val (hf 10 (by decide) (by decide)) (by decide)
        dsimp only [nth] at h10
        have h11 := fact_val (hf 11 (by decide) (by decide)) (by decide)
        dsimp only [nth] at h11
        have h12 := fact_val (hf 12 (by decide) (by decide)) (by decide)
        dsimp only [nth] at h12
        have h13 := fact_val (hf 13 (by decide) (by decide)) (by decide)
        dsimp only [nth] at h13
        have h14 := fact_val (hf 14 (by decide) (by decide)) (by decide)
        dsimp only [nth] at h14
        have h15 := fact_val (hf 15 (by decide) (by decide)) (by decide)
        dsimp only [nth] at h15
        have h16 := fact_val (hf 16 (by decide) (by decide)) (by decide)
        dsimp only [nth] at h16
        have h17 := fact_row (hf 17 (by decide) (by decide)) (by decide)
        dsimp only [nth] at h17
        have h18 := fact_val (hf 18 (by decide) (by decide)) (by decide)
        dsimp only [nth] at h18
        have h19 := fact_val (hf 19 (by decide) (by decide)) (by decide)
        dsimp only [nth] at h19
        have h20 := fact_val (hf 20 (by decide) (by decide)) (by decide)
        dsimp only [nth] at h20
        clear hf
        simp only [lay, h0, h1, h2, h3, h4, h5, h6, h7, h8, h10, h11, h12, h13, h14, h15, h16, h18, h19, h20]
        clear h0 h1 h2 h3 h4 h5 h6 h7 h8 h10 h11 h12 h13 h14 h15 h16 h18 h19 h20
        have y0 := below_cell hB g0
        have HB9 := hid (HBW.out W hB)
        have hcv1 := (HX5.out.below hB).conv ck
        have hcv2 := (HKW.out W hB).conv cr
        clear h9 h17
        cases TH
        · by_cases heq : eKey x = key
          · have hst : ((bstr (eKey x)).toList == (bstr key).toList) = true := by rw [str_dec]; exact decide_eq_true heq
            have HN : Hid (thereB L key (k + 1) = true) := hid (by rw [HSu.out, decide_eq_true heq]; rfl)
            clear heq
            go_wp2
            go_roundw
            case rel => exact ⟨k + 1, by omega, by go_num, by rw [HN.out], HB9.out⟩
            case measure => simp [intOf]; omega
          · have hst : ((bstr (eKey x)).toList == (bstr key).toList) = false := by rw [str_dec]; exact decide_eq_false heq
            have HN : Hid (thereB L key (k + 1) = false) := hid (by rw [HSu.out, decide_eq_false heq]; rfl)
            clear heq
            go_wp2
            go_roundw
            case rel => exact ⟨k + 1, by omega, by go_num, by rw [HN.out], HB9.out⟩
            case measure => simp [intOf]; omega
        · have HN : Hid (thereB L key (k + 1) = true) := hid (by rw [HSu.out]; rfl)
          go_wp2
          go_roundw
          case rel => exact ⟨k + 1, by omega, by go_num, by rw [HN.out], HB9.out⟩
          case measure => simp [intOf]; omega
      · obtain rfl : k = L.length := by omega
        have hget := there_get (key := key) HS1.out.2
        have hhas := there_has (L := L) (key := key)
        have HGt := hid (tget_any bt L (filtB L) Ar nr cr key 4611686018427387904 wr HTr.out HKr.out HS1.out.1 HS1.out.2 (by omega) (fun x hx => filt_has hx))
        rw [hget] at HGt
        clear hget
        obtain ⟨TH, hTH⟩ : ∃ T, thereB L key L.length = T := ⟨_, rfl⟩
        obtain ⟨HH, hHH⟩ : ∃ T, hasB (filtB L) key = T := ⟨_, rfl⟩
        rw [hTH] at hhas HGt
        rw [hHH] at hhas
        rw [hTH]
        have HHH := hid hHH
        generalize (getR key 4611686018427387904 L).1 = gx at *
        clear hTH hHH
        cases TH
        all_goals cases HH
        all_goals (try (exact absurd (hhas rfl) (by decide)))
        all_goals
          clear hhas
          go_wp2_with (first
            | (go_at_call 20; (with_reducible refine (HGt.out).mono ?_); rintro r w4 ⟨Ag, ng, cg, Avg, nvg, cvg, rfl, hg1, hg2, hb4⟩; have HC4 := hid (below_alloc' hb4 (.cells #[.slice Ag ng cg, .int .i64 (eSeq gx), .bool (eGone gx), .int .i64 (eTil gx), .slice Avg nvg cvg] 42)); have HT4 := hid (HTr.out.below HC4.out); have HK4 := hid (HKr.out.below HC4.out); have HB4 := hid (below_then HBr.out HC4.out); clear hg1 hg2)
            | (go_at_call 28; (with_reducible refine (tmay_any bt L (filtB L) Ar nr cr key _ HT4.out HK4.out).mono ?_); rintro r w5 ⟨rfl, hb5⟩; rw [HHH.out]; have HT5 := hid (HT4.out.below hb5); have HB5 := hid (below_then HB4.out hb5))
            | (go_at_call 18; (with_reducible refine (tall_any bt L (filtB L) _ HT5.out HS1.out.1 HS1.out.2 (by omega)).mono ?_); rintro r w6 ⟨v6, rfl, ho6, hb6⟩; have HO6 := hid ho6; have HB6 := hid (below_then HB5.out hb6); clear ho6)
            | (go_at_call 31; (with_reducible refine (refordered_rows HO6.out HS1.out.1).mono ?_); rintro r w7 ⟨rfl, hb7⟩; have HB7 := hid (below_then HB6.out hb7))
            | (go_at_call 11; (with_reducible refine (tawake_any _).mono ?_); rintro e w8 ⟨rfl, hb8⟩; have HB8 := hid (below_then HB7.out hb8)))
          go_ret
          exact ⟨by first | rfl | simp, HB8.out⟩
end Go.Proofs.Ytkkclkknpjapcaa
/-! ### TbU5 -/
namespace Go.Proofs.Ytkkclkknpjapcaa
open Go.RowKit
set_option linter.unusedVariables false
set_option linter.unusedSimpArgs false

theorem table_bld_bad {w w' : World} {es : List EntR} {E : Nat} {r : Ending} (h : EncBad w w' (E : Int) r) (hE : TbC es E) (h0 : E ≠ 0) : TBld w w' es r := by
  obtain ⟨rfl, hb⟩ := h
  refine ⟨E, _, rfl, hE, ?_, hb⟩
  rw [if_neg h0]
  exact OB.nil _ _
theorem table_any (A : Option Addr) (n c : Nat) (es : List EntR) (w : World) (h : REnts w A n es) (hc : n ≤ c) :
    Calls Try.prog 13 #[.slice A n c] w fun r w' => TBld w w' es r := by
  have hl := h.1
  by_cases h1 : es.length = 0 ∨ 4000 < es.length
  · exact (table_none A n c es w h (by omega)).mono fun r w' hb => table_bld_bad (E := 13) hb (.inl ⟨h1, rfl⟩) (by decide)
  · have h1' : 1 ≤ es.length ∧ es.length ≤ 4000 := by omega
    by_cases h2 : AllM es
    · by_cases h3 : Srt es
      · refine (table_fit A n c es w h hc (by omega) h2 h3).mono ?_
        intro r w' hb
        unfold BdF at hb
        split at hb
        · obtain ⟨rfl, hb⟩ := hb
          exact ⟨8, _, rfl, .inr (.inr (.inr (.inl ⟨h1', h2, h3, by assumption, rfl⟩))), OB.nil _ _, hb⟩
        · obtain ⟨v, rfl, ho, hb⟩ := hb
          exact ⟨0, v, rfl, .inr (.inr (.inr (.inr ⟨h1', h2, h3, by omega, rfl⟩))), ho, hb⟩
      · exact (table_bad A n c es w h (by omega) 11 (.inr ⟨h2, h3, rfl⟩)).mono fun r w' hb => table_bld_bad (E := 11) hb (.inr (.inr (.inl ⟨h1', h2, h3, rfl⟩))) (by decide)
    · exact (table_bad A n c es w h (by omega) 1 (.inl ⟨h2, rfl⟩)).mono fun r w' hb => table_bld_bad (E := 1) hb (.inr (.inl ⟨h1', h2, rfl⟩)) (by decide)
/-- light answers. -/
def LtC (w w' : World) (r : Ending) : Prop := ∃ b : Bool, r = .returned (.bool b) ∧ Below w.heap.size w w'
set_option maxHeartbeats 16000000 in
set_option maxRecDepth 100000 in
theorem tlight_any (A : Option Addr) (n c : Nat) (es : List EntR) (w : World) (h : REnts w A n es) : Calls Try.prog 10 #[.slice A n c] w fun r w' => LtC w w' r := by
  have hmax := h.2.1
  have H := hid h
  clear h
  go_enter Try.func10, Try.ntmps10
  go_wp2
  go_loopw [7] (fun i wr => ∃ k : Nat, k ≤ n ∧ i = .int .i64 k ∧ Below w.heap.size w wr) (fun i wr => n - (intOf i).toNat)
  case atStart => exact ⟨0, Nat.zero_le _, rfl, Below.refl _ _⟩
  case round =>
    obtain ⟨k, hk, rfl, hB⟩ := hrel
    by_cases hlt : k < n
    · obtain ⟨ad, rfl, hen⟩ := H.out.at_ hlt
      obtain ⟨Ak, nk, ck, Av, nv, cv, a0, a1, a2, a3, a4, a5, a6, a7, a8⟩ := hen.below hB
      have hkl := a5.max
      have hvl := a6.max
      generalize elt noEnt es k = x at *
      clear hen a5 a6
      have hB2 := below_alloc' hB (.cells #[.slice Ak nk ck, .int .i64 (eSeq x), .bool (eGone x), .int .i64 (eTil x), .slice Av nv cv] 42)
      by_cases h2 : k < 200
      · have hd1 : decide ((200 : Int) ≤ (k : Int)) = false := decide_eq_false (by omega)
        by_cases h3 : nk ≤ 3000
        · have hd2 : decide ((3000 : Int) < (nk : Int)) = false := decide_eq_false (by omega)
          by_cases h4 : nv ≤ 3000
          · have hd3 : decide ((3000 : Int) < (nv : Int)) = false := decide_eq_false (by omega)
            go_wp2
            go_roundw
            case rel => exact ⟨k + 1, by omega, by go_num, hB2⟩
            case measure => simp [intOf]; omega
          · have hd3 : decide ((3000 : Int) < (nv : Int)) = true := decide_eq_true (by omega)
            go_wp2
            go_ret
            exact ⟨_, rfl, hB2⟩
        · have hd2 : decide ((3000 : Int) < (nk : Int)) = true := decide_eq_true (by omega)
          go_wp2
          go_ret
          exact ⟨_, rfl, hB2⟩
      · have hd1 : decide ((200 : Int) ≤ (k : Int)) = true := decide_eq_true (by omega)
        go_wp2
        go_ret
        exact ⟨_, rfl, hB2⟩
    · obtain rfl : k = n := by omega
      go_wp2
      go_ret
      exact ⟨_, rfl, hB⟩
theorem TBld.bytes {w w' : World} {es : List EntR} {r : Ending} {E : Nat} (h : TBld w w' es r) (hE : TbC es E) (hl : es.length ≤ 4000 ∨ E ≠ 0) : ∃ A c, r = .returned (.tuple #[.slice A (if E = 0 then tabB es else []).length c, .int .i64 (E : Int)]) ∧ RB w' A (if E = 0 then tabB es else []).length (if E = 0 then tabB es else []) ∧ Below w.heap.size w w' := by
  obtain ⟨E', v, rfl, hE', ho, hb⟩ := h
  obtain rfl := hE.unique hE'
  obtain ⟨A, c, rfl, hr, hc⟩ := ho.open_
  exact ⟨A, c, rfl, hr, hb⟩
theorem tbc_some (es : List EntR) : ∃ E, TbC es E := by
  by_cases h1 : es.length = 0 ∨ 4000 < es.length
  · exact ⟨13, .inl ⟨h1, rfl⟩⟩
  · have h1' : 1 ≤ es.length ∧ es.length ≤ 4000 := by omega
    by_cases h2 : AllM es
    · by_cases h3 : Srt es
      · by_cases h4 : 4194304 < (tabB es).length
        · exact ⟨8, .inr (.inr (.inr (.inl ⟨h1', h2, h3, h4, rfl⟩)))⟩
        · exact ⟨0, .inr (.inr (.inr (.inr ⟨h1', h2, h3, by omega, rfl⟩)))⟩
      · exact ⟨11, .inr (.inr (.inl ⟨h1', h2, h3, rfl⟩))⟩
    · exact ⟨1, .inr (.inl ⟨h1', h2, rfl⟩)⟩
set_option maxHeartbeats 16000000 in
set_option maxRecDepth 100000 in
theorem TableBuilds_walk (A : Option Addr) (n c : Nat) (es : List EntR) (w : World) (h : REnts w A n es) (hc : n ≤ c) :
    Calls Try.prog 3 #[.slice A n c] w fun e w' => e = .returned (.bool true) ∧ Below w.heap.size w w' := by
  have H := hid h
  obtain ⟨E, hE⟩ := tbc_some es
  have HB := hid (fun (u : World) (hu : Below w.heap.size w u) => (tbuild_any A n c es u (h.below hu) hc).mono fun r w' hb => hb.bytes hE (by rcases hE with ⟨_, e⟩ | ⟨e, _⟩ | ⟨e, _⟩ | ⟨e, _⟩ | ⟨e, _⟩ <;> omega))
  have HT := hid (fun (u : World) (hu : Below w.heap.size w u) => (table_any A n c es u (h.below hu) hc).mono fun r w' hb => hb.bytes hE (by rcases hE with ⟨_, e⟩ | ⟨e, _⟩ | ⟨e, _⟩ | ⟨e, _⟩ | ⟨e, _⟩ <;> omega))
  obtain ⟨L, hL⟩ : ∃ L, (if E = 0 then tabB es else []) = L := ⟨_, rfl⟩
  rw [hL] at HB HT
  clear hL hE h
  go_enter Try.func3, Try.ntmps3
  go_wp2_with (first
    | (go_at_call 10; (with_reducible refine (tlight_any A n c es _ H.out).mono ?_); rintro r w1 ⟨b, rfl, hb1⟩; have HB1 := hid hb1; clear hb1; cases b)
    | (go_at_call 12; refine (HB.out _ HB1.out).mono ?_; rintro r w2 ⟨A2, c2, rfl, hr2, hb2⟩; have HR2 := hid hr2; have HB2 := hid (below_then HB1.out hb2); clear hr2 hb2)
    | (go_at_call 13; refine (HT.out _ HB2.out).mono ?_; rintro r w3 ⟨A3, c3, rfl, hr3, hb3⟩; have HB3 := hid (below_then HB2.out hb3); have hcv2 := (HR2.out.below hb3).conv c2; have hcv3 := hr3.conv c3; clear hr3 hb3)
    | (go_at_call 11; (with_reducible refine (tawake_any _).mono ?_); rintro r w9 ⟨rfl, hb9⟩))
  · go_ret
    exact ⟨by first | rfl | simp, below_then HB1.out hb9⟩
  · go_ret
    exact ⟨by first | rfl | simp, below_then HB3.out hb9⟩
end Go.Proofs.Ytkkclkknpjapcaa
