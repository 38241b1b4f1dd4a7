/- Shared texts, part S20: TbA, TbV0, TbF. -/
import Derived.Test.YtkkclkknpjapcaaDoorS14
import Derived.Test.YtkkclkknpjapcaaDoorS18
import Derived.Test.YtkkclkknpjapcaaDoorS19
import Derived.Test.YtkkclkknpjapcaaDoorS06
import Derived.Test.YtkkclkknpjapcaaDoorS12
/-! ### TbA -/
namespace Go.Proofs.YtkkclkknpjapcaaDoor
open Go.RowKit
set_option linter.unusedVariables false
set_option linter.unusedSimpArgs false

/-- Bytes with their sum behind them. -/
def sumOf (b : List UInt8) : Nat := crcMask (crcMore 0 b)
def sumB (b : List UInt8) : List UInt8 := b ++ fixB (sumOf b) 4
theorem sumOf_lt (b : List UInt8) : sumOf b < 4294967296 := crcMask_lt _
theorem sumB_len (b : List UInt8) : (sumB b).length = b.length + 4 := by rw [sumB, List.length_append, fix4_len]
def wgt (e : EntR) : Nat := (eKey e).length + (eVal e).length + 16
/-- How many entries the first block has, where the ones ahead weigh W. -/
def cutL : Nat → List EntR → Nat
  | _, [] => 0
  | W, e :: l => if 256 ≤ W + wgt e then 1 else cutL (W + wgt e) l + 1
def cutN (es : List EntR) : Nat := cutL 0 es
theorem cutL_le : ∀ (l : List EntR) (W : Nat), cutL W l ≤ l.length := by
  intro l
  induction l with
  | nil => intro W; simp [cutL]
  | cons e l ih =>
    intro W
    rw [cutL]
    have := ih (W + wgt e)
    split <;> simp only [List.length_cons] <;> omega
theorem cutL_pos {l : List EntR} (h : l ≠ []) (W : Nat) : 1 ≤ cutL W l := by
  cases l with
  | nil => exact absurd rfl h
  | cons e l => rw [cutL]; split <;> omega
theorem cutL_few : ∀ (l : List EntR) (W : Nat), 16 * cutL W l + W < 256 + 16 ∨ cutL W l ≤ 1 := by
  intro l
  induction l with
  | nil => intro W; exact .inr (by simp [cutL])
  | cons e l ih =>
    intro W
    have hw : 16 ≤ wgt e := by unfold wgt; omega
    rw [cutL]
    by_cases h : 256 ≤ W + wgt e
    · rw [if_pos h]; exact .inr (by omega)
    · rw [if_neg h]
      rcases ih (W + wgt e) with h1 | h1
      · exact .inl (by omega)
      · by_cases h2 : cutL (W + wgt e) l = 0
        · exact .inr (by omega)
        · exact .inl (by omega)
theorem cutN_le (es : List EntR) : cutN es ≤ es.length := cutL_le _ _
theorem cutN_pos {es : List EntR} (h : es ≠ []) : 1 ≤ cutN es := cutL_pos h _
theorem cutN_few (es : List EntR) : cutN es ≤ 16 := by
  unfold cutN
  rcases cutL_few es 0 with h | h <;> omega
theorem cutL_step {es : List EntR} {W k : Nat} (hk : k < es.length) : cutL W (es.drop k) = if 256 ≤ W + wgt (elt noEnt es k) then 1 else cutL (W + wgt (elt noEnt es k)) (es.drop (k + 1)) + 1 := by
  rw [drop_elt hk, cutL]
/-- The index's bytes of one block. -/
def idxB (key : List UInt8) (at_ n : Nat) : List UInt8 := ((uvar key.length ++ key) ++ uvar at_) ++ uvar n
/-- The blocks' bytes and the index's, from what is there. -/
def blkF : Nat → List EntR → List UInt8 → List UInt8 → List UInt8 × List UInt8
  | 0, _, out, idx => (out, idx)
  | f + 1, es, out, idx => if es = [] then (out, idx) else
      blkF f (es.drop (cutN es)) (out ++ sumB (encK (es.take (cutN es)))) (idx ++ idxB (eKey (elt noEnt es (cutN es - 1))) out.length (encK (es.take (cutN es))).length)
/-- The keys, each once. -/
def keysU (es : List EntR) : Nat → List (List UInt8)
  | 0 => []
  | k + 1 => if k = 0 ∨ eKey (elt noEnt es (k - 1)) ≠ eKey (elt noEnt es k) then keysU es k ++ [eKey (elt noEnt es k)] else keysU es k
theorem keysU_len (es : List EntR) : ∀ k, (keysU es k).length ≤ k := by
  intro k
  induction k with
  | zero => simp [keysU]
  | succ k ih => rw [keysU]; split <;> (try rw [List.length_append, List.length_singleton]) <;> omega
def magicB : List UInt8 := [104, 97, 108, 121, 97, 114, 100, 49]
def footB (a i n f m : Nat) : List UInt8 := (((fixB a 4 ++ fixB i 4) ++ fixB n 4) ++ fixB f 4) ++ fixB m 4
theorem footB_len (a i n f m : Nat) : (footB a i n f m).length = 20 := by simp [footB, fix4_len]
def blocksB (es : List EntR) : List UInt8 := (blkF es.length es [] []).1
def indexB (es : List EntR) : List UInt8 := (blkF es.length es [] []).2
def filtB (es : List EntR) : List UInt8 := filterB (keysU es es.length)
/-- A table's bytes. -/
def tabB (es : List EntR) : List UInt8 :=
  (((blocksB es ++ sumB (indexB es)) ++ sumB (filtB es)) ++ sumB (footB (blocksB es).length (indexB es).length (blocksB es ++ sumB (indexB es)).length (filtB es).length es.length)) ++ magicB
/-- What Build answers. -/
def TbC (es : List EntR) (E : Nat) : Prop :=
  ((es.length = 0 ∨ 4000 < es.length) ∧ E = 13) ∨ ((1 ≤ es.length ∧ es.length ≤ 4000) ∧ ¬ AllM es ∧ E = 1) ∨ ((1 ≤ es.length ∧ es.length ≤ 4000) ∧ AllM es ∧ ¬ Srt es ∧ E = 11) ∨
  ((1 ≤ es.length ∧ es.length ≤ 4000) ∧ AllM es ∧ Srt es ∧ 4194304 < (tabB es).length ∧ E = 8) ∨ ((1 ≤ es.length ∧ es.length ≤ 4000) ∧ AllM es ∧ Srt es ∧ (tabB es).length ≤ 4194304 ∧ E = 0)
def FitT (es : List EntR) : Prop := (1 ≤ es.length ∧ es.length ≤ 4000) ∧ AllM es ∧ Srt es ∧ (tabB es).length ≤ 4194304
theorem TbC.fit {es : List EntR} {E : Nat} (h : TbC es E) : E = 0 ↔ FitT es := by
  rcases h with ⟨h1, rfl⟩ | ⟨h1, h2, rfl⟩ | ⟨h1, h2, h3, rfl⟩ | ⟨h1, h2, h3, h4, rfl⟩ | ⟨h1, h2, h3, h4, rfl⟩
  · exact ⟨fun h => by omega, fun h => by have := h.1; omega⟩
  · exact ⟨fun h => by omega, fun h => absurd h.2.1 h2⟩
  · exact ⟨fun h => by omega, fun h => absurd h.2.2.1 h3⟩
  · exact ⟨fun h => by omega, fun h => by have := h.2.2.2; omega⟩
  · exact ⟨fun _ => ⟨h1, h2, h3, h4⟩, fun _ => rfl⟩
theorem TbC.unique {es : List EntR} {a b : Nat} (h : TbC es a) (k : TbC es b) : a = b := by
  rcases h with ⟨h1, rfl⟩ | ⟨h1, h2, rfl⟩ | ⟨h1, h2, h3, rfl⟩ | ⟨h1, h2, h3, h4, rfl⟩ | ⟨h1, h2, h3, h4, rfl⟩ <;> rcases k with ⟨k1, rfl⟩ | ⟨k1, k2, rfl⟩ | ⟨k1, k2, k3, rfl⟩ | ⟨k1, k2, k3, k4, rfl⟩ | ⟨k1, k2, k3, k4, rfl⟩ <;> first | rfl | omega | (exact absurd h2 k2) | (exact absurd k2 h2) | (exact absurd k3 h3) | (exact absurd h3 k3)
/-- Parts of rows in order. -/
theorem AllM.take {es : List EntR} (h : AllM es) (k : Nat) : AllM (es.take k) := fun j hj => by
  rw [List.length_take] at hj
  rw [elt_take' _ _ _ _ (by omega)]
  exact h j (by omega)
theorem AllM.drop {es : List EntR} (h : AllM es) (k : Nat) : AllM (es.drop k) := fun j hj => by
  rw [List.length_drop] at hj
  rw [elt_drop']
  exact h _ (by omega)
theorem Srt.take {es : List EntR} (h : Srt es) (k : Nat) : Srt (es.take k) := by
  rw [← List.take_append_drop k es] at h
  exact h.parts.1
theorem Srt.drop {es : List EntR} (h : Srt es) (k : Nat) : Srt (es.drop k) := by
  rw [← List.take_append_drop k es] at h
  exact h.parts.2.1
theorem fit_cut {es : List EntR} (h1 : AllM es) (h2 : Srt es) (hne : es ≠ []) : FitK (es.take (cutN es)) := by
  have a := cutN_pos hne
  have b := cutN_few es
  have c := cutN_le es
  exact ⟨by rw [List.length_take]; omega, by rw [List.length_take]; omega, h1.take _, h2.take _⟩
/-- How long a block is. -/
theorem enc_len {es : List EntR} (h : AllM es) (hne : 1 ≤ es.length) : (encK es).length ≤ es.length * 2710 := by
  have h1 := accK_len h es.length (Nat.le_refl _)
  have h2 := stK_len es es.length
  unfold encK
  rw [List.length_append, fix4_len, fixK_len, h2]
  omega
end Go.Proofs.YtkkclkknpjapcaaDoor
/-! ### TbV0 -/
namespace Go.Proofs.YtkkclkknpjapcaaDoor
open Go.RowKit
set_option linter.unusedVariables false
set_option linter.unusedSimpArgs false

theorem pre_full {key : List UInt8} {s : Int} : ∀ {l : List EntR}, (∀ x ∈ l, aheadK x key s = true) → preK key s l = l ∧ sufK key s l = []
  | [], _ => ⟨rfl, rfl⟩
  | x :: l, h => by
    obtain ⟨h1, h2⟩ := pre_full (l := l) fun y hy => h y (List.mem_cons_of_mem _ hy)
    have hx := h x List.mem_cons_self
    exact ⟨by rw [preK, if_pos hx, h1], by rw [sufK, if_pos hx, h2]⟩
theorem add_behind {L : List EntR} {k : Nat} (hs : Srt L) (hm : AllM L) (hk : k < L.length) : addE (L.take k) (elt noEnt L k) = L.take (k + 1) ∧ addR (L.take k) (elt noEnt L k) = 0 := by
  have hme : mayE (elt noEnt L k) = true := hm k hk
  have hall : ∀ x ∈ L.take k, aheadK x (eKey (elt noEnt L k)) (eSeq (elt noEnt L k)) = true := by
    intro x hx
    obtain ⟨j, hj, rfl⟩ := List.getElem_of_mem hx
    rw [List.length_take] at hj
    have h1 := hs.at_ j k (by omega) hk
    have h2 : elt noEnt L j = (L.take k)[j] := by
      rw [List.getElem_take]
      exact elt_get noEnt (by omega)
    rw [← h2]
    exact h1
  obtain ⟨h1, h2⟩ := pre_full hall
  have hh : hasE (L.take k) (elt noEnt L k) = false := by unfold hasE; rw [h2]
  unfold addE addR putE
  rw [if_pos hme, if_pos hme, hh]
  refine ⟨?_, by simp⟩
  rw [if_neg (by decide)]
  unfold insE
  rw [h1, h2, take_succ_elt noEnt hk]
end Go.Proofs.YtkkclkknpjapcaaDoor
/-! ### TbF -/
namespace Go.Proofs.YtkkclkknpjapcaaDoor
open Go.RowKit
set_option linter.unusedVariables false
set_option linter.unusedSimpArgs false

def withinB (size a n : Nat) : Bool := decide (a ≤ size ∧ n ≤ size - a ∧ 4 ≤ size - a - n)
def cutS (b : List UInt8) (a n : Nat) : List UInt8 := (b.drop a).take n
def soundB (b : List UInt8) (a n : Nat) : Bool := decide (sumOf (cutS b a n) = readU ((b.drop (a + n)).take 4))
/-- The places of an index. -/
def plcL : Nat → List UInt8 → Nat → Option (List (Nat × Nat))
  | 0, _, _ => none
  | f + 1, xs, size =>
    if xs = [] then some []
    else if (takeB xs 512).2.2 ≠ 0 then none
    else if (takeU (xs.drop (takeB xs 512).2.1)).2.2 ≠ 0 then none
    else if (takeU ((xs.drop (takeB xs 512).2.1).drop (takeU (xs.drop (takeB xs 512).2.1)).2.1)).2.2 ≠ 0 then none
    else if withinB size (takeU (xs.drop (takeB xs 512).2.1)).1 (takeU ((xs.drop (takeB xs 512).2.1).drop (takeU (xs.drop (takeB xs 512).2.1)).2.1)).1 = false then none
    else (plcL f (((xs.drop (takeB xs 512).2.1).drop (takeU (xs.drop (takeB xs 512).2.1)).2.1).drop (takeU ((xs.drop (takeB xs 512).2.1).drop (takeU (xs.drop (takeB xs 512).2.1)).2.1)).2.1) size).map
      (((takeU (xs.drop (takeB xs 512).2.1)).1, (takeU ((xs.drop (takeB xs 512).2.1).drop (takeU (xs.drop (takeB xs 512).2.1)).2.1)).1) :: ·)
/-- The blocks' entries. -/
noncomputable def rdsL : List UInt8 → List (Nat × Nat) → List EntR → Option (List EntR)
  | _, [], acc => some acc
  | b, p :: ps, acc => match decF (cutS b p.1 p.2) with
    | none => none
    | some more => if 4000 < acc.length then some acc else rdsL b ps (acc ++ more)
noncomputable def readT (b : List UInt8) (ps : List (Nat × Nat)) : Option (List EntR) := if ps.all (fun p => soundB b p.1 p.2) = true then rdsL b ps [] else none
noncomputable def fitTB (es : List EntR) : Bool := decide (1 ≤ es.length) && decide (es.length ≤ 4000) && es.all mayE && srtB es && decide ((tabB es).length ≤ 4194304)
theorem fitTB_iff (es : List EntR) : fitTB es = true ↔ FitT es := by
  unfold fitTB FitT
  simp only [Bool.and_eq_true, decide_eq_true_iff, List.all_eq_true]
  constructor
  · rintro ⟨⟨⟨⟨h1, h2⟩, h3⟩, h4⟩, h5⟩
    refine ⟨⟨h1, h2⟩, fun j hj => h3 _ (elt_mem hj), Classical.byContradiction fun hn => ?_, h5⟩
    rw [srtB_false hn] at h4
    cases h4
  · rintro ⟨⟨h1, h2⟩, h3, h4, h5⟩
    refine ⟨⟨⟨⟨h1, h2⟩, fun x hx => ?_⟩, srtB_true h4⟩, h5⟩
    obtain ⟨j, hj, rfl⟩ := List.getElem_of_mem hx
    have := h3 j hj
    rwa [elt_get noEnt hj] at this
def footOf (b : List UInt8) : List UInt8 := b.drop (b.length - 32)
def bodyOf (b : List UInt8) : List UInt8 := b.take (b.length - 32)
def numOf (b : List UInt8) (i : Nat) : Nat := readU (((footOf b).drop (4 * i)).take 4)
/-- What is asked of bytes ahead of their places. -/
def headOK (b : List UInt8) : Bool := decide (32 ≤ b.length) && decide ((footOf b).drop 24 = magicB) && soundB (footOf b) 0 20 && (withinB (bodyOf b).length (numOf b 0) (numOf b 1) && withinB (bodyOf b).length (numOf b 2) (numOf b 3)) && (soundB (bodyOf b) (numOf b 0) (numOf b 1) && soundB (bodyOf b) (numOf b 2) (numOf b 3))
noncomputable def openF (b : List UInt8) : Option (List EntR) :=
  if headOK b = true then
    match plcL (numOf b 1 + 1) (cutS (bodyOf b) (numOf b 0) (numOf b 1)) (numOf b 0) with
    | none => none
    | some ps => match readT (bodyOf b) ps with
      | none => none
      | some es => if fitTB es = true ∧ tabB es = b then some es else none
  else none
theorem openF_some {b : List UInt8} {es : List EntR} (h : openF b = some es) : headOK b = true ∧ (∃ ps, plcL (numOf b 1 + 1) (cutS (bodyOf b) (numOf b 0) (numOf b 1)) (numOf b 0) = some ps ∧ readT (bodyOf b) ps = some es) ∧ FitT es ∧ tabB es = b := by
  unfold openF at h
  split at h
  · rename_i h0
    refine ⟨h0, ?_⟩
    split at h
    · cases h
    · rename_i ps hp
      split at h
      · cases h
      · rename_i es' he
        split at h
        · rename_i hf
          have := Option.some.inj h
          subst this
          exact ⟨⟨ps, hp, he⟩, (fitTB_iff _).1 hf.1, hf.2⟩
        · cases h
  · cases h
/-! ## Cutting what was joined -/
theorem cut_mid (pre x post : List UInt8) : cutS ((pre ++ x) ++ post) pre.length x.length = x := by
  unfold cutS
  rw [List.append_assoc, drop_app, take_app]
theorem read_fix {g : Nat} (h : g < 4294967296) : readU (fixB g 4) = g := by
  have e : fixB g 4 = fixedU g 4 := rfl
  rw [e, fixed_read]
  exact Nat.mod_eq_of_lt h
theorem sound_mid (pre x post : List UInt8) : soundB ((pre ++ sumB x) ++ post) pre.length x.length = true := by
  unfold soundB
  rw [decide_eq_true_iff]
  have h1 : cutS ((pre ++ sumB x) ++ post) pre.length x.length = x := by
    have := cut_mid pre x (fixB (sumOf x) 4 ++ post)
    simpa [sumB, List.append_assoc] using this
  have h2 : (((pre ++ sumB x) ++ post).drop (pre.length + x.length)).take 4 = fixB (sumOf x) 4 := by
    have e : (pre ++ sumB x) ++ post = (pre ++ x) ++ (fixB (sumOf x) 4 ++ post) := by simp [sumB, List.append_assoc]
    rw [e, ← List.length_append, drop_app]
    have hl := fix4_len (sumOf x)
    rw [← hl, take_app]
  rw [h1, h2, read_fix (sumOf_lt x)]
/-! ## The parts of the blocks and of the index -/
def outF : Nat → List EntR → List UInt8
  | 0, _ => []
  | f + 1, es => if es = [] then [] else sumB (encK (es.take (cutN es))) ++ outF f (es.drop (cutN es))
def idxF : Nat → List EntR → Nat → List UInt8
  | 0, _, _ => []
  | f + 1, es, a => if es = [] then [] else idxB (eKey (elt noEnt es (cutN es - 1))) a (encK (es.take (cutN es))).length ++ idxF f (es.drop (cutN es)) (a + (encK (es.take (cutN es))).length + 4)
def plcF : Nat → List EntR → Nat → List (Nat × Nat)
  | 0, _, _ => []
  | f + 1, es, a => if es = [] then [] else (a, (encK (es.take (cutN es))).length) :: plcF f (es.drop (cutN es)) (a + (encK (es.take (cutN es))).length + 4)
theorem blkF_parts : ∀ (f : Nat) (es : List EntR) (out idx : List UInt8), blkF f es out idx = (out ++ outF f es, idx ++ idxF f es out.length) := by
  intro f
  induction f with
  | zero => intro es out idx; simp [blkF, outF, idxF]
  | succ f ih =>
    intro es out idx
    rw [blkF, outF, idxF]
    by_cases he : es = []
    · simp [he]
    · rw [if_neg he, if_neg he, if_neg he, ih, List.append_assoc, List.append_assoc, List.length_append, sumB_len, ← Nat.add_assoc]
theorem blocks_eq (es : List EntR) : blocksB es = outF es.length es := by unfold blocksB; rw [blkF_parts]; simp
theorem index_eq (es : List EntR) : indexB es = idxF es.length es 0 := by unfold indexB; rw [blkF_parts]; simp
theorem drop_cut_len {es : List EntR} {f : Nat} (h : es.length ≤ f + 1) (hne : es ≠ []) : (es.drop (cutN es)).length ≤ f := by
  have := cutN_pos hne
  rw [List.length_drop]
  omega
theorem drop_cut_ne {es : List EntR} (hne : es ≠ []) : (es.drop (cutN es)).length < es.length := by
  have h1 := cutN_pos hne
  have h2 : 0 < es.length := List.length_pos_iff.2 hne
  rw [List.length_drop]
  omega
theorem last_mem {es : List EntR} (h : AllM es) (hne : es ≠ []) : (eKey (elt noEnt es (cutN es - 1))).length ≤ 512 := by
  have h1 := cutN_pos hne
  have h2 := cutN_le es
  exact (mayE_cases (h (cutN es - 1) (by omega))).2.1
theorem cut_enc_len {es : List EntR} (h : AllM es) (hne : es ≠ []) : (encK (es.take (cutN es))).length ≤ cutN es * 2710 := by
  have h1 := cutN_pos hne
  have h2 := cutN_le es
  have h3 := enc_len (h.take (cutN es)) (by rw [List.length_take]; omega)
  rw [List.length_take, Nat.min_eq_left h2] at h3
  exact h3
theorem outF_len : ∀ (f : Nat) (es : List EntR), AllM es → (outF f es).length ≤ es.length * 2714 := by
  intro f
  induction f with
  | zero => intro es _; simp [outF]
  | succ f ih =>
    intro es h
    rw [outF]
    by_cases he : es = []
    · simp [he]
    · rw [if_neg he, List.length_append, sumB_len]
      have h1 := cutN_pos he
      have h2 := cutN_le es
      have h3 := cut_enc_len h he
      have h4 := ih (es.drop (cutN es)) (h.drop _)
      rw [List.length_drop] at h4
      have h5 : (es.length - cutN es) * 2714 + cutN es * 2714 = es.length * 2714 := by rw [← Nat.add_mul]; congr 1; omega
      omega
theorem idxF_len : ∀ (f : Nat) (es : List EntR) (a : Nat), AllM es → (idxF f es a).length ≤ es.length * 542 := by
  intro f
  induction f with
  | zero => intro es a _; simp [idxF]
  | succ f ih =>
    intro es a h
    rw [idxF]
    by_cases he : es = []
    · simp [he]
    · rw [if_neg he, List.length_append]
      have h1 := cutN_pos he
      have h2 := cutN_le es
      have h3 := last_mem h he
      have h4 := ih (es.drop (cutN es)) (a + (encK (es.take (cutN es))).length + 4) (h.drop _)
      rw [List.length_drop] at h4
      have u1 := uvar_len (eKey (elt noEnt es (cutN es - 1))).length
      have u2 := uvar_len a
      have u3 := uvar_len (encK (es.take (cutN es))).length
      have e : (idxB (eKey (elt noEnt es (cutN es - 1))) a (encK (es.take (cutN es))).length).length = (uvar (eKey (elt noEnt es (cutN es - 1))).length).length + (eKey (elt noEnt es (cutN es - 1))).length + (uvar a).length + (uvar (encK (es.take (cutN es))).length).length := by
        unfold idxB
        simp only [List.length_append]
      have h5 : (es.length - cutN es) * 542 + cutN es * 542 = es.length * 542 := by rw [← Nat.add_mul]; congr 1; omega
      omega
/-- The index says the places. -/
theorem plcL_idx : ∀ (f : Nat) (es : List EntR) (a size g : Nat), AllM es → es.length ≤ f → a + (outF f es).length ≤ size → size < 18446744073709551616 → (idxF f es a).length < g → plcL g (idxF f es a) size = some (plcF f es a) := by
  intro f
  induction f with
  | zero =>
    intro es a size g _ hl _ _ hg
    obtain ⟨g, rfl⟩ : ∃ g', g = g' + 1 := ⟨g - 1, by omega⟩
    rw [idxF, plcL, if_pos rfl, plcF]
  | succ f ih =>
    intro es a size g hm hl hs hs64 hg
    obtain ⟨g, rfl⟩ : ∃ g', g = g' + 1 := ⟨g - 1, by omega⟩
    by_cases he : es = []
    · rw [idxF, plcF, if_pos he, if_pos he, plcL, if_pos rfl]
    · have hk := last_mem hm he
      have ho : outF (f + 1) es = sumB (encK (es.take (cutN es))) ++ outF f (es.drop (cutN es)) := by rw [outF, if_neg he]
      have hi : idxF (f + 1) es a = idxB (eKey (elt noEnt es (cutN es - 1))) a (encK (es.take (cutN es))).length ++ idxF f (es.drop (cutN es)) (a + (encK (es.take (cutN es))).length + 4) := by rw [idxF, if_neg he]
      have hp : plcF (f + 1) es a = (a, (encK (es.take (cutN es))).length) :: plcF f (es.drop (cutN es)) (a + (encK (es.take (cutN es))).length + 4) := by rw [plcF, if_neg he]
      rw [ho, List.length_append, sumB_len] at hs
      rw [hi] at hg ⊢
      rw [hp]
      have hih := ih (es.drop (cutN es)) (a + (encK (es.take (cutN es))).length + 4) size g (hm.drop _) (drop_cut_len hl he) (by omega) hs64
      generalize eKey (elt noEnt es (cutN es - 1)) = key at *
      generalize (encK (es.take (cutN es))).length = n at *
      generalize outF f (es.drop (cutN es)) = O at *
      generalize idxF f (es.drop (cutN es)) (a + n + 4) = R at *
      generalize plcF f (es.drop (cutN es)) (a + n + 4) = Q at *
      have hx : idxB key a n ++ R = uvar key.length ++ (key ++ (uvar a ++ (uvar n ++ R))) := by unfold idxB; simp only [List.append_assoc]
      rw [List.length_append] at hg
      have hpos := uvar_pos key.length
      have hil : (idxB key a n).length = (uvar key.length).length + key.length + (uvar a).length + (uvar n).length := by unfold idxB; simp only [List.length_append]
      rw [hx]
      have t1 := takeB_put' key (uvar a ++ (uvar n ++ R)) 512 (by omega) (by omega)
      have hne : uvar key.length ++ (key ++ (uvar a ++ (uvar n ++ R))) ≠ [] := by
        intro e
        have := congrArg List.length e
        rw [List.length_append] at this
        simp only [List.length_nil] at this
        omega
      have d1 : (uvar key.length ++ (key ++ (uvar a ++ (uvar n ++ R)))).drop ((uvar key.length).length + key.length) = uvar a ++ (uvar n ++ R) := by
        rw [← List.append_assoc, ← List.length_append, drop_app]
      have t2 := takeU_uvar (g := a) (by omega) (uvar n ++ R)
      have t3 := takeU_uvar (g := n) (by omega) R
      rw [plcL, if_neg hne]
      simp only [t1, d1, t2, drop_app, t3]
      rw [if_neg (by simp), if_neg (by simp), if_neg (by simp), if_neg (by unfold withinB; simp; omega), hih (by omega)]
      rfl
/-- The blocks are sound, and read. -/
theorem plcF_sound : ∀ (f : Nat) (es : List EntR) (pre post : List UInt8), (plcF f es pre.length).all (fun p => soundB ((pre ++ outF f es) ++ post) p.1 p.2) = true := by
  intro f
  induction f with
  | zero => intro es pre post; rfl
  | succ f ih =>
    intro es pre post
    rw [plcF, outF]
    by_cases he : es = []
    · rw [if_pos he]; rfl
    · rw [if_neg he, if_neg he, List.all_cons, Bool.and_eq_true]
      have e : (pre ++ (sumB (encK (es.take (cutN es))) ++ outF f (es.drop (cutN es)))) ++ post = (pre ++ sumB (encK (es.take (cutN es)))) ++ (outF f (es.drop (cutN es)) ++ post) := by simp only [List.append_assoc]
      refine ⟨?_, ?_⟩
      · rw [e]; exact sound_mid _ _ _
      · have h := ih (es.drop (cutN es)) (pre ++ sumB (encK (es.take (cutN es)))) post
        rw [List.length_append, sumB_len, ← Nat.add_assoc] at h
        have e2 : ((pre ++ sumB (encK (es.take (cutN es)))) ++ outF f (es.drop (cutN es))) ++ post = (pre ++ (sumB (encK (es.take (cutN es))) ++ outF f (es.drop (cutN es)))) ++ post := by simp only [List.append_assoc]
        rw [← e2]
        exact h
theorem rdsL_read : ∀ (f : Nat) (es acc : List EntR) (pre post : List UInt8), AllM es → Srt es → es.length ≤ f → acc.length + es.length ≤ 4000 → rdsL ((pre ++ outF f es) ++ post) (plcF f es pre.length) acc = some (acc ++ es) := by
  intro f
  induction f with
  | zero =>
    intro es acc pre post _ _ hl _
    obtain rfl : es = [] := List.eq_nil_of_length_eq_zero (by omega)
    rw [plcF, rdsL, List.append_nil]
  | succ f ih =>
    intro es acc pre post hm hs hl hn
    by_cases he : es = []
    · subst he
      rw [plcF, if_pos rfl, rdsL, List.append_nil]
    · have hc : cutS ((pre ++ outF (f + 1) es) ++ post) pre.length (encK (es.take (cutN es))).length = encK (es.take (cutN es)) := by
        rw [outF, if_neg he]
        have := cut_mid pre (encK (es.take (cutN es))) (fixB (sumOf (encK (es.take (cutN es)))) 4 ++ (outF f (es.drop (cutN es)) ++ post))
        simpa [sumB, List.append_assoc] using this
      have hd := decF_enc (fit_cut hm hs he)
      have h1 := cutN_pos he
      have h2 := cutN_le es
      rw [plcF, if_neg he, rdsL]
      simp only
      rw [hc, hd]
      simp only
      rw [if_neg (by omega)]
      have h := ih (es.drop (cutN es)) (acc ++ es.take (cutN es)) (pre ++ sumB (encK (es.take (cutN es)))) post (hm.drop _) (hs.drop _) (drop_cut_len hl he) (by rw [List.length_append, List.length_take, List.length_drop]; omega)
      rw [List.length_append, sumB_len, ← Nat.add_assoc, List.append_assoc acc, List.take_append_drop] at h
      rw [outF, if_neg he]
      have e2 : ((pre ++ sumB (encK (es.take (cutN es)))) ++ outF f (es.drop (cutN es))) ++ post = (pre ++ (sumB (encK (es.take (cutN es))) ++ outF f (es.drop (cutN es)))) ++ post := by simp only [List.append_assoc]
      rw [← e2]
      exact h
end Go.Proofs.YtkkclkknpjapcaaDoor
