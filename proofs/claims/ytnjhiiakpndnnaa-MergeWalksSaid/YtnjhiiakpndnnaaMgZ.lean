/- Layer 16's laws: rows merged part by part: cuts of rows of rows; the plain law. -/
import Derived.Test.YtnjhiiakpndnnaaMgV
namespace Go.Proofs.Ytnjhiiakpndnnaa
open Go.RowKit
set_option linter.unusedVariables false
set_option linter.unusedSimpArgs false

theorem elemR : Try.prog.underlying 22 = some (.slice (Try.prog.elem 22)) := by kernel_rfl
theorem sizeR (w : World) : (sizeOf (Try.prog.elem 22)).run Try.prog w = .ok 1 w := by
  obtain ⟨i, hi, _, hs, _⟩ := info_parts rowinfo
  have he : Try.prog.elem 22 = 27 := by kernel_rfl
  rw [he]
  simp [sizeOf, typeInfo, hi, hs]
theorem er_take (R : List (List EntR)) (k j : Nat) (h : j < k) : er (R.take k) j = er R j := elt_take' [] R k j h
theorem er_drop (R : List (List EntR)) (k j : Nat) : er (R.drop k) j = er R (k + j) := elt_drop' [] R k j
theorem REnss.take {w : World} {A : Option Addr} {n : Nat} {R : List (List EntR)} (h : REnss w A n R) {k : Nat} (hk : k ≤ n) : REnss w A k (R.take k) := by
  refine ⟨by rw [List.length_take, h.1]; omega, by have := h.2.1; omega, fun h0 => ?_⟩
  obtain ⟨ad, e, hc⟩ := h.2.2 (by omega)
  refine ⟨ad, e, fun j hj => ?_⟩
  rw [er_take _ _ _ hj]
  exact hc j (by omega)
theorem REnss.drop {w : World} {A : Option Addr} {n : Nat} {R : List (List EntR)} (h : REnss w A n R) {k c : Nat} (hk : k ≤ n) (hc : n ≤ c) : REnss w (if c = k then A else A.map (·.add (k * 1))) (n - k) (R.drop k) := by
  refine ⟨by rw [List.length_drop, h.1], by have := h.2.1; omega, fun h0 => ?_⟩
  obtain ⟨ad, rfl, hcell⟩ := h.2.2 (by omega)
  rw [if_neg (by omega)]
  refine ⟨_, rfl, fun j hj => ?_⟩
  rw [er_drop, add_of_add, Nat.mul_one]
  exact hcell (k + j) (by omega)
theorem cutR_hi {A : Option Addr} {n c : Nat} (hc : n ≤ c) {hi : Nat} (h1 : hi ≤ n) (H : Int) (hH : H = (hi : Int)) :
    ∀ w, (Instr.slice 22 (.slice A n c) none (some (.int .i64 H)) none).run Try.prog w = .ok (.slice A hi c) w := by
  subst hH
  intro w
  rw [run_slice_h (P := Try.prog) w 22 A n c elemR .i64 hi (by omega) (by omega), sizeR]
  cases A <;> simp [sliced, Result.andThen, Addr.add]
theorem cutR_lo {A : Option Addr} {n c : Nat} (hc : n ≤ c) {lo : Nat} (h1 : lo ≤ n) (L : Int) (hL : L = (lo : Int)) :
    ∃ A2 c2, (∀ w, (Instr.slice 22 (.slice A n c) (some (.int .i64 L)) none none).run Try.prog w = .ok (.slice A2 (n - lo) c2) w) ∧ (∀ w R, REnss w A n R → REnss w A2 (n - lo) (R.drop lo)) ∧ n - lo ≤ c2 := by
  subst hL
  refine ⟨if c = lo then A else A.map (·.add (lo * 1)), c - lo, fun w => ?_, fun w R h => h.drop h1 hc, by omega⟩
  rw [run_slice_l (P := Try.prog) w 22 A n c elemR .i64 lo (by omega) (by omega), sizeR]
  simp [sliced, Result.andThen]
theorem renss3 (U : World) (A B : Option Addr) (n m c d g : Nat) (hg : g = U.heap.size) (a b : List EntR) (ha : REnts U A n a) (hb : REnts U B m b) (hc : n ≤ c) (hd : m ≤ d) :
    REnss (U.alloc (.cells #[.slice A n c, .slice none 0 0, .slice B m d] 27)) (some ⟨g, 0, none⟩) 3 [a, [], b] := by
  subst hg
  have hB := below_alloc' (Below.refl U.heap.size U) (.cells #[.slice A n c, .slice none 0 0, .slice B m d] 27)
  have hb3 := heap_alloc_new U (.cells #[.slice A n c, .slice none 0 0, .slice B m d] 27)
  refine ⟨rfl, by omega, fun _ => ⟨_, rfl, fun j hj => ?_⟩⟩
  rcases (by omega : j = 0 ∨ j = 1 ∨ j = 2) with rfl | rfl | rfl
  · exact ⟨_, n, c, box_at hb3 0 _ rfl, ha.below hB, hc⟩
  · exact ⟨_, 0, 0, box_at hb3 1 _ rfl, REnts.nil _, by omega⟩
  · exact ⟨_, m, d, box_at hb3 2 _ rfl, hb.below hB, hd⟩
/-! ## In plain terms -/
theorem twice_parts {R : List (List EntR)} {o a b : List EntR} {k : Nat} (ho : MRel R o) (ha : MRel (R.take k) a) (hb : MRel (R.drop k) b) : (a ++ b).Perm o := by
  have h := ha.perm.append hb.perm
  rw [← List.flatten_append, List.take_append_drop] at h
  exact h.trans ho.perm.symm
theorem sub_srt {a b l o : List EntR} (h : WSrt a) (ho : Srt o) (hp : (l ++ a ++ b).Perm o) : Srt a := by
  have hpo : o.Pairwise fun a b => ¬ sameE a b := (Srt.pair ho).imp fun h => ahead_not_same h
  have hpl : (l ++ a ++ b).Pairwise fun a b => ¬ sameE a b := (hp.pairwise_iff (fun {a b} h k => h (same_symm k))).2 hpo
  have hsub : a.Sublist (l ++ a ++ b) := (List.sublist_append_right l a).trans (List.sublist_append_left (l ++ a) b)
  have hpa := hpl.sublist hsub
  refine h.strict fun k h1 h2 => ?_
  rw [elt_get noEnt (by omega), elt_get noEnt h2]
  exact List.pairwise_iff_getElem.1 hpa (k - 1) k (by omega) h2 (by omega)
theorem twice_srt {R : List (List EntR)} {o a b : List EntR} {k : Nat} (hs : AllS R.length R) (ho : MRel R o) (ha : MRel (R.take k) a) (hb : MRel (R.drop k) b) (hst : Srt o) : AllS 3 [a, [], b] := by
  have hp := twice_parts ho ha hb
  have hwa : WSrt a := ha.sorted fun r hr => by
    rw [List.length_take] at hr
    rw [er_take _ _ _ (by omega)]
    exact hs r (by omega)
  have hwb : WSrt b := hb.sorted fun r hr => by
    rw [List.length_drop] at hr
    rw [er_drop]
    exact hs (k + r) (by omega)
  intro r hr
  rcases (by omega : r = 0 ∨ r = 1 ∨ r = 2) with rfl | rfl | rfl
  · show Srt a; exact sub_srt (l := []) (b := b) hwa hst (by simpa using hp)
  · exact trivial
  · show Srt b; exact sub_srt (l := a) (b := []) hwb hst (by simpa using hp)
theorem twice_eq {R : List (List EntR)} {o a b c : List EntR} {k : Nat} (hs : AllS R.length R) (ho : MRel R o) (ha : MRel (R.take k) a) (hb : MRel (R.drop k) b) (hc : MRel [a, [], b] c) (hst : Srt o) : c = o := by
  have hp := twice_parts ho ha hb
  have hcp : c.Perm o := by
    have h := hc.perm
    simp at h
    exact h.trans hp
  have hwc : WSrt c := hc.sorted fun r hr => twice_srt hs ho ha hb hst r (by simpa using hr)
  exact Srt.perm_eq (sub_srt (l := []) (b := []) hwc hst (by simpa using hcp)) hst hcp
def SmallO (l : List EntR) : Prop := ∀ e ∈ l, (eKey e).length ≤ 100000 ∧ (eVal e).length ≤ 100000
theorem SmallR.flat {R : List (List EntR)} (h : SmallR R) : SmallO R.flatten := by
  intro e he
  obtain ⟨r, hr, hy⟩ := mem_er he
  exact h r hr e hy
theorem SmallO.rows {R : List (List EntR)} (h : SmallO R.flatten) : SmallR R := by
  intro r hr e he
  refine h e (List.mem_flatten.2 ⟨er R r, ?_, he⟩)
  rw [er, elt_get [] hr]
  exact List.getElem_mem _
theorem totR_flat : ∀ (R : List (List EntR)), totR R = R.flatten.length := by
  intro R
  induction R with
  | nil => rfl
  | cons x R ih => simp [totR, ih]
theorem small_take {R : List (List EntR)} (h : SmallR R) (k : Nat) : SmallR (R.take k) ∧ SmallR (R.drop k) := by
  have hf := h.flat
  rw [← List.take_append_drop k R, List.flatten_append] at hf
  exact ⟨SmallO.rows fun e he => hf e (List.mem_append_left _ he), SmallO.rows fun e he => hf e (List.mem_append_right _ he)⟩
theorem tot_parts (R : List (List EntR)) (k : Nat) : totR (R.take k) + totR (R.drop k) = totR R := by
  rw [← totR_app, List.take_append_drop]
theorem twice_small {R : List (List EntR)} {o a b : List EntR} {k : Nat} (h : SmallR R) (ho : MRel R o) (ha : MRel (R.take k) a) (hb : MRel (R.drop k) b) : SmallR [a, [], b] := by
  refine SmallO.rows fun e he => h.flat e (ho.perm.mem_iff.1 ((twice_parts ho ha hb).mem_iff.1 ?_))
  simpa using he
theorem twice_tot {R : List (List EntR)} {o a b : List EntR} {k : Nat} (ho : MRel R o) (ha : MRel (R.take k) a) (hb : MRel (R.drop k) b) : totR [a, [], b] = totR R := by
  have h := (twice_parts ho ha hb).length_eq
  have h2 := ho.perm.length_eq
  rw [totR_flat R, ← h2, ← h]
  simp [totR]
/-- What the last merge of the parts leaves. -/
def PartsC (w w' : World) (o : List EntR) (r : Ending) : Prop := ∃ (x : Value) (e : Int), r = .returned (.tuple #[x, .int .i64 e]) ∧ (Srt o → ∃ A c, x = .slice A o.length c ∧ e = 0 ∧ REnts w' A o.length o) ∧ Below w.heap.size w w'
theorem merge_parts {R : List (List EntR)} {o a b : List EntR} {k : Nat} (A : Option Addr) (c : Nat) (w : World) (h : REnss w A 3 [a, [], b]) (hs : AllS R.length R) (hsm : SmallR R) (hf : totR R ≤ 40000) (ho : MRel R o) (ha : MRel (R.take k) a) (hb : MRel (R.drop k) b) :
    Calls Try.prog 12 #[.slice A 3 c] w fun r w' => PartsC w w' o r := by
  refine (merge_want A 3 c _ w h (by rw [twice_tot ho ha hb]; exact hf) (twice_small hsm ho ha hb)).mono ?_
  intro r w' hw
  by_cases hst : Srt o
  · obtain ⟨A4, c4, o4, rfl, hm4, hc4, hr4, hb4⟩ := hw.fine (twice_srt hs ho ha hb hst) (by omega)
    have he := twice_eq hs ho ha hb hm4 hst
    subst he
    exact ⟨_, _, rfl, fun _ => ⟨A4, c4, rfl, rfl, hr4⟩, hb4⟩
  · rcases hw with h | h | h
    · obtain ⟨hr, hb⟩ := h.2
      exact ⟨_, _, hr, fun h => absurd h hst, hb⟩
    · exact absurd h.2.1 (by omega)
    · obtain ⟨A4, c4, o4, rfl, hm4, hc4, hr4, hb4⟩ := h.2.2
      exact ⟨_, _, rfl, fun h => absurd h hst, hb4⟩
end Go.Proofs.Ytnjhiiakpndnnaa
