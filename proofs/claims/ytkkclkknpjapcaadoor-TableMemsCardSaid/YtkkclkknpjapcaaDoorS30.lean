/- Shared texts, part S30: TbE, TbK0, SSr, BkS, BkA. -/
import Derived.Shelf.Abstract
import Derived.StillTailTactics
import Derived.Lib.SmallJoins
import Derived.Test.YtkkclkknpjapcaaDoorS29
import Derived.Test.YtkkclkknpjapcaaDoorS26
import Derived.Test.YtkkclkknpjapcaaDoorS27
import Derived.Test.YtkkclkknpjapcaaDoorS02
import Derived.Test.YtkkclkknpjapcaaDoorS24
import Derived.Test.YtkkclkknpjapcaaDoorS18
/-! ### TbE -/
namespace Go.Proofs.YtkkclkknpjapcaaDoor
open Go.RowKit
set_option linter.unusedVariables false
set_option linter.unusedSimpArgs false

/-- All that Build answers. -/
def TBld (w w' : World) (es : List EntR) (r : Ending) : Prop := ∃ (E : Nat) (v : Value), r = .returned (.tuple #[v, .int .i64 (E : Int)]) ∧ TbC es E ∧ OB w' w.heap.size v (if E = 0 then tabB es else []) ∧ Below w.heap.size w w'
theorem ChC.of_not {es : List EntR} {E : Nat} (h : ChC es E) (hE : E ≠ 0) : TbC es E := by
  rcases h with ⟨h1, h2⟩ | ⟨h1, h2, h3⟩ | ⟨h1, h2, h3, h4⟩ | ⟨_, _, _, h4⟩
  · exact .inl ⟨h1, h2⟩
  · exact .inr (.inl ⟨h1, h2, h3⟩)
  · exact .inr (.inr (.inl ⟨h1, h2, h3, h4⟩))
  · exact absurd h4 hE
set_option maxHeartbeats 8000000 in
set_option maxRecDepth 100000 in
theorem tbuild_bad (A : Option Addr) (n c : Nat) (es : List EntR) (w : World) (h : REnts w A n es) (hc : n ≤ c) (hno : ∀ E, ChC es E → E ≠ 0) :
    Calls Tryd.prog 8 #[.slice A n c] w fun r w' => TBld w w' es r := by
  have H := hid h
  have HN := hid hno
  clear h hno
  go_enter Tryd.func8, Tryd.ntmps8
  go_wp2_with (go_at_call 27; (with_reducible refine (check_any A n c es _ H.out hc).mono ?_); rintro r w0 ⟨E0, rfl, hch, hb0⟩; have hE0 := HN.out E0 hch; have hE1 : ((E0 : Int) != 0) = true := (by simpa using hE0); have HB0 := hid hb0; have HC := hid hch; clear hch hb0)
  go_ret2
  exact ⟨E0, _, rfl, HC.out.of_not hE0, by rw [if_neg hE0]; exact OB.nil _ _, HB0.out⟩
theorem ch_cases (es : List EntR) : (∀ E, ChC es E → E ≠ 0) ∨ ((1 ≤ es.length ∧ es.length ≤ 4000) ∧ AllM es ∧ Srt es) := by
  by_cases h1 : es.length = 0 ∨ 4000 < es.length
  · left
    intro E hE
    rcases hE with ⟨_, h⟩ | ⟨h, _⟩ | ⟨h, _⟩ | ⟨h, _⟩ <;> omega
  · by_cases h2 : AllM es
    · by_cases h3 : Srt es
      · exact .inr ⟨by omega, h2, h3⟩
      · left
        intro E hE
        rcases hE with ⟨_, h⟩ | ⟨_, _, h⟩ | ⟨_, _, _, h⟩ | ⟨_, _, h, _⟩
        · omega
        · omega
        · omega
        · exact absurd h h3
    · left
      intro E hE
      rcases hE with ⟨_, h⟩ | ⟨_, _, h⟩ | ⟨_, h, _⟩ | ⟨_, h, _⟩
      · omega
      · omega
      · exact absurd h h2
      · exact absurd h h2
theorem tbuild_any (A : Option Addr) (n c : Nat) (es : List EntR) (w : World) (h : REnts w A n es) (hc : n ≤ c) :
    Calls Tryd.prog 8 #[.slice A n c] w fun r w' => TBld w w' es r := by
  have hl := h.1
  rcases ch_cases es with hno | ⟨h1, h2, h3⟩
  · exact tbuild_bad A n c es w h hc hno
  · refine (tbuild_fit A n c es w h hc (by omega) h2 h3).mono ?_
    intro r w' hb
    unfold BdF at hb
    split at hb
    · obtain ⟨rfl, hb⟩ := hb
      exact ⟨8, _, rfl, .inr (.inr (.inr (.inl ⟨h1, h2, h3, by assumption, rfl⟩))), OB.nil _ _, hb⟩
    · obtain ⟨v, rfl, ho, hb⟩ := hb
      exact ⟨0, v, rfl, .inr (.inr (.inr (.inr ⟨h1, h2, h3, by omega, rfl⟩))), ho, hb⟩
end Go.Proofs.YtkkclkknpjapcaaDoor
/-! ### TbK0 -/
namespace Go.Proofs.YtkkclkknpjapcaaDoor
open Go.RowKit
set_option linter.unusedVariables false
set_option linter.unusedSimpArgs false

/-- A table: its entries, its filter's bytes; all one's own. -/
def TabM (w : World) (base bt : Nat) (es : List EntR) (fil : List UInt8) : Prop := ∃ lv fv, w.heap[bt]? = some (.cells #[lv, fv] 76 (0, 0)) ∧ base ≤ bt ∧ ROw w base lv es ∧ OB w base fv fil
/-- What Open answers. -/
def OpnC (w w' : World) (xs : List UInt8) (r : Ending) : Prop :=
  match openF xs with
  | none => ∃ e : Int, e ≠ 0 ∧ r = .returned (.tuple #[.pointer none, .int .i64 e]) ∧ Below w.heap.size w w'
  | some es => ∃ bt, r = .returned (.tuple #[.pointer (some ⟨bt, 0, none⟩), .int .i64 0]) ∧ TabM w' w.heap.size bt es (filtB es) ∧ Below w.heap.size w w'
theorem OpnC.no {w w' : World} {xs : List UInt8} (h : openF xs = none) (e : Int) (he : e ≠ 0) (hb : Below w.heap.size w w') : OpnC w w' xs (.returned (.tuple #[.pointer none, .int .i64 e])) := by
  unfold OpnC
  rw [h]
  exact ⟨e, he, rfl, hb⟩
theorem OpnC.yes {w w' : World} {xs : List UInt8} {es : List EntR} {bt : Nat} (h : openF xs = some es) (ht : TabM w' w.heap.size bt es (filtB es)) (hb : Below w.heap.size w w') : OpnC w w' xs (.returned (.tuple #[.pointer (some ⟨bt, 0, none⟩), .int .i64 0])) := by
  unfold OpnC
  rw [h]
  exact ⟨bt, rfl, ht, hb⟩
theorem open_not {xs : List UInt8} (h : headOK xs ≠ true) : openF xs = none := by unfold openF; rw [if_neg h]
theorem open_go {xs : List UInt8} (h : headOK xs = true) : openF xs = (plcL (numOf xs 1 + 1) (cutS (bodyOf xs) (numOf xs 0) (numOf xs 1)) (numOf xs 0)).bind fun ps => (readT (bodyOf xs) ps).bind fun es => if fitTB es = true ∧ tabB es = xs then some es else none := by
  unfold openF
  rw [if_pos h]
  cases plcL (numOf xs 1 + 1) (cutS (bodyOf xs) (numOf xs 0) (numOf xs 1)) (numOf xs 0) with
  | none => rfl
  | some ps =>
    simp only [Option.bind_some]
    cases readT (bodyOf xs) ps <;> rfl
theorem head_iff {xs : List UInt8} : headOK xs = true ↔ (32 ≤ xs.length ∧ (footOf xs).drop 24 = magicB ∧ soundB (footOf xs) 0 20 = true ∧ (withinB (bodyOf xs).length (numOf xs 0) (numOf xs 1) = true ∧ withinB (bodyOf xs).length (numOf xs 2) (numOf xs 3) = true) ∧ (soundB (bodyOf xs) (numOf xs 0) (numOf xs 1) = true ∧ soundB (bodyOf xs) (numOf xs 2) (numOf xs 3) = true)) := by
  unfold headOK
  simp only [Bool.and_eq_true, decide_eq_true_iff, and_assoc]
/-- The places of an index lie within. -/
theorem plcL_in : ∀ (f : Nat) (xs : List UInt8) (size : Nat) (ps : List (Nat × Nat)), plcL f xs size = some ps → ∀ p ∈ ps, p.1 + p.2 + 4 ≤ size := by
  intro f
  induction f with
  | zero => intro xs size ps h; cases h
  | succ f ih =>
    intro xs size ps h
    by_cases h0 : xs = []
    · rw [plcL, if_pos h0] at h
      have := Option.some.inj h
      subst this
      intro p hp
      cases hp
    · by_cases h1 : (takeB xs 512).2.2 = 0
      · rw [plcL_step h0 h1 rfl] at h
        split at h
        · cases h
        · split at h
          · cases h
          · split at h
            · cases h
            · rename_i hw
              obtain ⟨qs, hq, rfl⟩ := Option.map_eq_some_iff.1 h
              intro p hp
              rcases List.mem_cons.1 hp with rfl | hp
              · exact withinB_le (by simpa using hw)
              · exact ih _ _ _ hq p hp
      · rw [plcL_bad h0 h1] at h
        cases h
theorem plcL_len : ∀ (f : Nat) (xs : List UInt8) (size : Nat) (ps : List (Nat × Nat)), plcL f xs size = some ps → ps.length ≤ f := by
  intro f
  induction f with
  | zero => intro xs size ps h; cases h
  | succ f ih =>
    intro xs size ps h
    by_cases h0 : xs = []
    · rw [plcL, if_pos h0] at h
      have := Option.some.inj h
      subst this
      simp
    · by_cases h1 : (takeB xs 512).2.2 = 0
      · rw [plcL_step h0 h1 rfl] at h
        split at h
        · cases h
        · split at h
          · cases h
          · split at h
            · cases h
            · obtain ⟨qs, hq, rfl⟩ := Option.map_eq_some_iff.1 h
              have := ih _ _ _ hq
              simp
              omega
      · rw [plcL_bad h0 h1] at h
        cases h
/-- The foot's numbers as they are read. -/
def nvU (xs : List UInt8) (k j : Nat) : Value := .int .u64 ((if j < k then numOf xs j else 0 : Nat) : Int)
def boxU (xs : List UInt8) (k : Nat) : Array Value := #[nvU xs k 0, nvU xs k 1, nvU xs k 2, nvU xs k 3, nvU xs k 4]
theorem boxU_set (xs : List UInt8) {k : Nat} (hk : k < 5) : (boxU xs k).setIfInBounds k (.int .u64 (numOf xs k : Int)) = boxU xs (k + 1) := by
  rcases (by omega : k = 0 ∨ k = 1 ∨ k = 2 ∨ k = 3 ∨ k = 4) with rfl | rfl | rfl | rfl | rfl
  all_goals rfl
theorem boxU_next {w : World} {b : Nat} {xs : List UInt8} {k : Nat} (hk : k < 5) {T : TypeId} (h : w.heap[b]? = some (.cells (boxU xs k) T (0, 0))) : (w.setCell ⟨b, k, none⟩ (.int .u64 (numOf xs k : Int))).heap[b]? = some (.cells (boxU xs (k + 1)) T (0, 0)) := by
  rw [heap_setCell_same _ _ _ _ _ _ h, boxU_set xs hk]
theorem boxU_cells {w : World} {b : Nat} {xs : List UInt8} {T : TypeId} {fr : Nat × Nat} (h : w.heap[b]? = some (.cells (boxU xs 5) T fr)) : w.cell? ⟨b, 0, none⟩ = some (.int .u64 (numOf xs 0 : Int)) ∧ w.cell? ⟨b, 1, none⟩ = some (.int .u64 (numOf xs 1 : Int)) ∧ w.cell? ⟨b, 2, none⟩ = some (.int .u64 (numOf xs 2 : Int)) ∧ w.cell? ⟨b, 3, none⟩ = some (.int .u64 (numOf xs 3 : Int)) :=
  ⟨box_at h 0 _ rfl, box_at h 1 _ rfl, box_at h 2 _ rfl, box_at h 3 _ rfl⟩
theorem box_ex {w : World} {b : Nat} {xs : List UInt8} {k : Nat} {T : TypeId} {fr : Nat × Nat} (hk : k < 5) (h : w.heap[b]? = some (.cells (boxU xs k) T fr)) : w.cell? ⟨b, k, none⟩ = some (nvU xs k k) := by
  rcases (by omega : k = 0 ∨ k = 1 ∨ k = 2 ∨ k = 3 ∨ k = 4) with rfl | rfl | rfl | rfl | rfl
  · exact box_at h 0 _ rfl
  · exact box_at h 1 _ rfl
  · exact box_at h 2 _ rfl
  · exact box_at h 3 _ rfl
  · exact box_at h 4 _ rfl
theorem numOf_lt (xs : List UInt8) (i : Nat) : numOf xs i < 4294967296 := readU_take4 _
theorem ReadC.none_ {w w' : World} {bt : Nat} {fv : Value} {er : Int} (h : ReadC w w' bt fv none er) : er ≠ 0 ∧ w.grownBy w' (some bt) := h
theorem ReadC.some_ {w w' : World} {bt : Nat} {fv : Value} {es : List EntR} {er : Int} (h : ReadC w w' bt fv (some es) er) : er = 0 ∧ ∃ lv, RdT w w' bt fv lv es := h
theorem bstr_list (xs : List UInt8) : (bstr xs).toList = xs := ByteArray.toList_mk xs
theorem magic_yes {ys : List UInt8} (h : ys = magicB) : ((bstr ys).toList == [104, 97, 108, 121, 97, 114, 100, 49]) = true ∧ ((bstr ys).toList != [104, 97, 108, 121, 97, 114, 100, 49]) = false := by
  rw [bstr_list, h]
  exact ⟨by decide, by decide⟩
theorem magic_no {ys : List UInt8} (h : ys ≠ magicB) : ((bstr ys).toList == [104, 97, 108, 121, 97, 114, 100, 49]) = false ∧ ((bstr ys).toList != [104, 97, 108, 121, 97, 114, 100, 49]) = true := by
  rw [bstr_list]
  have h1 : (ys == [104, 97, 108, 121, 97, 114, 100, 49]) = false := by rw [beq_eq_false_iff_ne]; exact h
  exact ⟨h1, by rw [bne, h1]; rfl⟩
theorem below_of_nil {w w' : World} {c : Nat} (h : w.grownBy w' (Value.slice none 0 c).ownBlock) : Below w.heap.size w w' := ⟨h.os, h.tape, h.output, h.size, fun i hi => h.block i hi (by intro e; cases e)⟩
theorem ROw.mono_ {w : World} {base base' : Nat} {v : Value} {es : List EntR} (h : ROw w base v es) (hb : base' ≤ base) : ROw w base' v es := by
  obtain ⟨V, h1, h2⟩ := h
  exact ⟨V, ⟨own_mono h1.1 hb, h1.2⟩, h2.mono fun x a hx => hx.mono hb⟩
theorem ROw.len_lt {w : World} {base : Nat} {v : Value} {es : List EntR} (h : ROw w base v es) : es.length ≤ 9223372036854775807 := by
  obtain ⟨V, h1, h2⟩ := h
  rw [← h2.1]
  rcases h1.1.2 with ⟨_, h3⟩ | ⟨_, cap, _, _, _, _, h3, h4, _⟩
  · omega
  · simp only [maxLen] at h4
    omega
end Go.Proofs.YtkkclkknpjapcaaDoor
/-! ### SSr -/
namespace Go.Proofs.YtkkclkknpjapcaaDoor
open Go.RowKit
set_option linter.unusedVariables false
set_option linter.unusedSimpArgs false

/-- What sort.Search finds: the first place at which p holds. -/
def SrC (w w' : World) (n : Nat) (p : Nat → Bool) (e : Ending) : Prop := ∃ m : Nat, e = .returned (.int .i64 (m : Int)) ∧ m ≤ n ∧ (∀ t, t < m → p t = false) ∧ (∀ t, m ≤ t → t < n → p t = true) ∧ Below w.heap.size w w'
set_option maxHeartbeats 8000000 in
set_option maxRecDepth 100000 in
theorem search_any (g : Nat) (cb : Array Value) (n : Nat) (p : Nat → Bool) (w : World) (eg : ∀ args u, (callFunc g args).run Tryd.prog u = .ok (.enter g args) u) (hsz : n < 4611686018427387904)
    (hf : ∀ (i : Nat) (u : World), Below w.heap.size w u → i < n → Calls Tryd.prog g (#[.int .i64 i] ++ cb) u fun e w' => e = .returned (.bool (p i)) ∧ Below u.heap.size u w')
    (hmono : ∀ a b, a ≤ b → b < n → p a = true → p b = true) :
    Calls Tryd.prog 58 #[.int .i64 n, .func (.func g) #[] cb] w fun e w' => SrC w w' n p e := by
  have HF := hid hf
  have HM := hid hmono
  clear hf hmono
  go_enter Tryd.func58, Tryd.ntmps58
  go_wp2
  go_loopw [5, 6] (fun a b wr => ∃ lo hi : Nat, a = .int .i64 lo ∧ b = .int .i64 hi ∧ lo ≤ hi ∧ hi ≤ n ∧ (∀ t, t < lo → p t = false) ∧ (∀ t, hi ≤ t → t < n → p t = true) ∧ Below w.heap.size w wr) (fun a b wr => (intOf b).toNat - (intOf a).toNat)
  case atStart => exact ⟨0, n, rfl, rfl, Nat.zero_le _, Nat.le_refl _, fun t ht => absurd ht (Nat.not_lt_zero _), fun t h1 h2 => by omega, Below.refl _ _⟩
  case round =>
    obtain ⟨lo, hi, rfl, rfl, hlh, hin, hlow, hhigh, hB⟩ := hrel
    have HLo := hid hlow
    have HHi := hid hhigh
    clear hlow hhigh
    by_cases hlt : lo < hi
    · have hc := HF.out ((lo + hi) / 2) wr hB (by omega)
      rw [show (((lo + hi) / 2 : Nat) : Int) = ((lo : Int) + (hi : Int)) / 2 by omega] at hc
      cases hp : p ((lo + hi) / 2) <;> rw [hp] at hc
      · have HP := hid hp
        clear hp
        go_wp2_with (go_at_fn g; refine hc.mono ?_; rintro e w' ⟨rfl, hb⟩)
        go_roundw
        case rel =>
          refine ⟨(lo + hi) / 2 + 1, hi, by rw [show ((lo : Int) + (hi : Int)) / 2 + 1 = (((lo + hi) / 2 + 1 : Nat) : Int) by omega], rfl, by omega, hin, fun t ht => ?_, HHi.out, below_then hB hb⟩
          cases h : p t with
          | false => rfl
          | true => have := HM.out t ((lo + hi) / 2) (by omega) (by omega) h; rw [HP.out] at this; cases this
        case measure => simp [intOf]; omega
      · have HP := hid hp
        clear hp
        go_wp2_with (go_at_fn g; refine hc.mono ?_; rintro e w' ⟨rfl, hb⟩)
        go_roundw
        case rel =>
          exact ⟨lo, (lo + hi) / 2, rfl, by rw [show ((lo : Int) + (hi : Int)) / 2 = (((lo + hi) / 2 : Nat) : Int) by omega], by omega, by omega, HLo.out, fun t ht htn => HM.out ((lo + hi) / 2) t ht htn HP.out, below_then hB hb⟩
        case measure => simp [intOf]; omega
    · obtain rfl : hi = lo := by omega
      go_wp2
      go_ret
      exact ⟨hi, rfl, hin, HLo.out, HHi.out, hB⟩
end Go.Proofs.YtkkclkknpjapcaaDoor
/-! ### BkS -/
namespace Go.Proofs.YtkkclkknpjapcaaDoor
open Go.RowKit
set_option linter.unusedVariables false
set_option linter.unusedSimpArgs false

end Go.Proofs.YtkkclkknpjapcaaDoor
/-! ### BkA -/
namespace Go.Proofs.YtkkclkknpjapcaaDoor
open Go.RowKit
set_option linter.unusedVariables false
set_option linter.unusedSimpArgs false

theorem rb_lit1' (w : World) (y : UInt8) (z : Int) (hz : z = y.toNat) (T : TypeId) (fr : Nat × Nat) (g : Nat) (hg : g = w.heap.size) : RB (w.alloc (.cells #[.int .u8 z] T fr)) (some ⟨g, 0, none⟩) 1 [y] := by
  subst hz hg
  exact RB.lit w [y] _ _ _ rfl (by simp)
def entX : EntR := mkEnt [97, 98] 3 false 0 [120]
theorem fit_x : FitK [entX] := by
  refine ⟨by decide, by decide, fun j hj => ?_, ordN_Srt fun i h1 h2 => by simp at h2; omega⟩
  obtain rfl : j = 0 := by simp at hj; omega
  decide
theorem enc_x : encK [entX] = [0, 2, 97, 98, 3, 0, 0, 1, 120, 0, 0, 0, 0, 0, 0, 0, 1] := by decide +kernel
theorem bstr_x : bstr [0, 2, 97, 98, 3, 0, 0, 1, 120, 0, 0, 0, 0, 0, 0, 0, 1] = ⟨#[0, 2, 97, 98, 3, 0, 0, 1, 120, 0, 0, 0, 0, 0, 0, 0, 1]⟩ := by decide +kernel
theorem rents_x (U : World) (k1 k2 g : Nat) (hg : g = U.heap.size) (h1 : RB U (some ⟨k1, 0, none⟩) 2 [97, 98]) (h2 : RB U (some ⟨k2, 0, none⟩) 1 [120]) :
    REnts (U.alloc (.cells #[.slice (some ⟨k1, 0, none⟩) 2 2, .int .i64 3, .bool false, .int .i64 0, .slice (some ⟨k2, 0, none⟩) 1 1] 29)) (some ⟨g, 0, none⟩) 1 [entX] := by
  subst hg
  have hb := heap_alloc_new U (.cells #[.slice (some ⟨k1, 0, none⟩) 2 2, .int .i64 3, .bool false, .int .i64 0, .slice (some ⟨k2, 0, none⟩) 1 1] 29)
  have hB := below_alloc' (Below.refl U.heap.size U) (.cells #[.slice (some ⟨k1, 0, none⟩) 2 2, .int .i64 3, .bool false, .int .i64 0, .slice (some ⟨k2, 0, none⟩) 1 1] 29)
  refine ⟨rfl, by omega, fun _ => ⟨_, rfl, fun j hj => ?_⟩⟩
  obtain rfl : j = 0 := by omega
  exact ⟨_, 2, 2, _, 1, 1, box_at hb 0 _ rfl, box_at hb 1 _ rfl, box_at hb 2 _ rfl, box_at hb 3 _ rfl, box_at hb 4 _ rfl, h1.below hB, h2.below hB, by omega, by omega⟩
end Go.Proofs.YtkkclkknpjapcaaDoor
