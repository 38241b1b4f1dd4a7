/- Shared texts, part S14: BkL, ER, BkB, BkS2, BlU, TbM, TbN, MmX. -/
import Derived.StillTailTactics
import Derived.Deep.Cut
import Derived.Test.YtkkclkknpjapcaaS07
import Derived.Test.YtkkclkknpjapcaaS13
import Derived.Test.YtkkclkknpjapcaaS03
import Derived.Test.YtkkclkknpjapcaaS02
import Derived.Test.YtkkclkknpjapcaaS10
import Derived.Test.YtkkclkknpjapcaaS04
import Derived.Test.YtkkclkknpjapcaaS08
/-! ### BkL -/
namespace Go.Proofs.Ytkkclkknpjapcaa
open Go.RowKit
set_option linter.unusedVariables false
set_option linter.unusedSimpArgs false

theorem put_mem' {l : List EntR} {e x : EntR} (h : x ∈ putE l e) : x ∈ l ∨ x = e := by
  unfold putE at h
  split at h
  · exact .inl h
  · unfold insE at h
    rw [← pre_suf (eKey e) (eSeq e) l]
    simp only [List.mem_append, List.mem_cons] at h ⊢
    rcases h with h | h | h
    · exact .inl (.inl h)
    · exact .inr h
    · exact .inl (.inr h)
theorem put_len' (l : List EntR) (e : EntR) : (putE l e).length ≤ l.length + 1 := by
  unfold putE
  split
  · omega
  · have := congrArg List.length (pre_suf (eKey e) (eSeq e) l)
    rw [List.length_append] at this
    simp only [insE, List.length_append, List.length_cons]
    omega
theorem box5 {w : World} {b : Nat} {c0 c1 c2 c3 c4 : Value} {T : TypeId} {fr : Nat × Nat} (h : w.heap[b]? = some (.cells #[c0, c1, c2, c3, c4] T fr)) : w.cell? ⟨b, 0, none⟩ = some c0 ∧ w.cell? ⟨b, 1, none⟩ = some c1 ∧ w.cell? ⟨b, 2, none⟩ = some c2 ∧ w.cell? ⟨b, 3, none⟩ = some c3 ∧ w.cell? ⟨b, 4, none⟩ = some c4 :=
  ⟨box_at h 0 _ rfl, box_at h 1 _ rfl, box_at h 2 _ rfl, box_at h 3 _ rfl, box_at h 4 _ rfl⟩
/-- A sorted row so far. -/
def SoB (w wr : World) (v : Value) (j : Nat) : Prop := ∃ (es : List EntR) (U : List (List Value)), OV wr w.heap.size 42 5 v U ∧ RelV noEnt (PER w) U es ∧ Srt es ∧ es.length ≤ j ∧ es.length ≤ 60 ∧ (∀ e ∈ es, mayE e = true) ∧ Below w.heap.size w wr
theorem SoB.below {w wr w' : World} {v : Value} {j : Nat} (h : SoB w wr v j) (hb : Below wr.heap.size wr w') : SoB w w' v j := by
  obtain ⟨es, U, h1, h2, h3, h4, h5, h6, h7⟩ := h
  exact ⟨es, U, h1.below hb, h2, h3, h4, h5, h6, below_then h7 hb⟩
theorem SoB.more {w wr : World} {v : Value} {j : Nat} (h : SoB w wr v j) : SoB w wr v (j + 1) := by
  obtain ⟨es, U, h1, h2, h3, h4, h5, h6, h7⟩ := h
  exact ⟨es, U, h1, h2, h3, by omega, h5, h6, h7⟩
/-- What sorted leaves. -/
def SrtdB (w w' : World) (r : Ending) : Prop := ∃ A c L, r = .returned (.slice A L.length c) ∧ L.length ≤ c ∧ REnts w' A L.length L ∧ Srt L ∧ AllM L ∧ L.length ≤ 60 ∧ Below w.heap.size w w'
end Go.Proofs.Ytkkclkknpjapcaa
/-! ### ER -/
namespace Go.Proofs.Ytkkclkknpjapcaa
open Go.RowKit Go.WideShapes
set_option linter.unusedVariables false
set_option linter.unusedSimpArgs false

section
variable {H : Type} {enc : TypeId × Value → H} {W : World} {base : Nat} {spare : Nat → Bool} {held : Bool}
theorem bytes_of_trod {fuel : Nat} {c : Value} {x : DataW H × List MemPlace} (h : DataW.trod enc Try.prog W base spare held fuel 25 [c] = some x) : ∃ A n cp xs, c = .slice A n cp ∧ RB W A n xs ∧ n ≤ cp := by
  have hform : ∃ A n cp, c = .slice A n cp := by
    rcases DataW.trod_slice Try.underlying25 h with ⟨h0, _⟩ | ⟨_, _, _, _, _, _, _, h0, _⟩
    · exact ⟨none, 0, 0, by simpa using h0⟩
    · exact ⟨_, _, _, by simpa using h0⟩
  obtain ⟨A, n, cp, rfl⟩ := hform
  obtain ⟨xs, h1, h2⟩ := RB_of_trod (d := x.1) (ps := x.2) Try.underlying25 Try.underlying5 (by kernel_rfl) ⟨fuel, by simpa [Value.cells] using h⟩
  exact ⟨A, n, cp, xs, rfl, h1, h2⟩
theorem cellsEn : Try.prog.cellsOf 42 = 5 := by kernel_rfl
theorem cellsB : Try.prog.cellsOf 25 = 1 := by kernel_rfl
theorem cellsL : Try.prog.cellsOf 4 = 1 := by kernel_rfl
theorem cellsI : Try.prog.cellsOf 2 = 1 := by kernel_rfl
set_option maxRecDepth 100000 in
theorem ent_of_trod {fuel : Nat} {cs : List Value} {x : DataW H × List MemPlace} (h : DataW.trod enc Try.prog W base spare held fuel 42 cs = some x) :
    ∃ Ak nk ck s g u Av nv cv key val, cs = [.slice Ak nk ck, .int .i64 s, .bool g, .int .i64 u, .slice Av nv cv] ∧ RB W Ak nk key ∧ nk ≤ ck ∧ RB W Av nv val ∧ nv ≤ cv := by
  obtain ⟨xs, n, _, rfl, hl, hlen, hf⟩ := DataW.trod_struct Try.underlying42 h
  rw [cellsEn] at hl
  match cs, hl with
  | [c0, c1, c2, c3, c4], _ =>
    match xs, hlen with
    | [y0, y1, y2, y3, y4], _ =>
      have f0 := hf 0 _ rfl
      have f1 := hf 1 _ rfl
      have f2 := hf 2 _ rfl
      have f3 := hf 3 _ rfl
      have f4 := hf 4 _ rfl
      simp only [cellsB, cellsL, cellsI, List.drop_zero, List.drop_succ_cons, List.take_succ_cons, List.take_zero, List.getElem?_cons_zero, List.getElem?_cons_succ] at f0 f1 f2 f3 f4
      obtain ⟨Ak, nk, ck, key, rfl, k1, k2⟩ := bytes_of_trod f0
      obtain ⟨s, e1, _, _⟩ := DataW.trod_int Try.underlying2 f1
      obtain ⟨g, e2, _⟩ := DataW.trod_bool Try.underlying4 f2
      obtain ⟨u, e3, _, _⟩ := DataW.trod_int Try.underlying2 f3
      obtain ⟨Av, nv, cv, val, rfl, v1, v2⟩ := bytes_of_trod f4
      cases e1
      cases e2
      cases e3
      exact ⟨Ak, nk, ck, s, g, u, Av, nv, cv, key, val, rfl, k1, k2, v1, v2⟩
set_option maxRecDepth 100000 in
theorem REnts_of_trod {A : Option Addr} {len cap : Nat} {d : DataW H} {ps : List MemPlace} (h : DataW.Trod enc Try.prog W base spare held 22 (.slice A len cap) d ps) : ∃ es, REnts W A len es ∧ len ≤ cap := by
  obtain ⟨fuel, h⟩ := h
  rcases Go.Deep.open_slice Try.underlying22 h with ⟨hcs, _⟩ | ⟨a, l, cp, m, n, D, Pl, hcs, _, hl, hm, hmm, _, hcell⟩
  · simp only [Value.cells, List.cons.injEq, and_true, Value.slice.injEq] at hcs
    obtain ⟨rfl, rfl, rfl⟩ := hcs
    exact ⟨[], REnts.nil _, Nat.le_refl _⟩
  · simp only [Value.cells, List.cons.injEq, and_true, Value.slice.injEq] at hcs
    obtain ⟨rfl, rfl, rfl⟩ := hcs
    have hl2 : len ≤ m := by
      rw [hmm]
      split
      · exact hl
      · exact Nat.le_refl _
    have each : ∀ j, ∃ o : EntR, j < len → EnC W (a.add (j * 5)) o := by
      intro j
      by_cases hj : j < len
      · obtain ⟨cs', h1, h2⟩ := hcell j (by omega)
        rw [cellsEn] at h1
        obtain ⟨_, _, hc⟩ := World.cells?_some h1
        obtain ⟨Ak, nk, ck, s, g, u, Av, nv, cv, key, val, rfl, k1, k2, v1, v2⟩ := ent_of_trod h2
        have c0 := hc 0 (by omega)
        have c1 := hc 1 (by omega)
        have c2 := hc 2 (by omega)
        have c3 := hc 3 (by omega)
        have c4 := hc 4 (by omega)
        have hsp := spot_of c0
        generalize a.add (j * 5) = ad at *
        obtain ⟨b, o, sp⟩ := ad
        simp only at hsp
        subst hsp
        rw [add_plain] at c0 c1 c2 c3 c4
        exact ⟨mkEnt key s g u val, fun _ => ⟨Ak, nk, ck, Av, nv, cv, c0, c1, c2, c3, c4, k1, v1, k2, v2⟩⟩
      · exact ⟨noEnt, fun h => absurd h hj⟩
    obtain ⟨F, hF⟩ := Classical.axiomOfChoice each
    refine ⟨(List.range len).map F, ⟨by simp, by simp only [maxLen] at hm; omega, fun _ => ⟨_, rfl, fun j hj => ?_⟩⟩, hl⟩
    have e : elt noEnt ((List.range len).map F) j = F j := by simp [elt, hj]
    rw [e]
    exact hF j hj
end
end Go.Proofs.Ytkkclkknpjapcaa
/-! ### BkB -/
namespace Go.Proofs.Ytkkclkknpjapcaa
open Go.RowKit
set_option linter.unusedVariables false
set_option linter.unusedSimpArgs false

theorem back_mod (z : Int) (m : Nat) (hm : 1 ≤ m ∧ m ≤ 4000000) (hz : -9223372036854775808 ≤ z ∧ z ≤ 9223372036854775807) : ∃ p : Nat, p < m ∧ (wrap64 (z.tmod m + m)).tmod m = (p : Int) := by
  have h1 := Int.tmod_lt_of_pos z (show (0 : Int) < m by omega)
  have h2 := Int.lt_tmod_of_pos z (show (0 : Int) < m by omega)
  generalize z.tmod m = t at *
  have e1 : wrap64 (t + m) = t + m := by unfold wrap64; omega
  have h3 : (t + m).tmod m = (t + m) % m := Int.tmod_eq_emod_of_nonneg (by omega)
  have h4 := Int.emod_nonneg (t + m) (show (m : Int) ≠ 0 by omega)
  have h5 := Int.emod_lt_of_pos (t + m) (show (0 : Int) < m by omega)
  rw [e1, h3]
  exact ⟨((t + m) % m).toNat, by omega, by omega⟩
theorem enc_size {es : List EntR} (h : FitK es) (h60 : es.length ≤ 60) : 8 ≤ (encK es).length ∧ (encK es).length ≤ 1000000 := by
  have hl := accK_len h.2.2.1 es.length (Nat.le_refl _)
  have hs := stK_len es es.length
  have h1 := h.1
  unfold encK
  rw [List.length_append, fix4_len, fixK_len, hs]
  have h2 : es.length * 2700 ≤ 162000 := Nat.mul_le_mul_right 2700 h60
  omega
/-- Decode of what Encode leaves. -/
theorem decode_enc (A : Option Addr) (n c : Nat) (es : List EntR) (w : World) (h : RB w A n (encK es)) (hc : n ≤ c) (hsz : n ≤ 100000000000) (hf : FitK es) :
    Calls Try.prog 77 #[.slice A n c] w fun r w' => ∃ A2 c2, r = .returned (.tuple #[.slice A2 es.length c2, .int .i64 0]) ∧ REnts w' A2 es.length es ∧ es.length ≤ c2 ∧ Below w.heap.size w w' := by
  refine (decode_any A n c (encK es) w h hc hsz).mono ?_
  intro r w' hd
  unfold DecC at hd
  rw [decF_enc hf] at hd
  obtain ⟨v, rfl, hr, hb⟩ := hd
  obtain ⟨A2, c2, rfl, hc2, hr2⟩ := hr.len (by have := hf.2.1; omega)
  exact ⟨A2, c2, rfl, hr2, hc2, hb⟩
/-- Decode of any bytes: what it tells is what was encoded to them. -/
def DecB (w w' : World) (xs : List UInt8) (r : Ending) : Prop := (∃ v, ∃ e : Int, e ≠ 0 ∧ r = .returned (.tuple #[v, .int .i64 e]) ∧ Below w.heap.size w w') ∨ (∃ A c es, r = .returned (.tuple #[.slice A es.length c, .int .i64 0]) ∧ REnts w' A es.length es ∧ FitK es ∧ encK es = xs ∧ Below w.heap.size w w')
theorem decode_back (A : Option Addr) (n c : Nat) (xs : List UInt8) (w : World) (h : RB w A n xs) (hc : n ≤ c) (hsz : n ≤ 100000000000) :
    Calls Try.prog 77 #[.slice A n c] w fun r w' => DecB w w' xs r := by
  refine (decode_any A n c xs w h hc hsz).mono ?_
  intro r w' hd
  unfold DecC at hd
  cases hx : decF xs with
  | none =>
    rw [hx] at hd
    obtain ⟨⟨e, he, rfl⟩, hb⟩ := hd
    exact .inl ⟨_, e, he, rfl, hb⟩
  | some es =>
    rw [hx] at hd
    obtain ⟨v, rfl, hr, hb⟩ := hd
    obtain ⟨hf, he⟩ := decF_some hx
    obtain ⟨A2, c2, rfl, hc2, hr2⟩ := hr.len (by have := hf.2.1; omega)
    exact .inr ⟨A2, c2, es, rfl, hr2, hf, he, hb⟩
end Go.Proofs.Ytkkclkknpjapcaa
/-! ### BkS2 -/
namespace Go.Proofs.Ytkkclkknpjapcaa
open Go.RowKit
set_option linter.unusedVariables false
set_option linter.unusedSimpArgs false

theorem addr_zero' (a : Addr) : a.add 0 = a := by simp [Addr.add]
theorem u8_not5 {w : World} {b : Nat} (hz : w.heap[b]? = some (.cells #[.slice none 0 0, .int .i64 0, .bool false, .int .i64 0, .slice none 0 0] 42 (0, 0))) {q : Addr} {x : Int} (hc : w.cell? q = some (.int .u8 x)) : q.block ≠ b := by
  intro e
  obtain ⟨bl, of, sp⟩ := q
  have hsp : sp = none := spot_of (ad := ⟨bl, of, sp⟩) (by rw [addr_zero']; exact hc)
  subst hsp
  change bl = b at e
  subst e
  rw [cell_of_row _ _ _ _ _ _ hz] at hc
  match of, hc with
  | 0, hc => cases hc
  | 1, hc => cases hc
  | 2, hc => cases hc
  | 3, hc => cases hc
  | 4, hc => cases hc
  | of + 5, hc => simp at hc
theorem RB.other5 {w w' : World} {A : Option Addr} {n b : Nat} {xs : List UInt8} (h : RB w A n xs) (hg : w.grownBy w' (some b)) (hz : w.heap[b]? = some (.cells #[.slice none 0 0, .int .i64 0, .bool false, .int .i64 0, .slice none 0 0] 42 (0, 0))) : RB w' A n xs := by
  refine h.keep fun ad _ j _ hc => ?_
  refine hg.cell hc ?_
  intro e
  exact u8_not5 hz hc (Option.some.inj e)
/-- The first place that is not ahead of a key and a number. -/
def PosA (L : List EntR) (key : List UInt8) (s : Int) (m : Nat) : Prop := m ≤ L.length ∧ (∀ t, t < m → aheadK (elt noEnt L t) key s = true) ∧ (∀ t, m ≤ t → t < L.length → aheadK (elt noEnt L t) key s = false)
theorem PosA.unique {L : List EntR} {key : List UInt8} {s : Int} {m k : Nat} (h : PosA L key s m) (hk : k ≤ L.length) (h1 : ∀ t, t < k → aheadK (elt noEnt L t) key s = true) (h2 : k < L.length → aheadK (elt noEnt L k) key s = false) : m = k := by
  rcases Nat.lt_trichotomy k m with h3 | h3 | h3
  · have a := h.2.1 k h3
    have b := h2 (by have := h.1; omega)
    rw [a] at b; cases b
  · exact h3.symm
  · have a := h1 m h3
    have b := h.2.2 m (Nat.le_refl _) (by omega)
    rw [a] at b; cases b
theorem ahead_mono {L : List EntR} (hs : Srt L) {key : List UInt8} {s : Int} {a b : Nat} (h1 : a ≤ b) (h2 : b < L.length) (h : (!aheadK (elt noEnt L a) key s) = true) : (!aheadK (elt noEnt L b) key s) = true := by
  rcases Nat.eq_or_lt_of_le h1 with h3 | h3
  · rw [← h3]; exact h
  · cases hq : aheadK (elt noEnt L b) key s
    · rfl
    · rw [ahead_trans (hs.at_ a b h3 h2) hq] at h
      cases h
def BkSeekC (w w' : World) (L : List EntR) (key : List UInt8) (s : Int) (r : Ending) : Prop := ∃ m, PosA L key s m ∧ Below w.heap.size w w' ∧
  ((m < L.length ∧ ∃ Ak nk ck Av nv cv, r = .returned (.tuple #[.agg #[.slice Ak nk ck, .int .i64 (eSeq (elt noEnt L m)), .bool (eGone (elt noEnt L m)), .int .i64 (eTil (elt noEnt L m)), .slice Av nv cv], .bool true]) ∧ RB w' Ak nk (eKey (elt noEnt L m)) ∧ RB w' Av nv (eVal (elt noEnt L m))) ∨
   (m = L.length ∧ r = .returned (.tuple #[.agg #[.slice none 0 0, .int .i64 0, .bool false, .int .i64 0, .slice none 0 0], .bool false])))
end Go.Proofs.Ytkkclkknpjapcaa
/-! ### BlU -/
namespace Go.Proofs.Ytkkclkknpjapcaa
open Go.RowKit
set_option linter.unusedVariables false
set_option linter.unusedSimpArgs false

theorem probesL_nat {xs : List UInt8} {M : Nat} (hM : 0 < M) : probesL xs (M : Int) = probesI (hashN xs) M 6 := by
  unfold probesL
  rw [if_neg (by omega)]
  rfl
set_option maxHeartbeats 8000000 in
set_option maxRecDepth 100000 in
theorem filter_any (A : Option Addr) (n c : Nat) (xss : List (List UInt8)) (w : World) (h : RBs w A n xss) (hn : n ≤ 100000) :
    Calls Try.prog 30 #[.slice A n c] w fun e w' => ∃ v, e = .returned v ∧ OB w' w.heap.size v (filterB xss) ∧ Below w.heap.size w w' := by
  have hl := h.1
  obtain ⟨S, hS⟩ : ∃ S, S = sizeF n := ⟨_, rfl⟩
  have hS8 : 8 ≤ S ∧ S ≤ 125001 := by rw [hS]; unfold sizeF; split <;> omega
  have hF : filterB xss = fillUpto xss (8 * S) S n := by unfold filterB; rw [hl, ← hS]
  rw [hF]
  have hmk : ∀ u : World, (Instr.makeSlice 25 (.int .i64 (S : Int)) (.int .i64 (S : Int))).run Try.prog u = .ok (.slice (some ⟨u.heap.size, 0, none⟩) S S) (u.alloc (.cells (madeCells #[.int .u8 0] S) 5)) := fun u => by
    obtain ⟨i, hi, hz0, hz1, hz2⟩ := info_parts u8info
    have h := run_make (P := Try.prog) u 25 5 i (.int .u8 0) Try.underlying25 hi hz0 .i64 .i64 (S : Int) (S : Int) (by omega) (Int.le_refl _) (by rw [hz2]; omega) (by omega)
    simpa [hz1, Value.cells] using h
  have hSz : ∃ E E8 : Int, E = (S : Int) ∧ E8 = ((8 * S : Nat) : Int) ∧ ((10 * n ≤ 64 ∧ E = 8 ∧ E8 = 64) ∨ (64 < 10 * n ∧ E = (10 * (n : Int) + 7) / 8 ∧ E8 = (10 * (n : Int) + 7) / 8 * 8)) := by
    refine ⟨(S : Int), _, rfl, rfl, ?_⟩
    rw [hS]
    unfold sizeF
    by_cases hb : 64 < 10 * n
    · rw [if_pos hb]; exact .inr ⟨hb, by omega, by omega⟩
    · rw [if_neg hb]; exact .inl ⟨by omega, by omega, by omega⟩
  obtain ⟨E, E8, hE, hE8, hcase⟩ := hSz
  rw [← hE] at hmk
  obtain ⟨M, hM⟩ : ∃ M, M = 8 * S := ⟨_, rfl⟩
  rw [← hM] at hE8 ⊢
  have HE8 := hid hE8
  have hM0 : 0 < M := by omega
  have hM64 : M < 18446744073709551616 := by omega
  have hS64 := u64_in S (by omega)
  have hM64i : IntKind.u64.wrap ((S : Int) * 8) = (M : Int) := by rw [IntKind.wrap_u64]; omega
  have H := hid h
  have HM := hid hM
  clear hS hF hE hE8 h hl hM
  rcases hcase with ⟨hb, rfl, rfl⟩ | ⟨hb, rfl, rfl⟩
  all_goals
    have hb' : (64 : Int) < 10 * (n : Int) ↔ 64 < 10 * n := by omega
    go_enter Try.func30, Try.ntmps30
    go_wp2
    go_loopw [21] (fun i wr => ∃ k : Nat, k ≤ n ∧ i = .int .i64 k ∧ OB wr w.heap.size (.slice (some ⟨w.heap.size, 0, none⟩) S S) (fillUpto xss M S k) ∧ Below w.heap.size w wr) (fun i wr => n - (intOf i).toNat)
    case atStart => exact ⟨0, Nat.zero_le _, rfl, OB.zeros _ _ _ (Nat.le_refl _) (by omega), below_alloc' (Below.refl _ _) _⟩
    case round =>
      obtain ⟨k, hk, rfl, hown, hB⟩ := hrel
      by_cases hlt : k < n
      · obtain ⟨ad, rfl, Aj, nj, cj, hcell, hrb, hle⟩ := H.out.at_ hlt
        have hcell2 := below_cell hB hcell
        obtain ⟨h0, hh0⟩ : ∃ h, h = hashN (elt [] xss k) := ⟨_, rfl⟩
        have HH0 := hid hh0
        clear hh0 hcell
        go_wp2_with (go_at_call 64; (with_reducible refine (refprobes_any Aj nj cj _ _ _ (hrb.below hB) (by have := HE8.out; omega)).mono ?_); rintro e w1 ⟨v1, rfl, howni, hb1⟩; rw [HE8.out, probesL_nat hM0, ← HH0.out] at howni; obtain ⟨g1, d1, rfl, hg1, _, _⟩ := howni.form 6 (probesI_len _ _ _) (by omega))
        have hown1 := hown.below hb1
        have hB1 := below_then hB hb1
        have hcells : ∀ j, j < 6 → w1.cell? ⟨g1, j, none⟩ = some (.int .i64 (place h0 M j : Int)) := fun j hj => by
          have := howni.cell (probesI_len _ _ _) hj
          rw [probesI_at hj] at this
          exact this
        have hne : g1 ≠ w.heap.size := by
          obtain ⟨cur, hcur⟩ := hown.blk
          have := (Array.getElem?_eq_some_iff.1 hcur).1
          omega
        clear hown hB hb1 hcell2 howni
        go_loopw [29] (fun i wr2 => ∃ j : Nat, j ≤ 6 ∧ i = .int .i64 j ∧ OB wr2 w.heap.size (.slice (some ⟨w.heap.size, 0, none⟩) S S) (addUpto (fillUpto xss M S k) M h0 j) ∧ Below w.heap.size w wr2 ∧ ∀ j, j < 6 → wr2.cell? ⟨g1, j, none⟩ = some (.int .i64 (place h0 M j : Int))) (fun i wr2 => 6 - (intOf i).toNat)
        case atStart => exact ⟨0, by omega, rfl, hown1, hB1, hcells⟩
        case round =>
          clear hown1 hB1 hcells
          obtain ⟨j, hj, rfl, hown2, hB2, hcs⟩ := hrel
          by_cases hlt6 : j < 6
          · have hpl := place_lt (h := h0) j hM0
            have hix := hcs j hlt6
            have HCS := hid hcs
            clear hcs
            obtain ⟨P, hP⟩ : ∃ P, P = place h0 M j := ⟨_, rfl⟩
            rw [← hP] at hix hpl
            have HPP := hid hP
            clear hP
            have hP8 : P / 8 < S := by have := HM.out; omega
            have k0 := hown2.cell (j := P / 8) hP8
            have f0 := hown2.frozen (P / 8)
            have hP9 : (P : Int) ≤ 1000008 := by have := HM.out; omega
            have hmod64 : IntKind.u64.wrap ((P : Int) % 8) = (P : Int) % 8 := by rw [IntKind.wrap_u64]; omega
            have hor := or_bit' (bAt_lt (addUpto (fillUpto xss M S k) M h0 j) (P / 8)) (show P % 8 < 8 by omega)
            have HO := hid hor
            clear hor
            go_wp2
            go_roundw
            case rel => exact ⟨j + 1, by omega, by go_num, by rw [addUpto, ← HPP.out]; exact hown2.set (P / 8) _ HO.out, hB2.setCell (Nat.le_refl _) _, fun i hi => by rw [World.cell?_setCell_other _ _ _ _ (by intro e; injection e with e1; exact hne e1.symm)]; exact HCS.out i hi⟩
            case measure => simp [intOf]; omega
          · obtain rfl : j = 6 := by omega
            go_wp2
            go_roundw
            case rel => exact ⟨k + 1, by omega, by go_num, by rw [HH0.out] at hown2; exact hown2, hB2⟩
            case measure => simp [intOf]; omega
      · obtain rfl : k = n := by omega
        go_wp2
        go_ret
        exact ⟨_, rfl, hown, hB⟩
end Go.Proofs.Ytkkclkknpjapcaa
/-! ### TbM -/
namespace Go.Proofs.Ytkkclkknpjapcaa
open Go.RowKit
set_option linter.unusedVariables false
set_option linter.unusedSimpArgs false

set_option maxHeartbeats 16000000 in
set_option maxRecDepth 100000 in
theorem town_any (Ak : Option Addr) (nk ck : Nat) (key : List UInt8) (s : Int) (g : Bool) (u : Int) (Av : Option Addr) (nv cv : Nat) (val : List UInt8) (w : World) (hk : RB w Ak nk key) (hv : RB w Av nv val) (h1 : nk ≤ 140737488355328) (h2 : nv ≤ 140737488355328) :
    Calls Try.prog 61 #[.agg #[.slice Ak nk ck, .int .i64 s, .bool g, .int .i64 u, .slice Av nv cv]] w fun e w' => ∃ kv vv, e = .returned (.agg #[kv, .int .i64 s, .bool g, .int .i64 u, vv]) ∧ OB w' w.heap.size kv key ∧ OB w' w.heap.size vv val ∧ Below w.heap.size w w' := by
  have hnk := hk.1
  have hnv := hv.1
  have e0 : (w.alloc (.cells #[.slice Ak nk ck, .int .i64 s, .bool g, .int .i64 u, .slice Av nv cv] 42)).heap.size = w.heap.size + 1 := by simp
  have hbx := blk_below (below_alloc' (Below.refl _ _) (.cells #[.slice none 0 0, .int .i64 0, .bool false, .int .i64 0, .slice none 0 0] 42)) (heap_alloc_new w (.cells #[.slice Ak nk ck, .int .i64 s, .bool g, .int .i64 u, .slice Av nv cv] 42))
  have hrx := heap_alloc_new (w.alloc (.cells #[.slice Ak nk ck, .int .i64 s, .bool g, .int .i64 u, .slice Av nv cv] 42)) (.cells #[.slice none 0 0, .int .i64 0, .bool false, .int .i64 0, .slice none 0 0] 42)
  rw [e0] at hrx
  have hB0 : Below w.heap.size w ((w.alloc (.cells #[.slice Ak nk ck, .int .i64 s, .bool g, .int .i64 u, .slice Av nv cv] 42)).alloc (.cells #[.slice none 0 0, .int .i64 0, .bool false, .int .i64 0, .slice none 0 0] 42)) := below_alloc' (below_alloc' (Below.refl _ _) _) _
  have hk0 := (hk.alloc (.cells #[.slice Ak nk ck, .int .i64 s, .bool g, .int .i64 u, .slice Av nv cv] 42)).alloc (.cells #[.slice none 0 0, .int .i64 0, .bool false, .int .i64 0, .slice none 0 0] 42)
  clear hk
  go_enter Try.func61, Try.ntmps61
  go_wp2_with (first
    | (at_builtin; go_loud (refine wpB_append w _ w.heap.size rfl _ (.tmp 4) rfl (.slice none 0 0) [] rfl (OB.nil _ _) Ak nk ck key rfl hk0 (by simp; omega) hB0 hB0.size ?_); intro v1 w1 hown1 hB1 hg1 _; rw [List.nil_append] at hown1; obtain ⟨A1, c1, rfl, _, _⟩ := hown1.openN nk hnk; have hg1 := below_of_none hg1; have hbx1 := blk_below hg1 hbx; have hrx1 := blk_below hg1 hrx; have q1 := box_at hbx1 0 (.slice Ak nk ck) rfl; have f1 := fun i => frozen_of_row w1 w.heap.size i _ _ hbx1; have gs1 := grown_set w1 w.heap.size 0 (.slice A1 nk c1); have hbx2 := heap_setCell_same w1 w.heap.size 0 _ _ (.slice A1 nk c1) hbx1; have hrx2 := blk_grown' gs1 hrx1 (by intro e; have := Option.some.inj e; omega); have hB2 : Below w.heap.size w (w1.setCell ⟨w.heap.size, 0, none⟩ (.slice A1 nk c1)) := hB1.setCell (Nat.le_refl _) _; have hown2 := hown1.other gs1 (.inr (hown1.ne_blk hbx1 (by decide))); have hv2 := hv.below hB2; have q2 := box_at hbx2 4 (.slice Av nv cv) rfl)
    | (at_builtin; go_loud (refine wpB_append w _ w.heap.size rfl _ (.tmp 8) rfl (.slice none 0 0) [] rfl (OB.nil _ _) Av nv cv val rfl hv2 (by simp; omega) hB2 hB2.size ?_); intro v3 w3 hown3 hB3 hg3 _; rw [List.nil_append] at hown3; obtain ⟨A3, c3, rfl, _, _⟩ := hown3.openN nv hnv; have hg3 := below_of_none hg3; have hbx3 := blk_below hg3 hbx2; have hrx3 := blk_below hg3 hrx2; have hown4 := hown2.below hg3; have q3 := box_at hbx3 4 (.slice Av nv cv) rfl; have f3 := fun i => frozen_of_row w3 w.heap.size i _ _ hbx3; have gs3 := grown_set w3 w.heap.size 4 (.slice A3 nv c3); have hbx4 := heap_setCell_same w3 w.heap.size 4 _ _ (.slice A3 nv c3) hbx3; have hrx4 := blk_grown' gs3 hrx3 (by intro e; have := Option.some.inj e; omega); have hB4 : Below w.heap.size w (w3.setCell ⟨w.heap.size, 4, none⟩ (.slice A3 nv c3)) := hB3.setCell (Nat.le_refl _) _; have hown5 := hown4.other gs3 (.inr (hown4.ne_blk hbx3 (by decide))); have hown6 := hown3.other gs3 (.inr (hown3.ne_blk hbx3 (by decide))); have r0 := box_at hbx4 0 (.slice A1 nk c1) rfl; have r1 := box_at hbx4 1 (.int .i64 s) rfl; have r2 := box_at hbx4 2 (.bool g) rfl; have r3 := box_at hbx4 3 (.int .i64 u) rfl; have r4 := box_at hbx4 4 (.slice A3 nv c3) rfl; have z0 := box_at hrx4 0 (.slice none 0 0) rfl; have z1 := box_at hrx4 1 (.int .i64 0) rfl; have z2 := box_at hrx4 2 (.bool false) rfl; have z3 := box_at hrx4 3 (.int .i64 0) rfl; have z4 := box_at hrx4 4 (.slice none 0 0) rfl; have f4 := fun i => frozen_of_row _ (w.heap.size + 1) i _ _ hrx4))
  have hfin := set5 (.slice A1 nk c1) (.int .i64 s) (.bool g) (.int .i64 u) (.slice A3 nv c3) hrx4
  have hgf := grown_set5 (w3.setCell ⟨w.heap.size, 4, none⟩ (.slice A3 nv c3)) (w.heap.size + 1) (.slice A1 nk c1) (.int .i64 s) (.bool g) (.int .i64 u) (.slice A3 nv c3)
  refine bodyPost_ret (v := .agg #[.slice A1 nk c1, .int .i64 s, .bool g, .int .i64 u, .slice A3 nv c3]) (results_cell_row (P := Try.prog) (fn := Try.f61) (p := 2) (ty := 42) rfl _ _ (w.heap.size + 1) 42 _ (0, 0) _ rfl hfin Try.underlying42 rfl entry5) rfl ⟨_, _, rfl, ?_, ?_, ?_⟩
  · exact hown5.other hgf (.inr (hown5.ne_blk hrx4 (by decide)))
  · exact hown6.other hgf (.inr (hown6.ne_blk hrx4 (by decide)))
  · exact hB4.grown hgf hB4.size (fun k hk => by cases hk; omega)

/-- A table that is read. -/
def TabR (w : World) (bt : Nat) (es : List EntR) (fil : List UInt8) : Prop := ∃ A n c Af m cf, w.heap[bt]? = some (.cells #[.slice A n c, .slice Af m cf] 81 (0, 0)) ∧ REnts w A n es ∧ n ≤ c ∧ RB w Af m fil ∧ m ≤ cf
theorem TabM.reads {w : World} {base bt : Nat} {es : List EntR} {fil : List UInt8} (h : TabM w base bt es fil) : TabR w bt es fil := by
  obtain ⟨lv, fv, h1, _, h2, h3⟩ := h
  obtain ⟨A, c, rfl, hc, hr⟩ := h2.len h2.len_lt
  obtain ⟨Af, cf, rfl, hrf, hcf⟩ := h3.open_
  exact ⟨A, _, c, Af, _, cf, h1, hr, hc, hrf, hcf⟩
theorem TabR.below {w w' : World} {bt : Nat} {es : List EntR} {fil : List UInt8} (h : TabR w bt es fil) (hb : Below w.heap.size w w') : TabR w' bt es fil := by
  obtain ⟨A, n, c, Af, m, cf, h1, h2, h3, h4, h5⟩ := h
  exact ⟨A, n, c, Af, m, cf, blk_below hb h1, h2.below hb, h3, h4.below hb, h5⟩
set_option maxHeartbeats 4000000 in
set_option maxRecDepth 100000 in
theorem tlen_any (bt : Nat) (es : List EntR) (fil : List UInt8) (w : World) (h : TabR w bt es fil) :
    Calls Try.prog 19 #[.pointer (some ⟨bt, 0, none⟩)] w fun r w' => r = .returned (.int .i64 (es.length : Int)) ∧ w = w' := by
  obtain ⟨A, n, c, Af, m, cf, h1, h2, _⟩ := h
  have q0 := box_at h1 0 _ rfl
  have HL := hid h2.1
  clear h1 h2
  go_enter Try.func19, Try.ntmps19
  go_wp2
  go_ret
  exact ⟨by rw [HL.out]; rfl, rfl⟩
set_option maxHeartbeats 4000000 in
set_option maxRecDepth 100000 in
theorem tmay_any (bt : Nat) (es : List EntR) (fil : List UInt8) (Ar : Option Addr) (nr cr : Nat) (key : List UInt8) (w : World) (h : TabR w bt es fil) (hk : RB w Ar nr key) :
    Calls Try.prog 28 #[.pointer (some ⟨bt, 0, none⟩), .slice Ar nr cr] w fun r w' => r = .returned (.bool (hasB fil key)) ∧ Below w.heap.size w w' := by
  obtain ⟨A, n, c, Af, m, cf, h1, _, _, h4, _⟩ := h
  have q1 := box_at h1 1 _ rfl
  have H4 := hid h4
  have HK := hid hk
  clear h1 h4 hk
  go_enter Try.func28, Try.ntmps28
  go_wp2_with (go_at_call 63; (with_reducible refine (has_any Af m cf fil Ar nr cr key _ H4.out HK.out).mono ?_); rintro e w1 ⟨rfl, hb1⟩)
  go_ret
  exact ⟨rfl, hb1⟩
theorem run_field0 (kv vv : Value) (a b d : Value) (w : World) : (Instr.field 42 (.agg #[kv, a, b, d, vv]) 0).run Try.prog w = .ok kv w := by kernel_rfl
/-- What Least and Most answer. -/
def KeyA (w w' : World) (key : List UInt8) (r : Ending) : Prop := ∃ A n c, r = .returned (.slice A n c) ∧ RB w' A n key ∧ n ≤ c ∧ Below w.heap.size w w'
set_option maxHeartbeats 8000000 in
set_option maxRecDepth 100000 in
theorem tleast_any (bt : Nat) (es : List EntR) (fil : List UInt8) (w : World) (h : TabR w bt es fil) (hne : 1 ≤ es.length) (hm : AllM es) :
    Calls Try.prog 25 #[.pointer (some ⟨bt, 0, none⟩)] w fun r w' => KeyA w w' (eKey (elt noEnt es 0)) r := by
  have HT := hid h
  obtain ⟨A, n, c, Af, m, cf, h1, h2, hc, _⟩ := h
  have hn := h2.1
  have hmax := h2.2.1
  have q0 := box_at h1 0 _ rfl
  obtain ⟨ad, rfl, hen⟩ := h2.at_ (show 0 < n by omega)
  have hmx := mayE_cases (hm 0 (by omega))
  generalize elt noEnt es 0 = x at *
  obtain ⟨Ak, nk, ck, Av, nv, cv, a0, a1, a2, a3, a4, a5, a6, a7, a8⟩ := hen
  rw [Nat.zero_mul, addr_zero'] at a0 a1 a2 a3 a4
  have hn0 : (0 : Int) < (n : Int) := by omega
  have hn0' : 0 < n := by omega
  have e5 := a5.1
  have e6 := a6.1
  have hnk : nk ≤ 140737488355328 := by omega
  have hnv : nv ≤ 140737488355328 := by omega
  have HKV := hid (⟨a5, a6⟩ : _ ∧ _)
  have hzz : ((es.length : Int) == 0) = false := by rw [beq_eq_false_iff_ne]; omega
  clear h1 h2 a5 a6 hm hmx e5 e6
  go_enter Try.func25, Try.ntmps25
  go_wp2_with (first
    | (go_at_call 19; (with_reducible refine (tlen_any bt es fil _ HT.out).mono ?_); rintro e w1 ⟨rfl, rfl⟩)
    | (go_at_call 61; (with_reducible refine (town_any Ak nk ck (eKey x) (eSeq x) (eGone x) (eTil x) Av nv cv (eVal x) _ HKV.out.1 HKV.out.2 hnk hnv).mono ?_); rintro r w4 ⟨kv, vv, rfl, ok1, ov1, hb4⟩; obtain ⟨A4, c4, rfl, hr4, hc4⟩ := ok1.open_; have hfd := run_field0 (.slice A4 (eKey x).length c4) vv (.int .i64 (eSeq x)) (.bool (eGone x)) (.int .i64 (eTil x)) w4))
  go_ret
  exact ⟨_, _, _, rfl, hr4, hc4, hb4⟩
set_option maxHeartbeats 8000000 in
set_option maxRecDepth 100000 in
theorem tmost_any (bt : Nat) (es : List EntR) (fil : List UInt8) (w : World) (h : TabR w bt es fil) (hne : 1 ≤ es.length) (hm : AllM es) :
    Calls Try.prog 26 #[.pointer (some ⟨bt, 0, none⟩)] w fun r w' => KeyA w w' (eKey (elt noEnt es (es.length - 1))) r := by
  have HT := hid h
  obtain ⟨A, n, c, Af, m, cf, h1, h2, hc, _⟩ := h
  have hn := h2.1
  have hmax := h2.2.1
  have q0 := box_at h1 0 _ rfl
  obtain ⟨j, hj⟩ : ∃ j, es.length - 1 = j := ⟨_, rfl⟩
  rw [hj]
  have hji : (n : Int) - 1 = (j : Int) := by omega
  have hjn : j < n := by omega
  have hws : IntKind.i64.wrap (j : Int) = (j : Int) := by rw [IntKind.wrap_i64]; omega
  obtain ⟨ad, rfl, hen⟩ := h2.at_ hjn
  have hmx := mayE_cases (hm j (by omega))
  generalize elt noEnt es j = x at *
  obtain ⟨Ak, nk, ck, Av, nv, cv, a0, a1, a2, a3, a4, a5, a6, a7, a8⟩ := hen
  have e5 := a5.1
  have e6 := a6.1
  have hnk : nk ≤ 140737488355328 := by omega
  have hnv : nv ≤ 140737488355328 := by omega
  have HKV := hid (⟨a5, a6⟩ : _ ∧ _)
  have hzz : ((es.length : Int) == 0) = false := by rw [beq_eq_false_iff_ne]; omega
  clear h1 h2 a5 a6 hm hmx e5 e6 hj
  go_enter Try.func26, Try.ntmps26
  go_wp2_with (go_at_call 19; (with_reducible refine (tlen_any bt es fil _ HT.out).mono ?_); rintro e w1 ⟨rfl, rfl⟩)
  go_still_tail 12, (by kernel_rfl)
  change wpList _ _ _ _ _ w.drew
  have hbd : Below w.heap.size w w.drew := below_drew (Below.refl _ _)
  have HKd := hid (⟨HKV.out.1.drew, HKV.out.2.drew⟩ : _ ∧ _)
  generalize w.drew = w2 at *
  go_wp2_with (go_at_call 61; (with_reducible refine (town_any Ak nk ck (eKey x) (eSeq x) (eGone x) (eTil x) Av nv cv (eVal x) _ HKd.out.1 HKd.out.2 hnk hnv).mono ?_); rintro r w4 ⟨kv, vv, rfl, ok1, ov1, hb4⟩; obtain ⟨A4, c4, rfl, hr4, hc4⟩ := ok1.open_; have hfd := run_field0 (.slice A4 (eKey x).length c4) vv (.int .i64 (eSeq x)) (.bool (eGone x)) (.int .i64 (eTil x)) w4)
  go_ret
  exact ⟨_, _, _, rfl, hr4, hc4, below_then hbd hb4⟩
end Go.Proofs.Ytkkclkknpjapcaa
/-! ### TbN -/
namespace Go.Proofs.Ytkkclkknpjapcaa
open Go.RowKit
set_option linter.unusedVariables false
set_option linter.unusedSimpArgs false

set_option maxHeartbeats 16000000 in
set_option maxRecDepth 100000 in
theorem tfirst_fn (bt : Nat) (es : List EntR) (fil : List UInt8) (b1 b2 b3 : Nat) (Ar : Option Addr) (nr cr : Nat) (key : List UInt8) (s : Int) (w : World) (h : TabR w bt es fil) (h1 : w.cell? ⟨b1, 0, none⟩ = some (.pointer (some ⟨bt, 0, none⟩))) (h2 : w.cell? ⟨b2, 0, none⟩ = some (.slice Ar nr cr)) (h3 : w.cell? ⟨b3, 0, none⟩ = some (.int .i64 s)) (hk : RB w Ar nr key) (i : Nat) (hi : i < es.length) :
    Calls Try.prog 82 #[.int .i64 i, .pointer (some ⟨b1, 0, none⟩), .pointer (some ⟨b2, 0, none⟩), .pointer (some ⟨b3, 0, none⟩)] w fun e w' => e = .returned (.bool (!aheadK (elt noEnt es i) key s)) ∧ Below w.heap.size w w' := by
  obtain ⟨A, n, c, Af, m, cf, hbx, hre, hc, _⟩ := h
  have hn := hre.1
  have hmax := hre.2.1
  have q0 := box_at hbx 0 _ rfl
  obtain ⟨ad, rfl, hen⟩ := hre.at_ (show i < n by omega)
  have hin : i < n := by omega
  generalize elt noEnt es i = x at *
  obtain ⟨Ak, nk, ck, Av, nv, cv, a0, a1, a2, a3, a4, a5, a6, a7, a8⟩ := hen
  obtain ⟨C, hC⟩ : ∃ C, cmpB (eKey x) key = C := ⟨_, rfl⟩
  have HC := hid hC
  have hz := cmpB_zero (eKey x) key
  have hcb := cmpB_bound (eKey x) key
  rw [hC] at hz hcb
  have HA : Hid (aheadK x key s = true ↔ (C < 0 ∨ (C = 0 ∧ s < eSeq x))) := by
    unfold Hid
    rw [aheadK_iff, hC, hz]
  have HK := hid a5
  have HR := hid hk
  clear hC hz hk hbx hre a5 a6 hn hi
  rcases (by omega : C < 0 ∨ C = 0 ∨ 0 < C) with hC0 | hC0 | hC0
  · have hd1 : decide ((0 : Int) < C) = false := decide_eq_false (by omega)
    have hd2 : (C == 0) = false := by rw [beq_eq_false_iff_ne]; omega
    have HF : Hid (aheadK x key s = true) := hid (HA.out.2 (.inl hC0))
    clear hC0 hcb
    go_enter Try.func82, Try.ntmps82
    go_wp2
    go_quiet (first | (go_at_call 62; refine Calls.quiet_of_same (v := .int .i64 C) ((compare_any Ak nk ck (eKey x) Ar nr cr key _ (HK.out.drewN _) (HR.out.drewN _)).mono ?_); rintro r w1 ⟨rfl, rfl⟩; exact ⟨(by rw [HC.out]), rfl⟩))
    go_wp2
    go_quiet (fail)
    go_wp2
    go_ret
    exact ⟨by rw [HF.out]; rfl, by first | exact below_drewN (Below.refl _ _) _ | exact below_drewN (below_drewN (Below.refl _ _) _) _⟩
  · subst hC0
    by_cases hs : eSeq x ≤ s
    · have hd1 : decide (eSeq x ≤ s) = true := decide_eq_true hs
      have HF : Hid (aheadK x key s = false) := hid (by
        cases hq : aheadK x key s
        · rfl
        · have := HA.out.1 hq; omega)
      clear hcb
      go_enter Try.func82, Try.ntmps82
      go_wp2
      go_quiet (first | (go_at_call 62; refine Calls.quiet_of_same (v := .int .i64 0) ((compare_any Ak nk ck (eKey x) Ar nr cr key _ (HK.out.drewN _) (HR.out.drewN _)).mono ?_); rintro r w1 ⟨rfl, rfl⟩; exact ⟨(by rw [HC.out]), rfl⟩))
      go_wp2
      go_quiet (fail)
      go_wp2
      go_ret
      exact ⟨by rw [HF.out]; rfl, by first | exact below_drewN (Below.refl _ _) _ | exact below_drewN (below_drewN (Below.refl _ _) _) _⟩
    · have hd1 : decide (eSeq x ≤ s) = false := decide_eq_false hs
      have HF : Hid (aheadK x key s = true) := hid (HA.out.2 (.inr ⟨rfl, by omega⟩))
      clear hs hcb
      go_enter Try.func82, Try.ntmps82
      go_wp2
      go_quiet (first | (go_at_call 62; refine Calls.quiet_of_same (v := .int .i64 0) ((compare_any Ak nk ck (eKey x) Ar nr cr key _ (HK.out.drewN _) (HR.out.drewN _)).mono ?_); rintro r w1 ⟨rfl, rfl⟩; exact ⟨(by rw [HC.out]), rfl⟩))
      go_wp2
      go_quiet (fail)
      go_wp2
      go_ret
      exact ⟨by rw [HF.out]; rfl, by first | exact below_drewN (Below.refl _ _) _ | exact below_drewN (below_drewN (Below.refl _ _) _) _⟩
  · have hd1 : decide ((0 : Int) < C) = true := decide_eq_true hC0
    have HF : Hid (aheadK x key s = false) := hid (by
        cases hq : aheadK x key s
        · rfl
        · have := HA.out.1 hq; omega)
    clear hcb
    go_enter Try.func82, Try.ntmps82
    go_wp2
    go_quiet (first | (go_at_call 62; refine Calls.quiet_of_same (v := .int .i64 C) ((compare_any Ak nk ck (eKey x) Ar nr cr key _ (HK.out.drewN _) (HR.out.drewN _)).mono ?_); rintro r w1 ⟨rfl, rfl⟩; exact ⟨(by rw [HC.out]), rfl⟩))
    go_wp2
    go_quiet (fail)
    go_wp2
    go_ret
    exact ⟨by rw [HF.out]; rfl, by first | exact below_drewN (Below.refl _ _) _ | exact below_drewN (below_drewN (Below.refl _ _) _) _⟩
/-- What first answers. -/
def FstC (w w' : World) (es : List EntR) (key : List UInt8) (s : Int) (r : Ending) : Prop := ∃ m : Nat, r = .returned (.int .i64 (m : Int)) ∧ PosA es key s m ∧ Below w.heap.size w w'
set_option maxHeartbeats 16000000 in
set_option maxRecDepth 100000 in
theorem tfirst_any (bt : Nat) (es : List EntR) (fil : List UInt8) (Ar : Option Addr) (nr cr : Nat) (key : List UInt8) (s : Int) (w : World) (h : TabR w bt es fil) (hk : RB w Ar nr key) (hs : Srt es) (hn : es.length ≤ 1000000) :
    Calls Try.prog 60 #[.pointer (some ⟨bt, 0, none⟩), .slice Ar nr cr, .int .i64 s] w fun r w' => FstC w w' es key s r := by
  have hB1 := below_alloc' (Below.refl w.heap.size w) (.cells #[.pointer (some ⟨bt, 0, none⟩)] 31)
  have e1 : (w.alloc (.cells #[.pointer (some ⟨bt, 0, none⟩)] 31)).heap.size = w.heap.size + 1 := by simp
  have hx1 := heap_alloc_new w (.cells #[.pointer (some ⟨bt, 0, none⟩)] 31)
  generalize hW1 : w.alloc (.cells #[.pointer (some ⟨bt, 0, none⟩)] 31) = W1 at *
  have hB2 := below_alloc' (Below.refl W1.heap.size W1) (.cells #[.slice Ar nr cr] 25)
  have hx2 := heap_alloc_new W1 (.cells #[.slice Ar nr cr] 25)
  have hx1 := blk_below hB2 hx1
  have e2 : (W1.alloc (.cells #[.slice Ar nr cr] 25)).heap.size = w.heap.size + 1 + 1 := by simp [e1]
  rw [e1] at hx2
  generalize hW2 : W1.alloc (.cells #[.slice Ar nr cr] 25) = W2 at *
  have hB3 := below_alloc' (Below.refl W2.heap.size W2) (.cells #[.int .i64 s] 2)
  have hx3 := heap_alloc_new W2 (.cells #[.int .i64 s] 2)
  have hx1 := blk_below hB3 hx1
  have hx2 := blk_below hB3 hx2
  rw [e2] at hx3
  have hBw := below_then (below_then hB1 hB2) hB3
  have HT := hid (h.below hBw)
  have HK := hid (hk.below hBw)
  have HSr := hid hs
  go_enter Try.func60, Try.ntmps60
  go_upto_region 1 with fail
  try rw [hW1]
  try rw [hW2]
  generalize W2.alloc (.cells #[.int .i64 s] 2) = W3 at *
  clear hB1 hB2 hB3 e1 e2 hW1 hW2 h hk hs
  have HF : Hid (∀ W, Below W3.heap.size W3 W → TabR W bt es fil ∧ W.heap[w.heap.size]? = some (.cells #[.pointer (some ⟨bt, 0, none⟩)] 31 (0, 0)) ∧ W.heap[w.heap.size + 1]? = some (.cells #[.slice Ar nr cr] 25 (0, 0)) ∧ W.heap[w.heap.size + 1 + 1]? = some (.cells #[.int .i64 s] 2 (0, 0)) ∧ RB W Ar nr key ∧ Below w.heap.size w W) := hid (fun W hb => ⟨HT.out.below hb, blk_below hb hx1, blk_below hb hx2, blk_below hb hx3, HK.out.below hb, below_then hBw hb⟩)
  have HS : Hid (∀ W, Below W3.heap.size W3 W → Calls Try.prog 81 #[.int .i64 (es.length : Int), .func (.func 82) #[] #[.pointer (some ⟨w.heap.size, 0, none⟩), .pointer (some ⟨w.heap.size + 1, 0, none⟩), .pointer (some ⟨w.heap.size + 1 + 1, 0, none⟩)]] W fun e w' => SrC W w' es.length (fun i => !aheadK (elt noEnt es i) key s) e) := hid (by
    intro W hb
    refine search_any 82 _ es.length _ W (fun args u => by rfl) (by omega) (fun i u hu hi => ?_) (fun a b h1 h2 h3 => ahead_mono HSr.out h1 h2 h3)
    obtain ⟨q1, q2, q3, q4, q5, q6⟩ := HF.out u (below_then hb hu)
    exact tfirst_fn bt es fil w.heap.size (w.heap.size + 1) (w.heap.size + 1 + 1) Ar nr cr key s u q1 (box_at q2 0 _ rfl) (box_at q3 0 _ rfl) (box_at q4 0 _ rfl) q5 i hi)
  have c0 := box_at hx1 0 _ rfl
  clear hx1 hx2 hx3 HK HSr hBw
  go_wp2_with (first
    | (go_at_call 19; (with_reducible refine (tlen_any bt es fil _ HT.out).mono ?_); rintro e w1 ⟨rfl, rfl⟩)
    | (go_at_call 81; (with_reducible refine (HS.out _ (by first | assumption | exact Below.refl _ _)).mono ?_); rintro r w6 ⟨m, rfl, hm1, hm2, hm3, hb6⟩))
  go_ret
  exact ⟨m, rfl, ⟨hm1, fun t ht => by have := hm2 t ht; simpa using this, fun t h1 h2 => by have := hm3 t h1 h2; simpa using this⟩, (HF.out _ hb6).2.2.2.2.2⟩
end Go.Proofs.Ytkkclkknpjapcaa
/-! ### MmX -/
namespace Go.Proofs.Ytkkclkknpjapcaa
open Go.RowKit
set_option linter.unusedVariables false
set_option linter.unusedSimpArgs false

set_option maxHeartbeats 4000000 in
theorem refcompare_quiet (A : Option Addr) (n c : Nat) (xs : List UInt8) (A' : Option Addr) (n' c' : Nat) (ys : List UInt8) (w : World) (h : RB w A n xs) (h' : RB w A' n' ys) :
    Calls Try.prog 24 #[.slice A n c, .slice A' n' c'] w fun e w' => e = .returned (.int .i64 (cmpB xs ys)) ∧ ∃ m, w' = w.drewN m := by
  have HL := hid (cmpB_less xs ys)
  have q1 := h.conv c
  have q2 := h'.conv c'
  have q3 := h.drew.conv c
  have q4 := h'.drew.conv c'
  have b1 : (bstr xs).toList = xs := ByteArray.toList_mk xs
  have b2 : (bstr ys).toList = ys := ByteArray.toList_mk ys
  clear h h'
  by_cases h1 : Op.bytesLess xs ys = true
  · have g1 : Op.bytesLess (bstr xs).toList (bstr ys).toList = true := by rw [b1, b2]; exact h1
    have HR : Hid (cmpB xs ys = -1) := by unfold Hid; rw [HL.out, if_pos h1]
    clear HL h1 b1 b2
    go_enter Try.func24, Try.ntmps24
    go_wp2
    go_region
    go_wp2
    go_ret
    exact ⟨by rw [HR.out]; rfl, 1, rfl⟩
  · have g1 : Op.bytesLess (bstr xs).toList (bstr ys).toList = false := by rw [b1, b2]; simpa using h1
    by_cases h2 : Op.bytesLess ys xs = true
    · have HR : Hid (cmpB xs ys = 1) := by unfold Hid; rw [HL.out, if_neg h1, if_pos h2]
      have g2 : ∀ u, (binOp .gtr 9 (.string (bstr xs)) (.string (bstr ys))).run Try.prog u = .ok (.bool true) u := fun u => by rw [run_gtr, HR.out]; rfl
      clear HL h1 h2 b1 b2
      go_enter Try.func24, Try.ntmps24
      go_wp2
      go_region
      go_wp2
      go_ret
      exact ⟨by rw [HR.out]; rfl, 1, rfl⟩
    · have HR : Hid (cmpB xs ys = 0) := by unfold Hid; rw [HL.out, if_neg h1, if_neg h2]
      have g2 : ∀ u, (binOp .gtr 9 (.string (bstr xs)) (.string (bstr ys))).run Try.prog u = .ok (.bool false) u := fun u => by rw [run_gtr, HR.out]; rfl
      clear HL h1 h2 b1 b2
      go_enter Try.func24, Try.ntmps24
      go_wp2
      go_region
      go_wp2
      go_ret
      exact ⟨by rw [HR.out]; rfl, 1, rfl⟩
set_option maxHeartbeats 4000000 in
theorem refweight_any (Ak : Option Addr) (nk ck : Nat) (s : Int) (g : Bool) (t : Int) (Av : Option Addr) (nv cv : Nat) (e : EntR) (w : World) (hk : (eKey e).length = nk) (hv : (eVal e).length = nv) (h1 : nk ≤ 140737488355328) (h2 : nv ≤ 140737488355328) :
    Calls Try.prog 72 #[.agg #[.slice Ak nk ck, .int .i64 s, .bool g, .int .i64 t, .slice Av nv cv]] w fun r w' => r = .returned (.int .i64 ((nk : Int) + nv + 16)) ∧ Below w.heap.size w w' := by
  clear hk hv
  go_enter Try.func72, Try.ntmps72
  go_wp2
  go_ret
  exact ⟨rfl, below_alloc' (Below.refl _ _) _⟩
/-! ## Get -/
def getR (key : List UInt8) (s : Int) : List EntR → EntR × Bool
  | [] => (noEnt, false)
  | x :: l => if eKey x = key ∧ eSeq x ≤ s then (x, true) else getR key s l
def GetRC (w w' : World) (x : EntR) (b : Bool) (r : Ending) : Prop :=
  ∃ Ak nk ck Av nv cv, r = .returned (.tuple #[.agg #[.slice Ak nk ck, .int .i64 (eSeq x), .bool (eGone x), .int .i64 (eTil x), .slice Av nv cv], .bool b]) ∧ RB w' Ak nk (eKey x) ∧ RB w' Av nv (eVal x) ∧ Below w.heap.size w w'
theorem GetRC.none {w w' : World} (hb : Below w.heap.size w w') : GetRC w w' noEnt false (.returned (.tuple #[.agg #[.slice none 0 0, .int .i64 0, .bool false, .int .i64 0, .slice none 0 0], .bool false])) := ⟨_, _, _, _, _, _, rfl, RB.nil _, RB.nil _, hb⟩
set_option maxHeartbeats 16000000 in
set_option maxRecDepth 100000 in
theorem refget_any (A : Option Addr) (n c : Nat) (es : List EntR) (Ar : Option Addr) (nr cr : Nat) (key : List UInt8) (s : Int) (w : World) (h : REnts w A n es) (hk : RB w Ar nr key) :
    Calls Try.prog 23 #[.slice A n c, .slice Ar nr cr, .int .i64 s] w fun r w' => GetRC w w' (getR key s es).1 (getR key s es).2 r := by
  have hm := h.2.1
  have hl := h.1
  have H := hid h
  have HK := hid hk
  have HL := hid hl
  have hrx := heap_alloc_new w (.cells #[.slice none 0 0, .int .i64 0, .bool false, .int .i64 0, .slice none 0 0] 42)
  have hB0 : Below w.heap.size w (w.alloc (.cells #[.slice none 0 0, .int .i64 0, .bool false, .int .i64 0, .slice none 0 0] 42)) := below_alloc' (Below.refl _ _) _
  clear h hk hl
  go_enter Try.func23, Try.ntmps23
  go_wp2
  generalize w.alloc (.cells #[.slice none 0 0, .int .i64 0, .bool false, .int .i64 0, .slice none 0 0] 42) = W1 at *
  obtain ⟨b, hb⟩ : ∃ b, w.heap.size = b := ⟨_, rfl⟩
  have HbE := hid hb
  rw [hb] at hrx ⊢
  clear hb
  go_loopw [12] (fun i wr => ∃ k : Nat, k ≤ n ∧ i = .int .i64 k ∧ getR key s es = getR key s (es.drop k) ∧ Below W1.heap.size W1 wr) (fun i wr => n - (intOf i).toNat)
  case atStart => exact ⟨0, Nat.zero_le _, rfl, rfl, Below.refl _ _⟩
  case round =>
    obtain ⟨k, hk, rfl, hget, hBr⟩ := hrel
    have hbr := below_then hB0 hBr
    have hrxr := blk_below hBr hrx
    by_cases hlt : k < n
    · obtain ⟨ad, rfl, hc1⟩ := H.out.at_ hlt
      obtain ⟨Ak, nk, ck, Av, nv, cv, a0, a1, a2, a3, a4, a5, a6, _, _⟩ := hc1
      have a0 := below_cell hbr a0
      have a1 := below_cell hbr a1
      have a2 := below_cell hbr a2
      have a3 := below_cell hbr a3
      have a4 := below_cell hbr a4
      rw [drop_elt (by rw [HL.out]; exact hlt)] at hget
      generalize elt noEnt es k = x at *
      obtain ⟨C, hC⟩ : ∃ C, cmpB (eKey x) key = C := ⟨_, rfl⟩
      have hz := cmpB_zero (eKey x) key
      rw [hC] at hz
      have HZ := hid hz
      have HC := hid hC
      have HG := hid hget
      have hbn := heap_alloc_new wr (.cells #[.slice Ak nk ck, .int .i64 (eSeq x), .bool (eGone x), .int .i64 (eTil x), .slice Av nv cv] 42)
      have hbb : Below wr.heap.size wr (wr.alloc (.cells #[.slice Ak nk ck, .int .i64 (eSeq x), .bool (eGone x), .int .i64 (eTil x), .slice Av nv cv] 42)) := below_alloc' (Below.refl _ _) _
      have hBb := below_then hBr hbb
      have hrxb := blk_below hbb hrxr
      have HX := hid (a5.below (below_then hbr hbb))
      have HKb := hid (HK.out.below (below_then hbr hbb))
      have HXw := hid a5
      have HVw := hid a6
      clear a5 a6 hz hC hget
      by_cases hc0 : C = 0
      · have hb0 : (C == 0) = true := by simpa using hc0
        by_cases hsq : eSeq x ≤ s
        · have hd : decide (eSeq x ≤ s) = true := decide_eq_true hsq
          have hres : getR key s es = (x, true) := by rw [HG.out, getR, if_pos ⟨HZ.out.1 hc0, hsq⟩]
          have HRes := hid hres
          clear hres hsq hc0 HG HZ
          go_wp2_with (go_at_call 24; (with_reducible refine (refcompare_any Ak nk ck (eKey x) Ar nr cr key _ HX.out HKb.out).mono ?_); rintro r w3 ⟨rfl, hb3⟩; rw [HC.out]; have hB3 := below_then hBb hb3; have hbn3 := blk_below hb3 hbn; have n1 := box_at hbn3 1 (.int .i64 (eSeq x)) rfl; have n0 := box_at hbn3 0 (.slice Ak nk ck) rfl; have n2 := box_at hbn3 2 (.bool (eGone x)) rfl; have n3 := box_at hbn3 3 (.int .i64 (eTil x)) rfl; have n4 := box_at hbn3 4 (.slice Av nv cv) rfl; have hrx3 := blk_below hb3 hrxb; have hz0 := box_at hrx3 0 (.slice none 0 0) rfl; have hz1 := box_at hrx3 1 (.int .i64 0) rfl; have hz2 := box_at hrx3 2 (.bool false) rfl; have hz3 := box_at hrx3 3 (.int .i64 0) rfl; have hz4 := box_at hrx3 4 (.slice none 0 0) rfl; have fz := fun i => frozen_of_row w3 b i _ _ hrx3)
          have hfin := set5 (.slice Ak nk ck) (.int .i64 (eSeq x)) (.bool (eGone x)) (.int .i64 (eTil x)) (.slice Av nv cv) hrx3
          have hgf := grown_set5 w3 b (.slice Ak nk ck) (.int .i64 (eSeq x)) (.bool (eGone x)) (.int .i64 (eTil x)) (.slice Av nv cv)
          have hb1 := (HbE.out ▸ below_then hB0 hB3 : Below w.heap.size w w3)
          have hfb : Below w.heap.size w (((((w3.setCell ⟨b, 0, none⟩ (.slice Ak nk ck)).setCell ⟨b, 1, none⟩ (.int .i64 (eSeq x))).setCell ⟨b, 2, none⟩ (.bool (eGone x))).setCell ⟨b, 3, none⟩ (.int .i64 (eTil x))).setCell ⟨b, 4, none⟩ (.slice Av nv cv)) := hb1.grown hgf hb1.size (fun k hk => by have := HbE.out; cases hk; omega)
          (try simp only [Exit.inBlock, Exit.then])
          refine bodyPost_ret (results_box2 (fn := Try.f23) (p := 6) (u := 7) (ty := 42) rfl _ _ b 42 #[.slice Ak nk ck, .int .i64 (eSeq x), .bool (eGone x), .int .i64 (eTil x), .slice Av nv cv] (0, 0) _ rfl hfin Try.underlying42 rfl entry5) rfl ?_
          rw [HRes.out]
          exact ⟨Ak, nk, ck, Av, nv, cv, rfl, HXw.out.below hfb, HVw.out.below hfb, hfb⟩
        · have hd : decide (eSeq x ≤ s) = false := decide_eq_false hsq
          have hres : getR key s es = getR key s (es.drop (k + 1)) := by rw [HG.out, getR, if_neg (fun h => hsq h.2)]
          have HRes := hid hres
          clear hres hsq hc0 HG HZ
          go_wp2_with (go_at_call 24; (with_reducible refine (refcompare_any Ak nk ck (eKey x) Ar nr cr key _ HX.out HKb.out).mono ?_); rintro r w3 ⟨rfl, hb3⟩; rw [HC.out]; have hB3 := below_then hBb hb3; have hbn3 := blk_below hb3 hbn; have n1 := box_at hbn3 1 (.int .i64 (eSeq x)) rfl)
          go_roundw
          case rel => exact ⟨k + 1, by omega, by go_num, HRes.out, hB3⟩
          case measure => simp [intOf]; omega
      · have hb0 : (C == 0) = false := by simpa using hc0
        have hres : getR key s es = getR key s (es.drop (k + 1)) := by rw [HG.out, getR, if_neg (fun h => hc0 (HZ.out.2 h.1))]
        have HRes := hid hres
        clear hres hc0 HG HZ
        go_wp2_with (go_at_call 24; (with_reducible refine (refcompare_any Ak nk ck (eKey x) Ar nr cr key _ HX.out HKb.out).mono ?_); rintro r w3 ⟨rfl, hb3⟩; rw [HC.out]; have hB3 := below_then hBb hb3; have hbn3 := blk_below hb3 hbn; have n1 := box_at hbn3 1 (.int .i64 (eSeq x)) rfl)
        go_roundw
        case rel => exact ⟨k + 1, by omega, by go_num, HRes.out, hB3⟩
        case measure => simp [intOf]; omega
    · obtain rfl : k = n := by omega
      have hres : getR key s es = (noEnt, false) := by rw [hget, List.drop_eq_nil_of_le (by rw [HL.out]; exact Nat.le_refl _)]; rfl
      have HRes := hid hres
      have z0 := box_at hrxr 0 (.slice none 0 0) rfl
      have z1 := box_at hrxr 1 (.int .i64 0) rfl
      have z2 := box_at hrxr 2 (.bool false) rfl
      have z3 := box_at hrxr 3 (.int .i64 0) rfl
      have z4 := box_at hrxr 4 (.slice none 0 0) rfl
      have fz := fun i => frozen_of_row wr b i _ _ hrxr
      clear hres hget
      go_wp2
      have hfin := set5 (.slice none 0 0) (.int .i64 0) (.bool false) (.int .i64 0) (.slice none 0 0) hrxr
      have hgf := grown_set5 wr b (.slice none 0 0) (.int .i64 0) (.bool false) (.int .i64 0) (.slice none 0 0)
      have hb1 : Below w.heap.size w wr := hbr
      have hfb : Below w.heap.size w (((((wr.setCell ⟨b, 0, none⟩ (.slice none 0 0)).setCell ⟨b, 1, none⟩ (.int .i64 0)).setCell ⟨b, 2, none⟩ (.bool false)).setCell ⟨b, 3, none⟩ (.int .i64 0)).setCell ⟨b, 4, none⟩ (.slice none 0 0)) := hb1.grown hgf hb1.size (fun k hk => by have := HbE.out; cases hk; omega)
      (try simp only [Exit.inBlock, Exit.then])
      refine bodyPost_ret (results_box2 (fn := Try.f23) (p := 6) (u := 7) (ty := 42) rfl _ _ b 42 #[.slice none 0 0, .int .i64 0, .bool false, .int .i64 0, .slice none 0 0] (0, 0) _ rfl hfin Try.underlying42 rfl entry5) rfl ?_
      rw [HRes.out]
      exact GetRC.none hfb
end Go.Proofs.Ytkkclkknpjapcaa
