/- Layer 11: Decode: what its loop holds. -/
import Derived.Test.YteediedhofapkaaBkN
import Derived.Test.YteediedhofapkaaBkF
namespace Go.Proofs.Yteediedhofapkaa
open Go.RowKit
set_option linter.unusedVariables false
set_option linter.unusedSimpArgs false

theorem takeU_used {xs : List UInt8} (h : (takeU xs).2.2 = 0) : 1 ≤ (takeU xs).2.1 ∧ (takeU xs).2.1 ≤ xs.length := by
  refine ⟨?_, (takeU_lt xs).2.1⟩
  unfold takeU at h ⊢
  split
  · rename_i h1; rw [if_pos h1] at h; cases h
  · rename_i h1
    rw [if_neg h1] at h
    split
    · rename_i h2; rw [if_pos h2] at h; cases h
    · show 1 ≤ leadU xs + 1
      omega
theorem keyK_less {xs last key r : List UInt8} (h : keyK xs last = some (key, r)) : r.length < xs.length := by
  unfold keyK at h
  split at h
  · cases h
  · rename_i h1
    have hu := takeU_used (by simpa using h1)
    split at h
    · cases h
    · split at h
      · cases h
      · split at h
        · cases h
        · split at h
          · cases h
          · simp only [Option.some.injEq, Prod.mk.injEq] at h
            rw [← h.2]
            simp only [List.length_drop]
            omega
theorem seqK_less {key xs r : List UInt8} {x : EntR} (h : seqK key xs = some (x, r)) : r.length ≤ xs.length ∧ eKey x = key := by
  unfold seqK at h
  split at h
  · cases h
  · generalize hd : xs.drop (takeU xs).2.1 = ys at h
    have hl : ys.length ≤ xs.length := by rw [← hd, List.length_drop]; omega
    unfold flagK at h
    cases ys with
    | nil => cases h
    | cons f ys =>
      simp only at h
      split at h
      · cases h
      · split at h
        · cases h
          exact ⟨by simp only [List.length_cons] at hl; omega, rfl⟩
        · unfold valK at h
          split at h
          · cases h
          · split at h
            · cases h
            · cases h
              refine ⟨?_, rfl⟩
              simp only [List.length_cons] at hl
              simp only [List.length_drop]
              omega
theorem entK_less {xs last r : List UInt8} {x : EntR} (h : entK xs last = some (x, r)) : r.length < xs.length := by
  unfold entK at h
  split at h
  · cases h
  · rename_i key ys hk
    have h1 := keyK_less hk
    have h2 := (seqK_less h).1
    omega
theorem RdB.row {wb w w' : World} {b : Nat} {A : Option Addr} {n c : Nat} {xs : List UInt8} {L : Option Addr} {m d : Nat} {last : List UInt8} {base : Nat} {v : Value} {V : List (List Value)} (h : RdB wb w b A n c xs L m d last) (hg : w.grownBy w' v.ownBlock) (hv : OV w base 26 5 v V) (hb : wb.heap.size ≤ base) : RdB wb w' b A n c xs L m d last := by
  obtain ⟨q1, q2, q3, q4, q5, q6, q7, q8⟩ := h
  exact ⟨blk_grown' hg q1 (OV.ne_blk hv q1 (by decide)), q2, q3, q4, q5.other hg (q5.apart_row hv (by decide)), q6, q7.grown hg q7.size (fun k hk => Nat.le_trans hb (hv.base_ k hk)), q8⟩
theorem PEo.box {wb w w' : World} {b base : Nat} {A : Option Addr} {n c : Nat} {xs : List UInt8} {L : Option Addr} {m d : Nat} {last : List UInt8} {x : List Value} {e : EntR} (h : PEo w base x e) (hr : RdB wb w b A n c xs L m d last) (hg : w.grownBy w' (some b)) : PEo w' base x e := by
  obtain ⟨kv, vv, hx, h1, h2⟩ := h
  exact ⟨kv, vv, hx, h1.other hg (.inr (h1.ne_blk hr.1 (by decide))), h2.other hg (.inr (h2.ne_blk hr.1 (by decide)))⟩
/-- What Decode's loop holds. -/
def DJ (w wr : World) (b : Nat) (v : Value) (done : List EntR) (rest last : List UInt8) : Prop :=
  (∃ A n c L m d, RdB w wr b A n c rest L m d last) ∧ (∃ V, OV wr w.heap.size 26 5 v V ∧ RelV noEnt (PEo wr w.heap.size) V done)
theorem DJ.entry {w wr w1 : World} {b : Nat} {v : Value} {done : List EntR} {rest last ys l2 : List UInt8} (h : DJ w wr b v done rest last) (hg : wr.grownBy w1 (some b)) (hr : ∃ A n c L m d, RdB w w1 b A n c ys L m d l2) : DJ w w1 b v done ys l2 := by
  obtain ⟨⟨A, n, c, L, m, d, h1⟩, V, h2, h3⟩ := h
  exact ⟨hr, V, h2.other hg (.inr (h2.ne_blk h1.1 (by decide))), h3.mono fun x a hx => hx.box h1 hg⟩
theorem DJ.below {w wr w1 : World} {b : Nat} {v : Value} {done : List EntR} {rest last : List UInt8} (h : DJ w wr b v done rest last) (hb : Below wr.heap.size wr w1) : DJ w w1 b v done rest last := by
  obtain ⟨⟨A, n, c, L, m, d, h1⟩, V, h2, h3⟩ := h
  exact ⟨⟨A, n, c, L, m, d, h1.below hb⟩, V, h2.below hb, h3.mono fun x a hx => hx.below hb⟩
theorem DJ.push {w W2 w3 : World} {b : Nat} {v v' kv vv : Value} {done : List EntR} {rest last : List UInt8} {V : List (List Value)} {x : EntR} (h1 : ∃ A n c L m d, RdB w W2 b A n c rest L m d last) (h2 : OV W2 w.heap.size 26 5 v V) (h3 : RelV noEnt (PEo W2 w.heap.size) V done) (ok : OB W2 w.heap.size kv (eKey x)) (ov : OB W2 w.heap.size vv (eVal x)) (hg : W2.grownBy w3 v.ownBlock) (h4 : OV w3 w.heap.size 26 5 v' (V ++ [[kv, .int .i64 (eSeq x), .bool (eGone x), .int .i64 (eTil x), vv]])) : DJ w w3 b v' (done ++ [x]) rest last := by
  obtain ⟨A, n, c, L, m, d, h1⟩ := h1
  refine ⟨⟨A, n, c, L, m, d, h1.row hg h2 (Nat.le_refl _)⟩, _, h4, (h3.mono fun x a hx => hx.grown hg h2).snoc ⟨kv, vv, rfl, ok.other hg (ok.apart_row h2 (by decide)), ov.other hg (ov.apart_row h2 (by decide))⟩⟩
def lenV : Value → Nat
  | .slice _ n _ => n
  | _ => 0
/-- What Decode leaves. -/
def DecC (w w' : World) (xs : List UInt8) (r : Ending) : Prop :=
  match decF xs with
  | none => (∃ e : Int, e ≠ 0 ∧ r = .returned (.tuple #[.slice none 0 0, .int .i64 e])) ∧ Below w.heap.size w w'
  | some es => ∃ v, r = .returned (.tuple #[v, .int .i64 0]) ∧ ROw w' w.heap.size v es ∧ Below w.heap.size w w'
theorem DecC.no {w w' : World} {xs : List UInt8} (h : decF xs = none) (e : Int) (he : e ≠ 0) (hb : Below w.heap.size w w') : DecC w w' xs (.returned (.tuple #[.slice none 0 0, .int .i64 e])) := by
  unfold DecC
  rw [h]
  exact ⟨⟨e, he, rfl⟩, hb⟩
theorem DecC.yes {w w' : World} {xs : List UInt8} {es : List EntR} {v : Value} (h : decF xs = some es) (h1 : ROw w' w.heap.size v es) (hb : Below w.heap.size w w') : DecC w w' xs (.returned (.tuple #[v, .int .i64 0])) := by
  unfold DecC
  rw [h]
  exact ⟨v, rfl, h1, hb⟩
theorem decF_short {xs : List UInt8} (h : xs.length < 4) : decF xs = none := by unfold decF; rw [if_pos h]
theorem decF_num {xs : List UInt8} (h : ¬ xs.length < 4) (hN : readU (xs.drop (xs.length - 4)) = 0 ∨ (xs.length - 4) / 4 < readU (xs.drop (xs.length - 4))) : decF xs = none := by unfold decF; rw [if_neg h, if_pos hN]
theorem decF_go {xs : List UInt8} (h : ¬ xs.length < 4) (hN : ¬ (readU (xs.drop (xs.length - 4)) = 0 ∨ (xs.length - 4) / 4 < readU (xs.drop (xs.length - 4)))) :
    decF xs = (decL (xs.length + 1) (xs.take (xs.length - 4 - 4 * readU (xs.drop (xs.length - 4)))) []).bind fun es => if fitB es = true ∧ encK es = xs then some es else none := by
  unfold decF
  rw [if_neg h, if_neg hN]
  cases decL (xs.length + 1) (xs.take (xs.length - 4 - 4 * readU (xs.drop (xs.length - 4)))) [] <;> rfl
theorem decL_none {f : Nat} {rest last : List UInt8} (hr : rest ≠ []) (h : entK rest last = none) : decL (f + 1) rest last = none := by rw [decL, if_neg hr, h]
theorem decL_some {f : Nat} {rest last ys : List UInt8} {x : EntR} (hr : rest ≠ []) (h : entK rest last = some (x, ys)) : decL (f + 1) rest last = (decL f ys (eKey x)).map (x :: ·) := by rw [decL, if_neg hr, h]
theorem decL_done {f : Nat} {last : List UInt8} : decL (f + 1) [] last = some [] := by rw [decL, if_pos rfl]
end Go.Proofs.Yteediedhofapkaa
