/- Shared texts, part S24: BkD, BkDe. -/
import Derived.Test.YtkkclkknpjapcaaDoorS23
import Derived.Test.YtkkclkknpjapcaaDoorS18
/-! ### BkD -/
namespace Go.Proofs.YtkkclkknpjapcaaDoor
open Go.RowKit
set_option linter.unusedVariables false
set_option linter.unusedSimpArgs false

theorem takeU_used {xs : List UInt8} (h : (takeU xs).2.2 = 0) : 1 ≤ (takeU xs).2.1 ∧ (takeU xs).2.1 ≤ xs.length := by
  refine ⟨?_, (takeU_lt xs).2.1⟩
  unfold takeU at h ⊢
  split
  · rename_i h1; rw [if_pos h1] at h; cases h
  · rename_i h1
    rw [if_neg h1] at h
    split
    · rename_i h2; rw [if_pos h2] at h; cases h
    · show 1 ≤ leadU xs + 1
      omega
theorem keyK_less {xs last key r : List UInt8} (h : keyK xs last = some (key, r)) : r.length < xs.length := by
  unfold keyK at h
  split at h
  · cases h
  · rename_i h1
    have hu := takeU_used (by simpa using h1)
    split at h
    · cases h
    · split at h
      · cases h
      · split at h
        · cases h
        · split at h
          · cases h
          · simp only [Option.some.injEq, Prod.mk.injEq] at h
            rw [← h.2]
            simp only [List.length_drop]
            omega
theorem seqK_less {key xs r : List UInt8} {x : EntR} (h : seqK key xs = some (x, r)) : r.length ≤ xs.length ∧ eKey x = key := by
  unfold seqK at h
  split at h
  · cases h
  · generalize hd : xs.drop (takeU xs).2.1 = ys at h
    have hl : ys.length ≤ xs.length := by rw [← hd, List.length_drop]; omega
    unfold flagK at h
    cases ys with
    | nil => cases h
    | cons f ys =>
      simp only at h
      split at h
      · cases h
      · split at h
        · cases h
          exact ⟨by simp only [List.length_cons] at hl; omega, rfl⟩
        · unfold valK at h
          split at h
          · cases h
          · split at h
            · cases h
            · cases h
              refine ⟨?_, rfl⟩
              simp only [List.length_cons] at hl
              simp only [List.length_drop]
              omega
theorem entK_less {xs last r : List UInt8} {x : EntR} (h : entK xs last = some (x, r)) : r.length < xs.length := by
  unfold entK at h
  split at h
  · cases h
  · rename_i key ys hk
    have h1 := keyK_less hk
    have h2 := (seqK_less h).1
    omega
theorem RdB.row {wb w w' : World} {b : Nat} {A : Option Addr} {n c : Nat} {xs : List UInt8} {L : Option Addr} {m d : Nat} {last : List UInt8} {base : Nat} {v : Value} {V : List (List Value)} (h : RdB wb w b A n c xs L m d last) (hg : w.grownBy w' v.ownBlock) (hv : OV w base 29 5 v V) (hb : wb.heap.size ≤ base) : RdB wb w' b A n c xs L m d last := by
  obtain ⟨q1, q2, q3, q4, q5, q6, q7, q8⟩ := h
  exact ⟨blk_grown' hg q1 (OV.ne_blk hv q1 (by decide)), q2, q3, q4, q5.other hg (q5.apart_row hv (by decide)), q6, q7.grown hg q7.size (fun k hk => Nat.le_trans hb (hv.base_ k hk)), q8⟩
theorem PEo.box {wb w w' : World} {b base : Nat} {A : Option Addr} {n c : Nat} {xs : List UInt8} {L : Option Addr} {m d : Nat} {last : List UInt8} {x : List Value} {e : EntR} (h : PEo w base x e) (hr : RdB wb w b A n c xs L m d last) (hg : w.grownBy w' (some b)) : PEo w' base x e := by
  obtain ⟨kv, vv, hx, h1, h2⟩ := h
  exact ⟨kv, vv, hx, h1.other hg (.inr (h1.ne_blk hr.1 (by decide))), h2.other hg (.inr (h2.ne_blk hr.1 (by decide)))⟩
/-- What Decode's loop holds. -/
def DJ (w wr : World) (b : Nat) (v : Value) (done : List EntR) (rest last : List UInt8) : Prop :=
  (∃ A n c L m d, RdB w wr b A n c rest L m d last) ∧ (∃ V, OV wr w.heap.size 29 5 v V ∧ RelV noEnt (PEo wr w.heap.size) V done)
theorem DJ.entry {w wr w1 : World} {b : Nat} {v : Value} {done : List EntR} {rest last ys l2 : List UInt8} (h : DJ w wr b v done rest last) (hg : wr.grownBy w1 (some b)) (hr : ∃ A n c L m d, RdB w w1 b A n c ys L m d l2) : DJ w w1 b v done ys l2 := by
  obtain ⟨⟨A, n, c, L, m, d, h1⟩, V, h2, h3⟩ := h
  exact ⟨hr, V, h2.other hg (.inr (h2.ne_blk h1.1 (by decide))), h3.mono fun x a hx => hx.box h1 hg⟩
theorem DJ.below {w wr w1 : World} {b : Nat} {v : Value} {done : List EntR} {rest last : List UInt8} (h : DJ w wr b v done rest last) (hb : Below wr.heap.size wr w1) : DJ w w1 b v done rest last := by
  obtain ⟨⟨A, n, c, L, m, d, h1⟩, V, h2, h3⟩ := h
  exact ⟨⟨A, n, c, L, m, d, h1.below hb⟩, V, h2.below hb, h3.mono fun x a hx => hx.below hb⟩
theorem DJ.push {w W2 w3 : World} {b : Nat} {v v' kv vv : Value} {done : List EntR} {rest last : List UInt8} {V : List (List Value)} {x : EntR} (h1 : ∃ A n c L m d, RdB w W2 b A n c rest L m d last) (h2 : OV W2 w.heap.size 29 5 v V) (h3 : RelV noEnt (PEo W2 w.heap.size) V done) (ok : OB W2 w.heap.size kv (eKey x)) (ov : OB W2 w.heap.size vv (eVal x)) (hg : W2.grownBy w3 v.ownBlock) (h4 : OV w3 w.heap.size 29 5 v' (V ++ [[kv, .int .i64 (eSeq x), .bool (eGone x), .int .i64 (eTil x), vv]])) : DJ w w3 b v' (done ++ [x]) rest last := by
  obtain ⟨A, n, c, L, m, d, h1⟩ := h1
  refine ⟨⟨A, n, c, L, m, d, h1.row hg h2 (Nat.le_refl _)⟩, _, h4, (h3.mono fun x a hx => hx.grown hg h2).snoc ⟨kv, vv, rfl, ok.other hg (ok.apart_row h2 (by decide)), ov.other hg (ov.apart_row h2 (by decide))⟩⟩
def lenV : Value → Nat
  | .slice _ n _ => n
  | _ => 0
/-- What Decode leaves. -/
def DecC (w w' : World) (xs : List UInt8) (r : Ending) : Prop :=
  match decF xs with
  | none => (∃ e : Int, e ≠ 0 ∧ r = .returned (.tuple #[.slice none 0 0, .int .i64 e])) ∧ Below w.heap.size w w'
  | some es => ∃ v, r = .returned (.tuple #[v, .int .i64 0]) ∧ ROw w' w.heap.size v es ∧ Below w.heap.size w w'
theorem DecC.no {w w' : World} {xs : List UInt8} (h : decF xs = none) (e : Int) (he : e ≠ 0) (hb : Below w.heap.size w w') : DecC w w' xs (.returned (.tuple #[.slice none 0 0, .int .i64 e])) := by
  unfold DecC
  rw [h]
  exact ⟨⟨e, he, rfl⟩, hb⟩
theorem DecC.yes {w w' : World} {xs : List UInt8} {es : List EntR} {v : Value} (h : decF xs = some es) (h1 : ROw w' w.heap.size v es) (hb : Below w.heap.size w w') : DecC w w' xs (.returned (.tuple #[v, .int .i64 0])) := by
  unfold DecC
  rw [h]
  exact ⟨v, rfl, h1, hb⟩
theorem decF_short {xs : List UInt8} (h : xs.length < 4) : decF xs = none := by unfold decF; rw [if_pos h]
theorem decF_num {xs : List UInt8} (h : ¬ xs.length < 4) (hN : readU (xs.drop (xs.length - 4)) = 0 ∨ (xs.length - 4) / 4 < readU (xs.drop (xs.length - 4))) : decF xs = none := by unfold decF; rw [if_neg h, if_pos hN]
theorem decF_go {xs : List UInt8} (h : ¬ xs.length < 4) (hN : ¬ (readU (xs.drop (xs.length - 4)) = 0 ∨ (xs.length - 4) / 4 < readU (xs.drop (xs.length - 4)))) :
    decF xs = (decL (xs.length + 1) (xs.take (xs.length - 4 - 4 * readU (xs.drop (xs.length - 4)))) []).bind fun es => if fitB es = true ∧ encK es = xs then some es else none := by
  unfold decF
  rw [if_neg h, if_neg hN]
  cases decL (xs.length + 1) (xs.take (xs.length - 4 - 4 * readU (xs.drop (xs.length - 4)))) [] <;> rfl
theorem decL_none {f : Nat} {rest last : List UInt8} (hr : rest ≠ []) (h : entK rest last = none) : decL (f + 1) rest last = none := by rw [decL, if_neg hr, h]
theorem decL_some {f : Nat} {rest last ys : List UInt8} {x : EntR} (hr : rest ≠ []) (h : entK rest last = some (x, ys)) : decL (f + 1) rest last = (decL f ys (eKey x)).map (x :: ·) := by rw [decL, if_neg hr, h]
theorem decL_done {f : Nat} {last : List UInt8} : decL (f + 1) [] last = some [] := by rw [decL, if_pos rfl]
end Go.Proofs.YtkkclkknpjapcaaDoor
/-! ### BkDe -/
namespace Go.Proofs.YtkkclkknpjapcaaDoor
open Go.RowKit
set_option linter.unusedVariables false
set_option linter.unusedSimpArgs false

theorem dec_n1 {E N M : Nat} (h : E = 4 * N + M) : (E : Int) - 4 * (N : Int) = (M : Int) := by omega
theorem dec_n2 {N : Nat} (hN : N < 4294967296) : wrap64 (N : Int) = (N : Int) := by unfold wrap64; omega
theorem dec_n3 {N : Nat} (hN : N < 4294967296) : IntKind.i64.wrap (4 * (N : Int)) = 4 * (N : Int) := by rw [IntKind.wrap_i64]; omega
theorem dec_n4 {M : Nat} (h : M ≤ 100000000000) : IntKind.i64.wrap (M : Int) = (M : Int) := by rw [IntKind.wrap_i64]; omega
theorem dec_n5 {E N M : Nat} (h : E = 4 * N + M) : M ≤ E := by omega
set_option maxHeartbeats 64000000 in
set_option maxRecDepth 200000 in
theorem decode_any (A : Option Addr) (n c : Nat) (xs : List UInt8) (w : World) (h : RB w A n xs) (hc : n ≤ c) (hsz : n ≤ 100000000000) :
    Calls Tryd.prog 56 #[.slice A n c] w fun r w' => DecC w w' xs r := by
  have hl := h.1
  have H := hid h
  clear h
  by_cases h4 : n < 4
  · have hd : decide ((n : Int) < 4) = true := decide_eq_true (by omega)
    have HD := hid (decF_short (xs := xs) (by omega))
    go_enter Tryd.func56, Tryd.ntmps56
    go_wp2
    go_ret2
    exact DecC.no HD.out 5 (by omega) (Below.refl _ _)
  · have hd : decide ((n : Int) < 4) = false := decide_eq_false (by omega)
    obtain ⟨E, hE⟩ : ∃ E : Nat, (n : Int) - 4 = (E : Int) := ⟨n - 4, by omega⟩
    have hEn : xs.length - 4 = E := by omega
    obtain ⟨A2, c2, hcut, hrb, hc2⟩ := cutB_lo (A := A) hc (lo := E) (by omega) (E : Int) rfl
    have hne : n - E = 4 := by omega
    rw [hne] at hcut hrb hc2
    have HR2 := hid (hrb _ _ H.out)
    clear hrb
    have hl4 : (xs.drop E).length = 4 := HR2.out.1
    have hrd : readB (xs.drop E) 4 = (readU (xs.drop E), 0) := by
      unfold readB
      rw [if_neg (by omega), if_neg (by rw [hl4]; omega), List.take_of_length_le (by rw [hl4]; exact Nat.le_refl _)]
    have hN4 : readU (xs.drop E) < 4294967296 := by
      have := readU_lt (xs.drop E)
      rw [hl4] at this
      exact this
    have HN := hid (decF_num (xs := xs) (by omega))
    have HG := hid (decF_go (xs := xs) (by omega))
    rw [hEn] at HN HG
    have HRd := hid (read_any A2 4 c2 (xs.drop E) 4 w HR2.out (by omega) (by omega))
    rw [hrd] at HRd
    clear hrd
    obtain ⟨N, hNe⟩ : ∃ N, readU (xs.drop E) = N := ⟨_, rfl⟩
    simp only [hNe] at HN HG HRd hN4
    clear hNe hEn
    have hqN := wrap_u64_nat0 N (by omega)
    obtain ⟨Q, hQ⟩ : ∃ Q : Nat, (E : Int) / 4 = (Q : Int) := ⟨E / 4, by omega⟩
    have hQe : E / 4 = Q := by omega
    have hqQ := wrap_u64_nat0 Q (by omega)
    have hwQ : IntKind.i64.wrap (Q : Int) = (Q : Int) := by rw [IntKind.wrap_i64]; omega
    rw [hQe] at HN HG
    by_cases hbad : N = 0 ∨ Q < N
    · have HD := hid (HN.out hbad)
      clear HN HG
      by_cases hN0 : N = 0
      · subst hN0
        go_enter Tryd.func56, Tryd.ntmps56
        go_wp2_with (go_at_call 36; refine (HRd.out).mono ?_; rintro r w' ⟨rfl, rfl⟩)
        go_ret2
        exact DecC.no HD.out 3 (by omega) (Below.refl _ _)
      · have hQN : Q < N := by
          rcases hbad with h | h
          · exact absurd h hN0
          · exact h
        have hdz : ((N : Int) == 0) = false := by
          rw [beq_eq_false_iff_ne]
          intro h
          exact hN0 (Int.ofNat.inj h)
        have hdq : decide ((Q : Int) < (N : Int)) = true := decide_eq_true (Int.ofNat_lt.2 hQN)
        clear hbad
        go_enter Tryd.func56, Tryd.ntmps56
        go_wp2_with (go_at_call 36; refine (HRd.out).mono ?_; rintro r w' ⟨rfl, rfl⟩)
        go_ret2
        exact DecC.no HD.out 3 (by omega) (Below.refl _ _)
    · have HD := hid (HG.out hbad)
      have hN0 : N ≠ 0 := fun h => hbad (.inl h)
      have hNQ : ¬ Q < N := fun h => hbad (.inr h)
      have h4N : 4 * N ≤ E := by
        have h1 := Nat.mul_div_le E 4
        rw [hQe] at h1
        exact Nat.le_trans (Nat.mul_le_mul_left 4 (Nat.le_of_not_lt hNQ)) h1
      have HQ := hid hQ
      clear hQ hbad HN HG hQe
      have hdz : ((N : Int) == 0) = false := by
        rw [beq_eq_false_iff_ne]
        intro h
        exact hN0 (Int.ofNat.inj h)
      have hdq : decide ((Q : Int) < (N : Int)) = false := decide_eq_false (fun h => hNQ (Int.ofNat_lt.1 h))
      have hEn2 : E ≤ n := by omega
      have hMn : E - 4 * N ≤ n := Nat.le_trans (Nat.sub_le _ _) hEn2
      have hrb3 := fun (u : World) (ys : List UInt8) (hh : RB u A n ys) => RB.pre hh hMn
      have HR3 := hid (hrb3 _ _ H.out)
      have hc3 : E - 4 * N ≤ c := Nat.le_trans hMn hc
      have hx0 := heap_alloc_new w (.cells #[.slice A (E - 4 * N) c, .slice none 0 0] 114)
      have HJ0 : Hid (DJ w (w.alloc (.cells #[.slice A (E - 4 * N) c, .slice none 0 0] 114)) w.heap.size (.slice none 0 0) [] (xs.take (E - 4 * N)) []) := hid ⟨⟨A, E - 4 * N, c, none, 0, 0, hx0, HR3.out, hc3, Nat.le_trans hMn (Nat.le_trans hsz (by decide)), OB.nil _ _, Nat.zero_le _, below_alloc' (Below.refl _ _) _, Nat.le_refl _⟩, [], OV.nil _ _ _ _, RelV.nil⟩
      have HMn := hid hMn
      have HBl : Hid ((xs.take (E - 4 * N)).length = E - 4 * N) := hid HR3.out.1
      have hQ := HQ.out
      clear hx0 hMn hrb3 hc3 h4N
      go_enter Tryd.func56, Tryd.ntmps56
      go_wp2_with (go_at_call 36; refine (HRd.out).mono ?_; rintro r w' ⟨rfl, rfl⟩)
      have hMn := HMn.out
      have hbl := HBl.out
      clear HMn HBl HR3 hE hQ hqN hqQ hwQ hdz hdq hd hN0 hNQ h4 hN4 hEn2
      generalize xs.take (E - 4 * N) = body at *
      generalize E - 4 * N = M at *
      generalize hW : w.alloc (.cells #[.slice A M c, .slice none 0 0] 114) = W0 at *
      obtain ⟨b, hb⟩ : ∃ b, w.heap.size = b := ⟨_, rfl⟩
      have HJ1 : Hid (DJ w W0 b (.slice none 0 0) [] body []) := by unfold Hid; rw [← hb]; exact HJ0.out
      have HB := hid hb
      rw [hb]
      clear hb HJ0 hW
      have HLen := hid hl
      have hMx : M ≤ xs.length := by rw [hl]; exact hMn
      have hM1 : M ≤ 100000000000 := Nat.le_trans hMn hsz
      clear hl hMn
      go_loopw [8] (fun v wr => ∃ (done : List EntR) (rest last : List UInt8) (f : Nat), DJ w wr b v done rest last ∧ decL (xs.length + 1) body [] = (decL f rest last).map (done ++ ·) ∧ rest.length < f ∧ done.length + rest.length ≤ M ∧ lenV v = done.length) (fun v wr => M - lenV v)
      case atStart => exact ⟨[], body, [], xs.length + 1, HJ1.out, by simp, by omega, by simp; omega, rfl⟩
      case round =>
        obtain ⟨done, rest, last, f, hJ, hdec, hf, hdn, hlv⟩ := hrel
        have HJ := hid hJ
        obtain ⟨⟨A5, n5, c5, L5, m5, d5, hr5⟩, V, hV, hVr⟩ := hJ
        have hn5 := hr5.2.1.1
        subst hn5
        obtain ⟨q0, q1, qf⟩ := hr5.at_
        have hBw := hr5.2.2.2.2.2.2.1
        obtain ⟨f, rfl⟩ : ∃ f', f = f' + 1 := ⟨f - 1, by omega⟩
        have hVl : V.length = done.length := hVr.1
        obtain ⟨Ao, co, hve, hco⟩ := hV.openN done.length hVl
        subst hve
        by_cases hr0 : rest = []
        · subst hr0
          rw [decL_done] at hdec
          have HT : Hid (decL (xs.length + 1) body [] = some done) := hid (by rw [hdec]; simp)
          have HRO : Hid (ROw wr w.heap.size (.slice Ao done.length co) done) := hid ⟨V, hV, hVr⟩
          obtain ⟨A6, c6, hv6, hc6, hre⟩ := HRO.out.len (by omega)
          injection hv6 with e1 e2 e3
          subst e1
          have HRE := hid hre
          have HRX := hid (H.out.below hBw)
          have HFin : Hid (decF xs = if fitB done = true ∧ encK done = xs then some done else none) := hid (by rw [HD.out, HT.out]; rfl)
          clear HJ hr5 hV hVr hre hdec q1 qf hlv hdn hf e2 e3 HD HT
          have hz0 : decide ((0 : Int) < (([] : List UInt8).length : Int)) = false := by decide
          by_cases hfit : FitK done
          · have HEn := hid (encode_fit Ao done.length co done wr HRE.out hfit)
            by_cases hxx : encK done = xs
            · have HYes : Hid (decF xs = some done) := hid (by rw [HFin.out, if_pos ⟨(fitB_iff _).2 hfit, hxx⟩])
              have HEq : Hid (decide (encK done = xs) = true) := hid (decide_eq_true hxx)
              clear hfit hxx HFin
              go_wp2_with (first
                | (go_at_call 29; (with_reducible refine (HEn.out).mono ?_); rintro r w7 ⟨v7, rfl, ho7, hb7⟩; obtain ⟨A7, c7, rfl, hr7, _⟩ := ho7.open_; have HR7 := hid hr7; have HB7 := hid hb7; clear ho7 hr7 hb7)
                | (go_at_call 24; (with_reducible refine (equal_any A7 _ c7 _ A n c xs _ HR7.out (HRX.out.below HB7.out)).mono ?_); rintro r w8 ⟨rfl, rfl⟩; rw [HEq.out]))
              go_ret2
              exact DecC.yes HYes.out (HRO.out.below HB7.out) (below_then hBw HB7.out)
            · have HNo : Hid (decF xs = none) := hid (by rw [HFin.out, if_neg (fun h => hxx h.2)])
              have HEq : Hid (decide (encK done = xs) = false) := hid (decide_eq_false hxx)
              clear hfit hxx HFin
              go_wp2_with (first
                | (go_at_call 29; (with_reducible refine (HEn.out).mono ?_); rintro r w7 ⟨v7, rfl, ho7, hb7⟩; obtain ⟨A7, c7, rfl, hr7, _⟩ := ho7.open_; have HR7 := hid hr7; have HB7 := hid hb7; clear ho7 hr7 hb7)
                | (go_at_call 24; (with_reducible refine (equal_any A7 _ c7 _ A n c xs _ HR7.out (HRX.out.below HB7.out)).mono ?_); rintro r w8 ⟨rfl, rfl⟩; rw [HEq.out]))
              go_ret2
              exact DecC.no HNo.out 3 (by omega) (below_then hBw HB7.out)
          · have HNo : Hid (decF xs = none) := hid (by rw [HFin.out, if_neg (fun h => hfit ((fitB_iff _).1 h.1))])
            have HBad : Hid (∀ E7, BkC done E7 → E7 ≠ 0) := hid (fun E7 h => BkC.bad hfit h)
            clear hfit HFin
            go_wp2_with (go_at_call 29; (with_reducible refine (encode_any Ao done.length co done _ HRE.out).mono ?_); rintro r w7 ⟨E7, v7, rfl, hbk, ho7, hb7⟩; have hE7 := HBad.out E7 hbk; have hE7b : ((E7 : Int) != 0) = true := (by simpa using hE7); have HB7 := hid hb7; clear hbk ho7 hb7)
            go_ret2
            exact DecC.no HNo.out 3 (by omega) (below_then hBw HB7.out)
        · have hpos : 0 < rest.length := List.length_pos_iff.2 hr0
          have hz1 : decide ((0 : Int) < (rest.length : Int)) = true := decide_eq_true (by omega)
          have HEn := hid (entry_any b A5 rest.length c5 rest L5 m5 d5 last w wr hr5)
          have HR5 := hid hr5
          cases hk : entK rest last with
          | none =>
            rw [decL_none hr0 hk] at hdec
            have HNo : Hid (decF xs = none) := hid (by rw [HD.out, hdec]; rfl)
            have HK := hid hk
            clear HJ hr5 hV hVr hdec hlv hdn hf hk hr0 HD
            go_wp2_with (go_at_call 65; refine (HEn.out).mono ?_; intro r w1 hec; unfold EntyC at hec; rw [HK.out] at hec; obtain ⟨⟨er, her, rfl⟩, hg1⟩ := hec; have hzb : (er != 0) = true := (by simpa using her); have HB1 := hid (Below.grown hBw hg1 hBw.size (fun k hk => by cases hk; exact HR5.out.2.2.2.2.2.2.2)))
            go_ret2
            exact DecC.no HNo.out er her (below_alloc' HB1.out _)
          | some p =>
            obtain ⟨x, ys⟩ := p
            have hless := entK_less hk
            rw [decL_some hr0 hk] at hdec
            have HDec : Hid (decL (xs.length + 1) body [] = (decL f ys (eKey x)).map ((done ++ [x]) ++ ·)) := hid (by rw [hdec, Option.map_map]; congr 1; funext l; simp)
            have HK := hid hk
            have HV := hid hV
            have HVr := hid hVr
            clear HJ hr5 hV hVr hdec hk hr0 hlv
            go_wp2_with (first
              | (go_at_call 65; refine (HEn.out).mono ?_; intro r w1 hec; unfold EntyC at hec; rw [HK.out] at hec; obtain ⟨kv, vv, rfl, ok, ov, hr1, hg1⟩ := hec; obtain ⟨Ak, ck, rfl, _, _⟩ := ok.open_; obtain ⟨Av, cv, rfl, _, _⟩ := ov.open_; have hV1 := HV.out.other hg1 (.inr (HV.out.ne_blk HR5.out.1 (by decide))); have hVr1 : RelV noEnt (PEo w1 w.heap.size) V done := HVr.out.mono fun x a hx => hx.box HR5.out hg1; have HB1 := hid (Below.grown hBw hg1 hBw.size (fun k hk => by cases hk; exact HR5.out.2.2.2.2.2.2.2)); have HW := hid (⟨hV1, hVr1, ok.mono hBw.size, ov.mono hBw.size, hr1⟩ : _ ∧ _ ∧ _ ∧ _ ∧ _); clear ok ov hV1 hVr1 hr1)
              | (at_builtin; go_loud (refine wpV_append1 22 29 _ 5 72 Tryd.underlying22 eninfo rfl (by omega) w (w1.alloc (.cells #[.slice Ak (eKey x).length ck, .int .i64 (eSeq x), .bool (eGone x), .int .i64 (eTil x), .slice Av (eVal x).length cv] 29)) w.heap.size rfl (.tmp 58) (.tmp 60) rfl (.slice Ao done.length co) V rfl (HW.out.1.below (below_alloc' (Below.refl _ _) _)) #[.slice Ak (eKey x).length ck, .int .i64 (eSeq x), .bool (eGone x), .int .i64 (eTil x), .slice Av (eVal x).length cv] rfl (ones5 rfl rfl rfl rfl rfl) 1 _ (by first | rfl | simp) rfl (by rw [hVl]; simp only [maxLen]; omega) (by rw [hVl]; omega) (below_alloc' HB1.out _) (below_alloc' HB1.out _).size ?_); intro v3 w3 hown3 hB3 hg3 _; obtain ⟨A3, c3, rfl, _⟩ := hown3.openN (done.length + 1) (by simp [hVl])))
            have hba := below_alloc' (Below.refl w1.heap.size w1) (.cells #[.slice Ak (eKey x).length ck, .int .i64 (eSeq x), .bool (eGone x), .int .i64 (eTil x), .slice Av (eVal x).length cv] 29)
            have HN : Hid (DJ w w3 b (.slice A3 (done.length + 1) c3) (done ++ [x]) ys (eKey x)) := hid (by
              obtain ⟨q1, q2, q3, q4, A9, n9, c9, L9, m9, d9, q5⟩ := HW.out
              exact DJ.push ⟨A9, n9, c9, L9, m9, d9, q5.below hba⟩ (q1.below hba) (q2.mono fun x a hx => hx.below hba) (q3.below hba) (q4.below hba) hg3 hown3)
            go_roundw
            case rel => exact ⟨done ++ [x], ys, eKey x, f, HN.out, HDec.out, by omega, by simp; omega, by simp [lenV]⟩
            case measure => simp [lenV]; omega
end Go.Proofs.YtkkclkknpjapcaaDoor
