/- Layer 16's laws: rows merged in another order: the plain law; what the walk holds. -/
import Derived.Test.YtnjhiiakpndnnaaMgZ
import Derived.Test.YtnjhiiakpndnnaaMgIt
namespace Go.Proofs.Ytnjhiiakpndnnaa
open Go.RowKit
set_option linter.unusedVariables false
set_option linter.unusedSimpArgs false

/-- An entry's key and number alone. -/
def nrm (e : EntR) : EntR := mkEnt (eKey e) (eSeq e) false 0 []
theorem nrm_same {a b : EntR} : nrm a = nrm b ↔ sameE a b := by
  constructor
  · intro h
    exact ⟨(congrArg eKey h : eKey (nrm a) = eKey (nrm b)), (congrArg eSeq h : eSeq (nrm a) = eSeq (nrm b))⟩
  · intro h
    unfold nrm
    rw [h.1, h.2]
theorem wsrt_nrm {l : List EntR} (h : WSrt l) : WSrt (l.map nrm) := by
  unfold WSrt at *
  rw [List.pairwise_map]
  exact h
theorem wsrt_same {l m : List EntR} (hl : WSrt l) (hm : WSrt m) (hp : l.Perm m) : l.map nrm = m.map nrm := by
  refine (hp.map _).eq_of_pairwise (le := fun a b => aheadE b a = false) ?_ (wsrt_nrm hl) (wsrt_nrm hm)
  intro a b ha hb h1 h2
  obtain ⟨x, _, rfl⟩ := List.mem_map.1 ha
  obtain ⟨y, _, rfl⟩ := List.mem_map.1 hb
  have h := ahead_total h2 h1
  exact nrm_same.2 h
theorem wsrt_at {l m : List EntR} (hl : WSrt l) (hm : WSrt m) (hp : l.Perm m) {k : Nat} (hk : k < l.length) : sameE (elt noEnt l k) (elt noEnt m k) := by
  have h := wsrt_same hl hm hp
  have hlm : l.length = m.length := hp.length_eq
  have hg : (l.map nrm)[k]? = (m.map nrm)[k]? := by rw [h]
  rw [List.getElem?_map, List.getElem?_map, List.getElem?_eq_getElem hk, List.getElem?_eq_getElem (by omega)] at hg
  rw [elt_get noEnt hk, elt_get noEnt (by omega)]
  exact nrm_same.1 (Option.some.inj hg)
theorem rev_flat : ∀ (R : List (List EntR)), R.reverse.flatten.Perm R.flatten := by
  intro R
  induction R with
  | nil => exact List.Perm.refl _
  | cons x R ih =>
    rw [List.reverse_cons, List.flatten_append, List.flatten_cons]
    simp only [List.flatten_cons, List.flatten_nil, List.append_nil]
    exact List.perm_append_comm.trans (ih.append_left x)
theorem er_rev {R : List (List EntR)} {k : Nat} (hk : k < R.length) : er R.reverse k = er R (R.length - 1 - k) := by
  rw [er, er, elt_get [] (by rw [List.length_reverse]; exact hk), elt_get [] (by omega), List.getElem_reverse]
theorem AllS.rev {R : List (List EntR)} (h : AllS R.length R) : AllS R.reverse.length R.reverse := by
  intro k hk
  rw [List.length_reverse] at hk
  rw [er_rev hk]
  exact h _ (by omega)
theorem SmallR.rev {R : List (List EntR)} (h : SmallR R) : SmallR R.reverse :=
  SmallO.rows fun e he => h.flat e ((rev_flat R).mem_iff.1 he)
theorem tot_rev (R : List (List EntR)) : totR R.reverse = totR R := by
  rw [totR_flat, totR_flat, (rev_flat R).length_eq]
/-- What the two merges have to do with one another. -/
def TurnP (o o2 : List EntR) (N : Nat) : Prop := o.length = N ∧ o2.length = N ∧ (∀ k, k < N → aheadR (elt noEnt o k) (elt noEnt o2 k) = 0) ∧ (∀ k, 0 < k → k < N → aheadR (elt noEnt o (k - 1)) (elt noEnt o k) ≤ 0) ∧ (Srt o → o2 = o) ∧ SmallO o
theorem ahead_le {a b : EntR} (h : aheadE b a = false) : aheadR a b ≤ 0 := by
  rcases ahead_tri a b with h1 | h1 | h1
  · have := aheadR_neg.2 h1
    omega
  · rw [h1] at h
    cases h
  · rw [aheadR_zero.2 h1]
    exact Int.le_refl _
theorem turn_law {R : List (List EntR)} {o o2 : List EntR} (hs : AllS R.length R) (hsm : SmallR R) (ho : MRel R o) (ho2 : MRel R.reverse o2) : TurnP o o2 (totR R) := by
  have hw := ho.sorted hs
  have hw2 := ho2.sorted hs.rev
  have hp : o.Perm o2 := ho.perm.trans ((rev_flat R).symm.trans ho2.perm.symm)
  have hl : o.length = totR R := by rw [ho.perm.length_eq, totR_flat]
  refine ⟨hl, by rw [← hp.length_eq]; exact hl, fun k hk => ?_, fun k h0 hk => ?_, fun hst => ?_, fun e he => hsm.flat e (ho.perm.mem_iff.1 he)⟩
  · exact aheadR_zero.2 (wsrt_at hw hw2 hp (by omega))
  · refine ahead_le ?_
    rw [elt_get noEnt (by omega), elt_get noEnt (by omega)]
    exact List.pairwise_iff_getElem.1 hw (k - 1) k (by omega) (by omega) (by omega)
  · exact (Srt.perm_eq hst (sub_srt (l := []) (b := []) hw2 hst (by simpa using hp.symm)) hp).symm
/-! ## What the walk holds -/
def PRd (w2 : World) (x : List Value) (es : List EntR) : Prop := ∃ A n c, x = [.slice A n c] ∧ REnts w2 A n es ∧ n ≤ c
/-- The rows in the other order, so far. -/
def BackJ (w2 wr : World) (v : Value) (R : List (List EntR)) (k : Nat) : Prop := ∃ V, OV wr w2.heap.size 27 1 v V ∧ RelV [] (PRd w2) V (R.reverse.take k) ∧ V.length = k ∧ Below w2.heap.size w2 wr
theorem BackJ.reads {w2 wr : World} {v : Value} {R : List (List EntR)} {n : Nat} (hn : R.length = n) (h : BackJ w2 wr v R n) (hm : n ≤ 9223372036854775807) : ∃ A c, v = .slice A n c ∧ n ≤ c ∧ REnss wr A n R.reverse := by
  subst hn
  obtain ⟨V, h1, h2, hl, hB⟩ := h
  rw [List.take_of_length_le (by rw [List.length_reverse]; exact Nat.le_refl _)] at h2
  rcases Nat.eq_zero_or_pos V.length with h0 | h0
  · obtain ⟨A, c, rfl, hc⟩ := h1.open_
    exact ⟨A, c, by rw [hl], by omega, by rw [List.length_reverse], hm, fun hn => absurd hn (by omega)⟩
  · obtain ⟨g, c, rfl, _, _, hc⟩ := h1.form h0
    refine ⟨_, c, by rw [hl], by omega, by rw [List.length_reverse], hm, fun _ => ⟨_, rfl, fun j hj => ?_⟩⟩
    obtain ⟨A, n, d, hx, hr, hd⟩ := h2.2 j (by omega)
    have hce := h1.cell (j := j) (i := 0) (by omega) (by omega)
    rw [hx] at hce
    refine ⟨A, n, d, ?_, hr.below hB, hd⟩
    rw [add_plain, Nat.zero_add]
    simpa using hce
theorem BackJ.step {w2 w' : World} {v' : Value} {R : List (List EntR)} {k : Nat} {V : List (List Value)} {A : Option Addr} {n c : Nat} (hr : RelV [] (PRd w2) V (R.reverse.take k)) (hl : V.length = k) (hk : k < R.length) (he : REnts w2 A n (er R (R.length - 1 - k))) (hc : n ≤ c) (hv : OV w' w2.heap.size 27 1 v' (V ++ [[.slice A n c]])) (hb : Below w2.heap.size w2 w') : BackJ w2 w' v' R (k + 1) := by
  refine ⟨_, hv, ?_, by simp [hl], hb⟩
  rw [List.take_succ_eq_append_getElem (by rw [List.length_reverse]; exact hk)]
  refine hr.snoc ⟨A, n, c, rfl, ?_, hc⟩
  rw [← er_rev hk, er, elt_get [] (by rw [List.length_reverse]; exact hk)] at he
  exact he
/-- What Merge leaves of rows in order, so many entries in all. -/
def FineN (w w' : World) (ess : List (List EntR)) (N : Nat) (r : Ending) : Prop := ∃ A c out, r = .returned (.tuple #[.slice A N c, .int .i64 0]) ∧ MRel ess out ∧ N ≤ c ∧ REnts w' A N out ∧ Below w.heap.size w w'
theorem merge_len (A : Option Addr) (n c : Nat) (ess : List (List EntR)) (w : World) (h : REnss w A n ess) (hs : AllS ess.length ess) (h6 : n ≤ 64) (hsm : SmallR ess) (N : Nat) (hN : totR ess = N) (hf : N ≤ 40000) :
    Calls Try.prog 12 #[.slice A n c] w fun r w' => FineN w w' ess N r := by
  refine (merge_fine A n c ess w h (by rw [h.1] at hs; exact hs) h6 (by omega) hsm).mono ?_
  rintro r w' ⟨A3, c3, o, rfl, hm, hc, hr, hb⟩
  have hl : o.length = N := by rw [hm.perm.length_eq, ← totR_flat, hN]
  rw [hl] at hr hc ⊢
  exact ⟨A3, c3, o, rfl, hm, hc, hr, hb⟩
def IterN (w4 w' : World) (A : Option Addr) (c : Nat) (o : List EntR) (k : Nat) : Prop := IterJ w4 w' A c o k
def NewN (w w' : World) (o : List EntR) (r : Ending) : Prop := ∃ w4 A c, r = .returned (.tuple #[.pointer (some ⟨w4.heap.size, 0, none⟩), .int .i64 0]) ∧ IterJ w4 w' A c o 0 ∧ Below w.heap.size w w4
theorem new_len (A : Option Addr) (n c : Nat) (ess : List (List EntR)) (w : World) (h : REnss w A n ess) (hs : AllS ess.length ess) (h6 : n ≤ 64) (hsm : SmallR ess) (hf : totR ess ≤ 40000) {o : List EntR} (ho : MRel ess o) :
    Calls Try.prog 15 #[.slice A n c] w fun r w' => NewN w w' o r := by
  refine (new_any A n c ess w h (by rw [h.1] at hs; exact hs) h6 hf hsm).mono ?_
  rintro r w' ⟨w4, A3, c3, o3, rfl, hm, hj, hb⟩
  have := MRel.unique hm ho
  subst this
  exact ⟨w4, A3, c3, rfl, hj, hb⟩
end Go.Proofs.Ytnjhiiakpndnnaa
