/- Layer 8: entries as the document has them; entries alike. -/
import Derived.Test.YtdhmonomhifkkaaBaS
namespace Go.Proofs.Ytdhmonomhifkkaa
open Go.RowKit
set_option linter.unusedVariables false
set_option linter.unusedSimpArgs false

/-- An entry's cells, read in a world. -/
def PEnR (w : World) (x : List Value) (e : EnR) : Prop :=
  ∃ Ak nk ck Av nv cv, x = [.slice Ak nk ck, .int .i64 (enSeq e), .bool (opGone (enOp e)), .int .i64 (opTil (enOp e)), .slice Av nv cv] ∧ RB w Ak nk (opKey (enOp e)) ∧ RB w Av nv (opVal (enOp e))
theorem PEn.reads {w : World} {base : Nat} {x : List Value} {e : EnR} (h : PEn w base x e) : PEnR w x e := by
  obtain ⟨kv, vv, rfl, h1, h2⟩ := h
  obtain ⟨Ak, ck, rfl, hrk, _⟩ := h1.open_
  obtain ⟨Av, cv, rfl, hrv, _⟩ := h2.open_
  exact ⟨Ak, _, ck, Av, _, cv, rfl, hrk, hrv⟩
theorem PEnR.below {w w' : World} {x : List Value} {e : EnR} (h : PEnR w x e) (hb : Below w.heap.size w w') : PEnR w' x e := by
  obtain ⟨Ak, nk, ck, Av, nv, cv, e, h1, h2⟩ := h
  exact ⟨Ak, nk, ck, Av, nv, cv, e, h1.below hb, h2.below hb⟩
def entX (s : Int) (ops : List OpR) : List EnR := if mayE s ops = 0 then entL s ops ops.length else []
theorem entX_len (s : Int) (ops : List OpR) : (entX s ops).length ≤ 400 := by
  unfold entX
  split
  · rename_i h
    rw [entL_len]
    exact (mayE_zero h).2.1
  · simp
def EntC (w w' : World) (s : Int) (ops : List OpR) (e : Ending) : Prop :=
  ∃ v V, e = .returned (.tuple #[v, .int .i64 (mayE s ops)]) ∧ OV w' w.heap.size 41 5 v V ∧ RelV noEn (PEnR w') V (entX s ops) ∧ Below w.heap.size w w'
theorem entries_all (s : Int) (A : Option Addr) (n c : Nat) (ops : List OpR) (w : World) (h : ROps w A n ops) (hs : -9223372036854775808 ≤ s ∧ s ≤ 9223372036854775807) :
    Calls Try.prog 13 #[.agg #[.int .i64 s, .slice A n c]] w fun e w' => EntC w w' s ops e := by
  by_cases hz : mayE s ops = 0
  · refine (entries_any s A n c ops w h hs hz).mono ?_
    rintro e w1 ⟨v, V, rfl, h1, h2, h3⟩
    refine ⟨v, V, by rw [hz], h1, ?_, h3⟩
    unfold entX
    rw [if_pos hz, h.1]
    exact h2.mono fun x a hx => hx.reads
  · refine (entries_bad s A n c ops w h hs hz).mono ?_
    rintro e w1 ⟨rfl, h3⟩
    refine ⟨_, [], rfl, OV.nil _ _ _ _, ?_, h3⟩
    unfold entX
    rw [if_neg hz]
    exact RelV.nil
set_option maxHeartbeats 16000000 in
set_option maxRecDepth 100000 in
theorem refentries_all (s : Int) (A : Option Addr) (n c : Nat) (ops : List OpR) (w : World) (h : ROps w A n ops) (hs : -9223372036854775808 ≤ s ∧ s ≤ 9223372036854775807) :
    Calls Try.prog 14 #[.agg #[.int .i64 s, .slice A n c]] w fun e w' => EntC w w' s ops e := by
  have hl := h.1
  have H := hid h
  clear h
  by_cases hz : mayE s ops = 0
  · obtain ⟨m1, m2, m3, m4, m5⟩ := mayE_zero hz
    rw [hl] at m1 m2 m4 m5
    have HE := hid hz
    have HX : Hid (entX s ops = entL s ops n) := by unfold entX; rw [if_pos hz, hl]; exact rfl
    have H5 := hid m5
    clear hz m5 hl
    go_enter Try.func14, Try.ntmps14
    go_wp2_with (go_at_call 10; (with_reducible refine (refmay_any s A n c ops _ (H.out.below (below_alloc' (Below.refl _ _) _)) hs).mono ?_); rintro e w1 ⟨rfl, hbx⟩; rw [HE.out]; have hbk := blk_grown' (below_grown hbx none) (heap_alloc_new w _) (by simp); have hx1 := box_at hbk 1 (.slice A n c) rfl; have hb1 := below_then (below_alloc' (Below.refl _ _) _) hbx)
    go_loopw [5, 16] (fun v i wr => ∃ (k : Nat) (V : List (List Value)), k ≤ n ∧ i = .int .i64 k ∧ OV wr w.heap.size 41 5 v V ∧ RelV noEn (PEnR w) V (entL s ops k) ∧ wr.heap[w.heap.size]? = some (.cells #[.int .i64 s, .slice A n c] 24 (0, 0)) ∧ Below w.heap.size w wr) (fun v i wr => n - (intOf i).toNat)
    case atStart => exact ⟨0, [], Nat.zero_le _, rfl, OV.nil _ _ _ _, RelV.nil, hbk, hb1⟩
    case round =>
      obtain ⟨k, V, hk, rfl, hown, hrel, hbox, hB⟩ := hrel
      by_cases hlt : k < n
      · obtain ⟨ad, rfl, hcells⟩ := H.out.at_ hlt
        obtain ⟨Ak, nk, ck, Av, nv, cv, hc0, hc1, hc2, hc3, hrk, hck, hrv, hcv, hwf⟩ := hcells
        have hent : entL s ops (k + 1) = entL s ops k ++ [mkEn (s + k) (elt noOp ops k)] := rfl
        generalize elt noOp ops k = o at *
        have hc0 := below_cell hB hc0
        have hc1 := below_cell hB hc1
        have hc2 := below_cell hB hc2
        have hc3 := below_cell hB hc3
        have hVl : V.length = k := by rw [hrel.1, entL_len]
        have hws : wrap64 (s + (k : Int)) = s + (k : Int) := by unfold wrap64; omega
        have hws2 : IntKind.i64.wrap (s + (k : Int)) = s + (k : Int) := by rw [IntKind.wrap_i64]; omega
        have hq0 : ∀ ob, (wr.alloc ob).cell? ⟨w.heap.size, 0, none⟩ = some (.int .i64 s) := fun ob => box_at (blk_below (below_alloc' (Below.refl wr.heap.size wr) ob) hbox) 0 _ rfl
        have hrel2 : RelV noEn (PEnR w) (V ++ [[.slice Ak nk ck, .int .i64 (s + k), .bool (opGone o), .int .i64 (opTil o), .slice Av nv cv]]) (entL s ops (k + 1)) := by
          rw [hent]
          exact hrel.snoc ⟨Ak, nk, ck, Av, nv, cv, rfl, hrk, hrv⟩
        have HV := hid hVl
        clear hent hrel hwf hVl
        go_wp2_with (at_builtin; refine wpV_append1 36 41 _ 5 72 Try.underlying36 eninfo rfl (by omega) w (wr.alloc (.cells #[.slice Ak nk ck, .bool (opGone o), .int .i64 (opTil o), .slice Av nv cv] 28)) w.heap.size rfl (.tmp 21) (.tmp 35) rfl u5 V rfl (hown.below (below_alloc' (Below.refl _ _) _)) #[.slice Ak nk ck, .int .i64 (s + k), .bool (opGone o), .int .i64 (opTil o), .slice Av nv cv] rfl (ones5 rfl rfl rfl rfl rfl) 1 _ (by simp) rfl (by rw [HV.out]; simp only [maxLen]; omega) (by rw [HV.out]; omega) (below_alloc' hB _) (below_alloc' hB _).size ?_; intro v3 w3 hown3 hB3 hg3 _)
        have hbox3 := blk_grown' hg3 (blk_below (below_alloc' (Below.refl wr.heap.size wr) _) hbox) (hown.ne_blk hbox (by decide))
        go_roundw
        case rel => exact ⟨k + 1, _, by omega, by go_num, hown3, hrel2, hbox3, hB3⟩
        case measure => simp [intOf]; omega
      · obtain rfl : k = n := by omega
        go_wp2
        go_ret2
        exact ⟨u5, V, by rw [HE.out]; rfl, hown, by rw [HX.out]; exact hrel.mono fun x a hx => hx.below hB, hB⟩
  · obtain ⟨E, hE⟩ : ∃ E, E = mayE s ops := ⟨_, rfl⟩
    have hX : entX s ops = [] := by unfold entX; rw [if_neg hz]
    rw [← hE] at hz
    have hzb : (E != 0) = true := by simpa using hz
    have HE := hid hE
    clear hE hz hl
    go_enter Try.func14, Try.ntmps14
    go_wp2_with (go_at_call 10; (with_reducible refine (refmay_any s A n c ops _ (H.out.below (below_alloc' (Below.refl _ _) _)) hs).mono ?_); rintro e w1 ⟨rfl, hbx⟩; rw [← HE.out])
    go_ret2
    exact ⟨.slice none 0 0, [], by rw [← HE.out]; rfl, OV.nil _ _ _ _, by rw [hX]; exact RelV.nil, below_then (below_alloc' (Below.refl _ _) _) hbx⟩
set_option maxHeartbeats 16000000 in
theorem sameentry_any (A1 : Option Addr) (n1 c1 : Nat) (B1 : Option Addr) (m1 d1 : Nat) (A2 : Option Addr) (n2 c2 : Nat) (B2 : Option Addr) (m2 d2 : Nat) (q : Int) (g : Bool) (t : Int) (key val : List UInt8) (w : World)
    (h1 : RB w A1 n1 key) (h2 : RB w B1 m1 val) (h3 : RB w A2 n2 key) (h4 : RB w B2 m2 val) :
    Calls Try.prog 24 #[.agg #[.slice A1 n1 c1, .int .i64 q, .bool g, .int .i64 t, .slice B1 m1 d1], .agg #[.slice A2 n2 c2, .int .i64 q, .bool g, .int .i64 t, .slice B2 m2 d2]] w fun e w' => e = .returned (.bool true) ∧ Below w.heap.size w w' := by
  have k1 := fun ob ob' => RB.conv ((h1.alloc ob).alloc ob') c1
  have k2 := fun ob ob' => RB.conv ((h2.alloc ob).alloc ob') d1
  have k3 := fun ob ob' => RB.conv ((h3.alloc ob).alloc ob') c2
  have k4 := fun ob ob' => RB.conv ((h4.alloc ob).alloc ob') d2
  clear h1 h2 h3 h4
  go_enter Try.func24, Try.ntmps24
  go_wp2
  go_ret
  exact ⟨rfl, below_alloc' (below_alloc' (Below.refl _ _) _) _⟩
end Go.Proofs.Ytdhmonomhifkkaa
