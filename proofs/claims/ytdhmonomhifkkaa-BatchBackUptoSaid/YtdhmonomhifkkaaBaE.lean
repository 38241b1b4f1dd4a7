/- Layer 8: a batch as bytes: the walks of both encoders. -/
import Derived.Test.YtdhmonomhifkkaaBaM
import Derived.Test.YtdhmonomhifkkaaVintQ
import Derived.Test.YtdhmonomhifkkaaRF2
namespace Go.Proofs.Ytdhmonomhifkkaa
open Go.RowKit
set_option linter.unusedVariables false
set_option linter.unusedSimpArgs false

theorem firstE_zero {ops : List OpR} : ∀ n, firstE ops n = 0 → ∀ j, j < n → opE (elt noOp ops j) = 0 := by
  intro n
  induction n with
  | zero => intro _ j hj; omega
  | succ n ih =>
    intro h j hj
    rw [firstE] at h
    split at h
    · rename_i h1; exact absurd h h1
    · rename_i h1
      by_cases e : j = n
      · rw [e]; exact h
      · exact ih (by simpa using h1) j (by omega)
theorem opE_zero {o : OpR} (h : opE o = 0) : 0 < (opKey o).length ∧ (opKey o).length ≤ 512 ∧ (opVal o).length ≤ 2048 ∧ 0 ≤ opTil o ∧ opTil o ≤ 4611686018427387904 ∧ (opGone o = true → opTil o = 0 ∧ (opVal o).length = 0) := by
  unfold opE mayOpE at h
  split at h
  · cases h
  · rename_i h1
    split at h
    · cases h
    · rename_i h2
      refine ⟨by omega, by omega, by omega, by omega, by omega, fun hg => ?_⟩
      simp only [hg, true_and] at h1
      omega
theorem mayE_zero {s : Int} {ops : List OpR} (h : mayE s ops = 0) : 1 ≤ ops.length ∧ ops.length ≤ 400 ∧ 1 ≤ s ∧ s ≤ 4611686018427387905 - (ops.length : Int) ∧ ∀ j, j < ops.length → opE (elt noOp ops j) = 0 := by
  unfold mayE at h
  split at h
  · cases h
  · split at h
    · cases h
    · exact ⟨by omega, by omega, by omega, by omega, firstE_zero _ h⟩
/-- A change behind bytes. -/
def opS (o : OpR) (out : List UInt8) : List UInt8 :=
  match opGone o with
  | true => (out ++ [1]) ++ uvar (opKey o).length ++ opKey o
  | false => (((out ++ [0]) ++ uvar (opKey o).length ++ opKey o) ++ uvar (opTil o).toNat) ++ uvar (opVal o).length ++ opVal o
/-- A batch's bytes up to its change k. -/
def accB (s : Int) (ops : List OpR) : Nat → List UInt8
  | 0 => (([] : List UInt8) ++ uvar s.toNat) ++ uvar ops.length
  | k + 1 => opS (elt noOp ops k) (accB s ops k)
theorem opS_len {o : OpR} (h : opE o = 0) (out : List UInt8) : (opS o out).length ≤ out.length + 2600 := by
  obtain ⟨_, h1, h2, _⟩ := opE_zero h
  have e1 := uvar_len (opKey o).length
  have e2 := uvar_len (opTil o).toNat
  have e3 := uvar_len (opVal o).length
  unfold opS
  split <;> simp only [List.length_append, List.length_singleton] <;> omega
theorem accB_len {s : Int} {ops : List OpR} (h : ∀ j, j < ops.length → opE (elt noOp ops j) = 0) : ∀ k, k ≤ ops.length → (accB s ops k).length ≤ 20 + k * 2600 := by
  intro k
  induction k with
  | zero =>
    intro _
    have e1 := uvar_len s.toNat
    have e2 := uvar_len ops.length
    simp only [accB, List.length_append, List.length_nil]
    omega
  | succ k ih =>
    intro hk
    have := ih (by omega)
    have := opS_len (h k (by omega)) (accB s ops k)
    rw [accB]
    omega
def encB (s : Int) (ops : List OpR) : List UInt8 := if mayE s ops = 0 then accB s ops ops.length else []
theorem OB.lit1 (w : World) (base : Nat) (hb : base ≤ w.heap.size) (x : UInt8) (z : Int) (hz : z = x.toNat) : OB (w.alloc (.cells #[.int .u8 z] 5)) base (.slice (some ⟨w.heap.size, 0, none⟩) 1 1) [x] := by
  subst hz
  exact ⟨by simp [bys], .inr ⟨w.heap.size, 1, _, rfl, hb, heap_alloc_new w _, Nat.le_refl _, by decide, rfl, by simp [bys]⟩⟩
theorem box_cell (w : World) {cs : Array Value} {e : TypeId} {fr : Nat × Nat} (i : Nat) {v : Value} (h : cs[i]? = some v) : (w.alloc (.cells cs e fr)).cell? ⟨w.heap.size, i, none⟩ = some v :=
  (cell_of_row _ _ i cs e fr (heap_alloc_new w _)).trans h
theorem wrap_u64_nat (a : Nat) (h : a < 18446744073709551616) : IntKind.u64.wrap (a : Int) = a := by rw [IntKind.wrap_u64]; omega
theorem cell_grown {w w' : World} {row : Option Nat} (hg : w.grownBy w' row) {ad : Addr} {v : Value} (h : w.cell? ad = some v) (hne : row ≠ some ad.block) : w'.cell? ad = some v := hg.cell h (Ne.symm hne)
theorem blk_grown {w w' : World} {row : Option Nat} {b : Nat} {o : Obj} (hg : w.grownBy w' row) (h : w.heap[b]? = some o) (hne : row ≠ some b) : w'.heap[b]? = some o := by
  have hlt : b < w.heap.size := by
    rcases Nat.lt_or_ge b w.heap.size with h1 | h1
    · exact h1
    · rw [Array.getElem?_eq_none h1] at h; cases h
  rw [hg.block b hlt (Ne.symm hne)]; exact h
theorem box_at {w : World} {b : Nat} {cs : Array Value} {e : TypeId} {fr : Nat × Nat} (h : w.heap[b]? = some (.cells cs e fr)) (i : Nat) (v : Value) (hv : cs[i]? = some v) : w.cell? ⟨b, i, none⟩ = some v := (cell_of_row _ _ i cs e fr h).trans hv
theorem OB.ne_box {w : World} {base b : Nat} {v : Value} {xs : List UInt8} {cs : Array Value} {e : TypeId} {fr : Nat × Nat} (h : OB w base v xs) (hb : w.heap[b]? = some (.cells cs e fr)) (he : e ≠ 5) : v.ownBlock ≠ some b := by
  obtain ⟨_, h2⟩ := h
  rcases h2 with ⟨rfl, _⟩ | ⟨g, cap, cur, rfl, _, hh, _⟩
  · intro e; cases e
  · intro e1
    have e2 : g = b := Option.some.inj e1
    rw [e2, hb] at hh
    injection hh with hh
    injection hh with _ hh _
    exact he hh
set_option maxHeartbeats 16000000 in
set_option maxRecDepth 100000 in
theorem encode_any (s : Int) (A : Option Addr) (n c : Nat) (ops : List OpR) (w : World) (h : ROps w A n ops) (hs : -9223372036854775808 ≤ s ∧ s ≤ 9223372036854775807) :
    Calls Try.prog 7 #[.agg #[.int .i64 s, .slice A n c]] w fun e w' => ∃ v, e = .returned (.tuple #[v, .int .i64 (mayE s ops)]) ∧ OB w' w.heap.size v (encB s ops) ∧ Below w.heap.size w w' := by
  have hl := h.1
  have hm := h.2.1
  have H := hid h
  clear h
  obtain ⟨E, hE⟩ : ∃ E, E = mayE s ops := ⟨_, rfl⟩
  obtain ⟨X, hX⟩ : ∃ X, X = encB s ops := ⟨_, rfl⟩
  rw [← hE, ← hX]
  by_cases hz : E = 0
  · subst hz
    have hz2 := hE.symm
    unfold encB at hX
    rw [if_pos hz2, hl] at hX
    obtain ⟨m1, m2, m3, m4, m5⟩ := mayE_zero hz2
    rw [hl] at m1 m2 m4 m5
    have HE := hid hE
    have HX := hid hX
    have H5 := hid m5
    have HL : ∀ k, k ≤ n → (accB s ops k).length ≤ 20 + k * 2600 := by
      intro k hk
      exact accB_len (by rw [hl]; exact m5) k (by omega)
    obtain ⟨g, rfl⟩ : ∃ g : Nat, s = g := ⟨s.toNat, by omega⟩
    have HL2 := hid HL
    have H0 : uvar g ++ uvar n = accB (g : Int) ops 0 := by
      rw [accB, hl]; rfl
    have HA0 := hid H0
    have hu1 := uvar_len g
    clear hE hX m5 HL H0 hz2 hl
    go_enter Try.func7, Try.ntmps7
    go_wp2_with (first
      | (go_at_call 9; (with_reducible refine (may_any g A n c ops _ (H.out.below (below_alloc' (Below.refl _ _) _)) hs).mono ?_); rintro e w1 ⟨rfl, hbx⟩; rw [← HE.out]; have hx0 := below_cell hbx (box_cell w 0 rfl); have hx1 := below_cell hbx (box_cell w 1 rfl); have hb1 := below_then (below_alloc' (Below.refl _ _) _) hbx)
      | (go_at_call 18; (with_reducible refine (put_any none 0 0 [] g _ (RB.nil _) (by omega) (by omega)).mono ?_); rintro e w2 ⟨v2, rfl, hown2, hb2⟩; rw [List.nil_append] at hown2; obtain ⟨A2, c2, rfl, hr2, hc2⟩ := hown2.open_; have hx1 := below_cell hb2 hx1; have hb2 := below_then hb1 hb2)
      | (go_at_call 18; (with_reducible refine (put_any _ _ _ _ n _ hr2 (by omega) (by omega)).mono ?_); rintro e w3 ⟨v3, rfl, hown3, hb3⟩; rw [HA0.out] at hown3; have hx1 := below_cell hb3 hx1; have hown3 := hown3.mono hb2.size; have hb3 := below_then hb2 hb3))
    have hB3 := hb3
    go_loopw [5, 26] (fun v i wr => ∃ k : Nat, k ≤ n ∧ i = .int .i64 k ∧ OB wr w.heap.size v (accB g ops k) ∧ Below w.heap.size w wr) (fun v i wr => n - (intOf i).toNat)
    case atStart => exact ⟨0, Nat.zero_le _, rfl, hown3, hb3⟩
    case round =>
      obtain ⟨k, hk, rfl, hown, hB⟩ := hrel
      have hbw := hB.size
      by_cases hlt : k < n
      · obtain ⟨ad, rfl, hcells⟩ := H.out.at_ hlt
        have ho := H5.out k hlt
        have hlen := HL2.out k hk
        have hacc : accB (g : Int) ops (k + 1) = opS (elt noOp ops k) (accB g ops k) := rfl
        generalize elt noOp ops k = o at hcells ho hacc
        generalize accB (g : Int) ops k = L at hown hlen hacc
        obtain ⟨_, o1, o2, o3, o4, o5⟩ := opE_zero ho
        obtain ⟨Ak, nk, ck, Av, nv, cv, hc0, hc1, hc2, hc3, hrk, hck, hrv, hcv, hwf⟩ := hcells
        have hc0 := below_cell hB hc0
        have hc1 := below_cell hB hc1
        have hc2 := below_cell hB hc2
        have hc3 := below_cell hB hc3
        obtain ⟨key, hkey⟩ : ∃ key, opKey o = key := ⟨_, rfl⟩
        obtain ⟨val, hval⟩ : ∃ val, opVal o = val := ⟨_, rfl⟩
        obtain ⟨til, htil⟩ : ∃ til : Nat, opTil o = til := ⟨(opTil o).toNat, by omega⟩
        obtain ⟨G, hG⟩ : ∃ G, opGone o = G := ⟨_, rfl⟩
        unfold opS at hacc
        rw [hkey, hval, htil, hG, Int.toNat_natCast] at hacc
        rw [hkey] at hrk o1
        rw [hval] at hrv o2
        rw [htil] at hc2 o4
        rw [hG] at hc1
        have hnk := hrk.1
        have hnv := hrv.1
        have HA := hid hacc
        clear hwf o5 o3 hacc ho
        have o4n : til < 18446744073709551616 := by omega
        have huk := uvar_len key.length
        have hut := uvar_len til
        cases G
        · go_wp2
          have hblk : (wr.alloc (.cells #[.slice Ak nk ck, .bool false, .int .i64 til, .slice Av nv cv] 28)).heap[wr.heap.size]? = some (.cells #[.slice Ak nk ck, .bool false, .int .i64 til, .slice Av nv cv] 28 (0, 0)) := heap_alloc_new wr _
          have hownW := hown.alloc (.cells #[.slice Ak nk ck, .bool false, .int .i64 til, .slice Av nv cv] 28)
          have hBW0 := below_alloc' hB (.cells #[.slice Ak nk ck, .bool false, .int .i64 til, .slice Av nv cv] 28)
          have hneW := hownW.ne_box hblk (by decide)
          have hbW0 := hBW0.size
          have hbs := OB.base_ hownW
          generalize wr.alloc (.cells #[.slice Ak nk ck, .bool false, .int .i64 til, .slice Av nv cv] 28) = W0 at *
          generalize wr.heap.size = b at *
          apply wp_region_txtB (w.heap.size) 0 (u5.ownBlock) [none, none, none, none, none, some 6, none, none, none, none, none, none, none, none, none, none, none, none, none, none, none, none, none, none, none, none, none, none, none, none, none, none, none, none, none, none, none, none, some 0, some 1, some 2, some 3, some 4, some 5, none, none, none, none, none, none, none, none, none, none] [0, 1, 2, 5, 6] [(0, 2), (5, 6)] [undef, undef, undef, _, _, undef, undef] [_, _, _, [], [], _, _]
          case hm => rfl
          case hs => rfl
          case hst => kernel_rfl
          case hrow0 => exact fun k hk => (World.ownsRow.lt hownW k hk).2
          case hput => exact OpsOK.cons (fun _ _ => rfl) (OpsOK.cons (fun _ _ => rfl) (OpsOK.cons (fun _ _ => rfl) (OpsOK.cons (fun _ _ => rfl) (OpsOK.cons (fun _ _ => rfl) (OpsOK.cons (fun _ _ => rfl) (OpsOK.cons (fun _ _ => rfl) (OpsOK.nil)))))))
          case hops =>
            refine OpsOK.cons ?_ ?_
            · intro u W K hB hz0 hz1 hd hK
              have hbW := Nat.le_trans hbW0 hB.size
              replace hK := hk_oldB hK rfl (by decide) (by rfl)
              clear hd
              have hw : u 6 = (u5) := (was_of hz1 6 (by kernel_rfl)).trans rfl
              clear hz1
              simp only [lay, Act.put, List.setIfInBounds_toArray, List.set_cons_zero, List.set_cons_succ, hw] at hK ⊢
              go_simp
              exact hK.out _ (OB.below hownW (hz0 rfl)) (fun k hk => hk.symm)
            refine OpsOK.cons ?_ ?_
            · intro u W K hB hz0 hz1 hd hK
              have hbW := Nat.le_trans hbW0 hB.size
              replace hK := hk_rowB hbW hK (by decide) (by decide) (by rfl)
              clear hd
              clear hz1
              simp only [lay, Act.put, List.setIfInBounds_toArray, List.set_cons_zero, List.set_cons_succ] at hK ⊢
              (go_simp; exact hK.out _ _ (OB.lit1 _ _ (Nat.le_refl _) 0 0 rfl) (below_alloc' (Below.refl _ _) _))
            refine OpsOK.cons ?_ ?_
            · intro u W K hB hz0 hz1 hd hK
              have hbW := Nat.le_trans hbW0 hB.size
              have h0 := fact_rowB (dep_of hd 0 (by kernel_rfl) (by kernel_rfl)) (by decide)
              dsimp only [nth] at h0
              have h1 := fact_rowB (dep_of hd 1 (by kernel_rfl) (by kernel_rfl)) (by decide)
              dsimp only [nth] at h1
              replace hK := hk_parB hK (by decide) 0 (by rfl)
              clear hd
              clear hz1
              (obtain ⟨A4, c4, e4, hr4, _⟩ := h1.open_; refine stepB_append W W w.heap.size (.tmp 38) (.tmp 39) (by rfl) (by rfl) (u 0) L (by rfl) h0 A4 _ c4 [0] (by exact e4) hr4 (by simp only [List.length_singleton]; omega) (Below.refl _ _) hbW ?_; intro v' w' a b d f; exact hK.out _ _ (show OB _ _ _ (L ++ [0]) from a) d f)
            refine OpsOK.cons ?_ ?_
            · intro u W K hB hz0 hz1 hd hK
              have hbW := Nat.le_trans hbW0 hB.size
              replace hK := hk_valB hK (by decide) (by rfl)
              clear hd
              clear hz1
              simp only [lay, Act.put, List.setIfInBounds_toArray, List.set_cons_zero, List.set_cons_succ] at hK ⊢
              go_simp
              exact hK.out _ _ rfl (Below.refl _ _)
            refine OpsOK.cons ?_ ?_
            · intro u W K hB hz0 hz1 hd hK
              have hbW := Nat.le_trans hbW0 hB.size
              have h3 := fact_valB (dep_of hd 3 (by kernel_rfl) (by kernel_rfl)) (by decide)
              dsimp only [nth] at h3
              replace hK := hk_valB hK (by decide) (by rfl)
              clear hd
              clear hz1
              simp only [lay, Act.put, List.setIfInBounds_toArray, List.set_cons_zero, List.set_cons_succ, h3] at hK ⊢
              have q0 := box_at (blk_grown hB hblk hneW) 0 (.slice Ak nk ck) rfl
              go_simp
              exact hK.out _ _ rfl (Below.refl _ _)
            refine OpsOK.cons ?_ ?_
            · intro u W K hB hz0 hz1 hd hK
              have hbW := Nat.le_trans hbW0 hB.size
              have h2 := fact_rowB (dep_of hd 2 (by kernel_rfl) (by kernel_rfl)) (by decide)
              dsimp only [nth] at h2
              have h4 := fact_valB (dep_of hd 4 (by kernel_rfl) (by kernel_rfl)) (by decide)
              dsimp only [nth] at h4
              replace hK := hk_rowB hbW hK (by decide) (by decide) (by rfl)
              clear hd
              clear hz1
              simp only [lay, Act.put, List.setIfInBounds_toArray, List.set_cons_zero, List.set_cons_succ, h4] at hK ⊢
              obtain ⟨A5, c5, e5, hr5, _⟩ := h2.openN (L.length + 1) (by rw [List.length_append]; rfl)
              simp only [e5] at hK ⊢
              go_simp
              first
                | (go_at_call 19; (with_reducible refine (putbytes_any A5 _ c5 _ Ak nk ck key _ hr5 (hrk.below (hBW0.grown hB hbW0 hbs)) (by omega)).mono ?_); rintro e w1 ⟨v1, rfl, hown1, hb1⟩; exact hK.out _ _ hown1 hb1)
            refine OpsOK.cons ?_ ?_
            · intro u W K hB hz0 hz1 hd hK
              have hbW := Nat.le_trans hbW0 hB.size
              have h5 := fact_rowB (dep_of hd 5 (by kernel_rfl) (by kernel_rfl)) (by decide)
              dsimp only [nth] at h5
              replace hK := hk_parB hK (by decide) 5 (by rfl)
              clear hd
              clear hz1
              simp only [lay, Act.put, List.setIfInBounds_toArray, List.set_cons_zero, List.set_cons_succ] at hK ⊢
              go_simp
              exact hK.out _ _ h5 (grown_refl _ _) (AtRow.refl _ _)
            exact OpsOK.nil
          intro u W hB hf
          have h1 := fact_rowB (hf 1 (by decide) (by decide)) (by decide)
          dsimp only [nth] at h1
          have h2 := fact_rowB (hf 2 (by decide) (by decide)) (by decide)
          dsimp only [nth] at h2
          have h3 := fact_valB (hf 3 (by decide) (by decide)) (by decide)
          dsimp only [nth] at h3
          have h4 := fact_valB (hf 4 (by decide) (by decide)) (by decide)
          dsimp only [nth] at h4
          have h6 := fact_rowB (hf 6 (by decide) (by decide)) (by decide)
          dsimp only [nth] at h6
          clear hf
          simp only [lay, h3, h4]
          clear h3 h4
          have hBW1 := hBW0.grown hB hbW0 hbs
          have hblk1 := blk_grown hB hblk hneW
          have hneW1 := OB.ne_box h6 hblk1 (by decide)
          have hbs1 := OB.base_ h6
          have hbW1 := hBW1.size
          generalize u 6 = v6 at *
          have HA := HA.out
          have hl2 : (L ++ [0] ++ uvar key.length ++ key).length ≤ L.length + 523 := by simp only [List.length_append, List.length_singleton]; omega
          generalize L ++ [0] ++ uvar key.length ++ key = L2 at HA h6 hl2
          have HA := hid HA
          go_wp2
          apply wp_region_txtB (w.heap.size) 0 (v6.ownBlock) [none, none, none, none, none, some 8, none, none, none, none, none, none, none, none, none, none, none, none, none, none, none, none, none, none, none, none, none, none, none, none, none, none, none, none, none, none, none, none, none, none, none, none, none, none, some 0, some 1, some 2, some 3, some 4, some 5, some 6, some 7, none, none] [0, 4, 7, 8] [(7, 8)] [undef, _, _, _, undef, _, _, undef, undef] [_, [], [], [], _, [], [], _, _]
          case hm => rfl
          case hs => rfl
          case hst => kernel_rfl
          case hrow0 => exact fun k hk => (World.ownsRow.lt h6 k hk).2
          case hput => exact OpsOK.cons (fun _ _ => rfl) (OpsOK.cons (fun _ _ => rfl) (OpsOK.cons (fun _ _ => rfl) (OpsOK.cons (fun _ _ => rfl) (OpsOK.cons (fun _ _ => rfl) (OpsOK.cons (fun _ _ => rfl) (OpsOK.cons (fun _ _ => rfl) (OpsOK.cons (fun _ _ => rfl) (OpsOK.cons (fun _ _ => rfl) (OpsOK.nil)))))))))
          case hops =>
            refine OpsOK.cons ?_ ?_
            · intro u W K hB hz0 hz1 hd hK
              have hbW := Nat.le_trans hbW1 hB.size
              replace hK := hk_oldB hK rfl (by decide) (by rfl)
              clear hd
              have hw : u 8 = (v6) := (was_of hz1 8 (by kernel_rfl)).trans rfl
              clear hz1
              simp only [lay, Act.put, List.setIfInBounds_toArray, List.set_cons_zero, List.set_cons_succ, hw] at hK ⊢
              go_simp
              exact hK.out _ (OB.below h6 (hz0 rfl)) (fun k hk => hk.symm)
            refine OpsOK.cons ?_ ?_
            · intro u W K hB hz0 hz1 hd hK
              have hbW := Nat.le_trans hbW1 hB.size
              replace hK := hk_valB hK (by decide) (by rfl)
              clear hd
              clear hz1
              simp only [lay, Act.put, List.setIfInBounds_toArray, List.set_cons_zero, List.set_cons_succ] at hK ⊢
              go_simp
              exact hK.out _ _ rfl (Below.refl _ _)
            refine OpsOK.cons ?_ ?_
            · intro u W K hB hz0 hz1 hd hK
              have hbW := Nat.le_trans hbW1 hB.size
              have h1 := fact_valB (dep_of hd 1 (by kernel_rfl) (by kernel_rfl)) (by decide)
              dsimp only [nth] at h1
              replace hK := hk_valB hK (by decide) (by rfl)
              clear hd
              clear hz1
              simp only [lay, Act.put, List.setIfInBounds_toArray, List.set_cons_zero, List.set_cons_succ, h1] at hK ⊢
              have q2 := box_at (blk_grown hB hblk1 hneW1) 2 (.int .i64 til) rfl
              go_simp
              exact hK.out _ _ rfl (Below.refl _ _)
            refine OpsOK.cons ?_ ?_
            · intro u W K hB hz0 hz1 hd hK
              have hbW := Nat.le_trans hbW1 hB.size
              have h2 := fact_valB (dep_of hd 2 (by kernel_rfl) (by kernel_rfl)) (by decide)
              dsimp only [nth] at h2
              replace hK := hk_valB hK (by decide) (by rfl)
              clear hd
              clear hz1
              simp only [lay, Act.put, List.setIfInBounds_toArray, List.set_cons_zero, List.set_cons_succ, h2] at hK ⊢
              go_simp
              exact hK.out _ _ rfl (Below.refl _ _)
            refine OpsOK.cons ?_ ?_
            · intro u W K hB hz0 hz1 hd hK
              have hbW := Nat.le_trans hbW1 hB.size
              have h0 := fact_rowB (dep_of hd 0 (by kernel_rfl) (by kernel_rfl)) (by decide)
              dsimp only [nth] at h0
              have h3 := fact_valB (dep_of hd 3 (by kernel_rfl) (by kernel_rfl)) (by decide)
              dsimp only [nth] at h3
              replace hK := hk_rowB hbW hK (by decide) (by decide) (by rfl)
              clear hd
              clear hz1
              simp only [lay, Act.put, List.setIfInBounds_toArray, List.set_cons_zero, List.set_cons_succ, h3] at hK ⊢
              obtain ⟨A5, c5, e5, hr5, _⟩ := h0.open_
              simp only [e5, wrap_u64_nat til o4n] at hK ⊢
              go_simp
              first
                | (go_at_call 18; (with_reducible refine (put_any A5 _ c5 _ til _ hr5 (by omega) (by omega)).mono ?_); rintro e w1 ⟨v1, rfl, hown1, hb1⟩; exact hK.out _ _ hown1 hb1)
                | (go_at_call 19; (with_reducible refine (putbytes_any A6 _ c6 _ Av nv cv val _ hr6 (hrv.below (hBW1.grown hB hbW1 hbs1)) (by omega)).mono ?_); rintro e w1 ⟨v1, rfl, hown1, hb1⟩; exact hK.out _ _ hown1 hb1)
            refine OpsOK.cons ?_ ?_
            · intro u W K hB hz0 hz1 hd hK
              have hbW := Nat.le_trans hbW1 hB.size
              replace hK := hk_valB hK (by decide) (by rfl)
              clear hd
              clear hz1
              simp only [lay, Act.put, List.setIfInBounds_toArray, List.set_cons_zero, List.set_cons_succ] at hK ⊢
              go_simp
              exact hK.out _ _ rfl (Below.refl _ _)
            refine OpsOK.cons ?_ ?_
            · intro u W K hB hz0 hz1 hd hK
              have hbW := Nat.le_trans hbW1 hB.size
              have h5 := fact_valB (dep_of hd 5 (by kernel_rfl) (by kernel_rfl)) (by decide)
              dsimp only [nth] at h5
              replace hK := hk_valB hK (by decide) (by rfl)
              clear hd
              clear hz1
              simp only [lay, Act.put, List.setIfInBounds_toArray, List.set_cons_zero, List.set_cons_succ, h5] at hK ⊢
              have q3 := box_at (blk_grown hB hblk1 hneW1) 3 (.slice Av nv cv) rfl
              go_simp
              exact hK.out _ _ rfl (Below.refl _ _)
            refine OpsOK.cons ?_ ?_
            · intro u W K hB hz0 hz1 hd hK
              have hbW := Nat.le_trans hbW1 hB.size
              have h4 := fact_rowB (dep_of hd 4 (by kernel_rfl) (by kernel_rfl)) (by decide)
              dsimp only [nth] at h4
              have h6 := fact_valB (dep_of hd 6 (by kernel_rfl) (by kernel_rfl)) (by decide)
              dsimp only [nth] at h6
              replace hK := hk_rowB hbW hK (by decide) (by decide) (by rfl)
              clear hd
              clear hz1
              simp only [lay, Act.put, List.setIfInBounds_toArray, List.set_cons_zero, List.set_cons_succ, h6] at hK ⊢
              obtain ⟨A6, c6, e6, hr6, _⟩ := h4.openN (L2.length + (uvar til).length) (by rw [List.length_append])
              simp only [e6] at hK ⊢
              go_simp
              first
                | (go_at_call 18; (with_reducible refine (put_any A5 _ c5 _ til _ hr5 (by omega) (by omega)).mono ?_); rintro e w1 ⟨v1, rfl, hown1, hb1⟩; exact hK.out _ _ hown1 hb1)
                | (go_at_call 19; (with_reducible refine (putbytes_any A6 _ c6 _ Av nv cv val _ hr6 (hrv.below (hBW1.grown hB hbW1 hbs1)) (by omega)).mono ?_); rintro e w1 ⟨v1, rfl, hown1, hb1⟩; exact hK.out _ _ hown1 hb1)
            refine OpsOK.cons ?_ ?_
            · intro u W K hB hz0 hz1 hd hK
              have hbW := Nat.le_trans hbW1 hB.size
              have h7 := fact_rowB (dep_of hd 7 (by kernel_rfl) (by kernel_rfl)) (by decide)
              dsimp only [nth] at h7
              replace hK := hk_parB hK (by decide) 7 (by rfl)
              clear hd
              clear hz1
              simp only [lay, Act.put, List.setIfInBounds_toArray, List.set_cons_zero, List.set_cons_succ] at hK ⊢
              go_simp
              exact hK.out _ _ h7 (grown_refl _ _) (AtRow.refl _ _)
            exact OpsOK.nil
          intro u W hB hf
          have h0 := fact_rowB (hf 0 (by decide) (by decide)) (by decide)
          dsimp only [nth] at h0
          have h1 := fact_valB (hf 1 (by decide) (by decide)) (by decide)
          dsimp only [nth] at h1
          have h2 := fact_valB (hf 2 (by decide) (by decide)) (by decide)
          dsimp only [nth] at h2
          have h3 := fact_valB (hf 3 (by decide) (by decide)) (by decide)
          dsimp only [nth] at h3
          have h4 := fact_rowB (hf 4 (by decide) (by decide)) (by decide)
          dsimp only [nth] at h4
          have h5 := fact_valB (hf 5 (by decide) (by decide)) (by decide)
          dsimp only [nth] at h5
          have h6 := fact_valB (hf 6 (by decide) (by decide)) (by decide)
          dsimp only [nth] at h6
          have h8 := fact_rowB (hf 8 (by decide) (by decide)) (by decide)
          dsimp only [nth] at h8
          clear hf
          simp only [lay, h1, h2, h3, h5, h6]
          clear h1 h2 h3 h5 h6
          go_wp2
          go_roundw
          case rel => exact ⟨k + 1, by omega, by go_num, by rw [HA.out]; exact h8, hBW1.grown hB hbW1 hbs1⟩
          case measure => simp [intOf]; omega
        · go_wp2
          have hblk : (wr.alloc (.cells #[.slice Ak nk ck, .bool true, .int .i64 til, .slice Av nv cv] 28)).heap[wr.heap.size]? = some (.cells #[.slice Ak nk ck, .bool true, .int .i64 til, .slice Av nv cv] 28 (0, 0)) := heap_alloc_new wr _
          have hownW := hown.alloc (.cells #[.slice Ak nk ck, .bool true, .int .i64 til, .slice Av nv cv] 28)
          have hBW0 := below_alloc' hB (.cells #[.slice Ak nk ck, .bool true, .int .i64 til, .slice Av nv cv] 28)
          have hneW := hownW.ne_box hblk (by decide)
          have hbW0 := hBW0.size
          have hbs := OB.base_ hownW
          generalize wr.alloc (.cells #[.slice Ak nk ck, .bool true, .int .i64 til, .slice Av nv cv] 28) = W0 at *
          generalize wr.heap.size = b at *
          apply wp_region_txtB (w.heap.size) 0 (u5.ownBlock) [none, none, none, none, none, some 6, none, none, none, none, none, none, none, none, none, none, none, none, none, none, none, none, none, none, none, none, none, none, none, none, none, none, some 0, some 1, some 2, some 3, some 4, some 5, none, none, none, none, none, none, none, none, none, none, none, none, none, none, none, none] [0, 1, 2, 5, 6] [(0, 2), (5, 6)] [undef, undef, undef, _, _, undef, undef] [_, _, _, [], [], _, _]
          case hm => rfl
          case hs => rfl
          case hst => kernel_rfl
          case hrow0 => exact fun k hk => (World.ownsRow.lt hownW k hk).2
          case hput => exact OpsOK.cons (fun _ _ => rfl) (OpsOK.cons (fun _ _ => rfl) (OpsOK.cons (fun _ _ => rfl) (OpsOK.cons (fun _ _ => rfl) (OpsOK.cons (fun _ _ => rfl) (OpsOK.cons (fun _ _ => rfl) (OpsOK.cons (fun _ _ => rfl) (OpsOK.nil)))))))
          case hops =>
            refine OpsOK.cons ?_ ?_
            · intro u W K hB hz0 hz1 hd hK
              have hbW := Nat.le_trans hbW0 hB.size
              replace hK := hk_oldB hK rfl (by decide) (by rfl)
              clear hd
              have hw : u 6 = (u5) := (was_of hz1 6 (by kernel_rfl)).trans rfl
              clear hz1
              simp only [lay, Act.put, List.setIfInBounds_toArray, List.set_cons_zero, List.set_cons_succ, hw] at hK ⊢
              go_simp
              exact hK.out _ (OB.below hownW (hz0 rfl)) (fun k hk => hk.symm)
            refine OpsOK.cons ?_ ?_
            · intro u W K hB hz0 hz1 hd hK
              have hbW := Nat.le_trans hbW0 hB.size
              replace hK := hk_rowB hbW hK (by decide) (by decide) (by rfl)
              clear hd
              clear hz1
              simp only [lay, Act.put, List.setIfInBounds_toArray, List.set_cons_zero, List.set_cons_succ] at hK ⊢
              (go_simp; exact hK.out _ _ (OB.lit1 _ _ (Nat.le_refl _) 1 1 rfl) (below_alloc' (Below.refl _ _) _))
            refine OpsOK.cons ?_ ?_
            · intro u W K hB hz0 hz1 hd hK
              have hbW := Nat.le_trans hbW0 hB.size
              have h0 := fact_rowB (dep_of hd 0 (by kernel_rfl) (by kernel_rfl)) (by decide)
              dsimp only [nth] at h0
              have h1 := fact_rowB (dep_of hd 1 (by kernel_rfl) (by kernel_rfl)) (by decide)
              dsimp only [nth] at h1
              replace hK := hk_parB hK (by decide) 0 (by rfl)
              clear hd
              clear hz1
              (obtain ⟨A4, c4, e4, hr4, _⟩ := h1.open_; refine stepB_append W W w.heap.size (.tmp 32) (.tmp 33) (by rfl) (by rfl) (u 0) L (by rfl) h0 A4 _ c4 [1] (by exact e4) hr4 (by simp only [List.length_singleton]; omega) (Below.refl _ _) hbW ?_; intro v' w' a b d f; exact hK.out _ _ (show OB _ _ _ (L ++ [1]) from a) d f)
            refine OpsOK.cons ?_ ?_
            · intro u W K hB hz0 hz1 hd hK
              have hbW := Nat.le_trans hbW0 hB.size
              replace hK := hk_valB hK (by decide) (by rfl)
              clear hd
              clear hz1
              simp only [lay, Act.put, List.setIfInBounds_toArray, List.set_cons_zero, List.set_cons_succ] at hK ⊢
              go_simp
              exact hK.out _ _ rfl (Below.refl _ _)
            refine OpsOK.cons ?_ ?_
            · intro u W K hB hz0 hz1 hd hK
              have hbW := Nat.le_trans hbW0 hB.size
              have h3 := fact_valB (dep_of hd 3 (by kernel_rfl) (by kernel_rfl)) (by decide)
              dsimp only [nth] at h3
              replace hK := hk_valB hK (by decide) (by rfl)
              clear hd
              clear hz1
              simp only [lay, Act.put, List.setIfInBounds_toArray, List.set_cons_zero, List.set_cons_succ, h3] at hK ⊢
              have q0 := box_at (blk_grown hB hblk hneW) 0 (.slice Ak nk ck) rfl
              go_simp
              exact hK.out _ _ rfl (Below.refl _ _)
            refine OpsOK.cons ?_ ?_
            · intro u W K hB hz0 hz1 hd hK
              have hbW := Nat.le_trans hbW0 hB.size
              have h2 := fact_rowB (dep_of hd 2 (by kernel_rfl) (by kernel_rfl)) (by decide)
              dsimp only [nth] at h2
              have h4 := fact_valB (dep_of hd 4 (by kernel_rfl) (by kernel_rfl)) (by decide)
              dsimp only [nth] at h4
              replace hK := hk_rowB hbW hK (by decide) (by decide) (by rfl)
              clear hd
              clear hz1
              simp only [lay, Act.put, List.setIfInBounds_toArray, List.set_cons_zero, List.set_cons_succ, h4] at hK ⊢
              obtain ⟨A5, c5, e5, hr5, _⟩ := h2.openN (L.length + 1) (by rw [List.length_append]; rfl)
              simp only [e5] at hK ⊢
              go_simp
              first
                | (go_at_call 19; (with_reducible refine (putbytes_any A5 _ c5 _ Ak nk ck key _ hr5 (hrk.below (hBW0.grown hB hbW0 hbs)) (by omega)).mono ?_); rintro e w1 ⟨v1, rfl, hown1, hb1⟩; exact hK.out _ _ hown1 hb1)
            refine OpsOK.cons ?_ ?_
            · intro u W K hB hz0 hz1 hd hK
              have hbW := Nat.le_trans hbW0 hB.size
              have h5 := fact_rowB (dep_of hd 5 (by kernel_rfl) (by kernel_rfl)) (by decide)
              dsimp only [nth] at h5
              replace hK := hk_parB hK (by decide) 5 (by rfl)
              clear hd
              clear hz1
              simp only [lay, Act.put, List.setIfInBounds_toArray, List.set_cons_zero, List.set_cons_succ] at hK ⊢
              go_simp
              exact hK.out _ _ h5 (grown_refl _ _) (AtRow.refl _ _)
            exact OpsOK.nil
          intro u W hB hf
          have h1 := fact_rowB (hf 1 (by decide) (by decide)) (by decide)
          dsimp only [nth] at h1
          have h2 := fact_rowB (hf 2 (by decide) (by decide)) (by decide)
          dsimp only [nth] at h2
          have h3 := fact_valB (hf 3 (by decide) (by decide)) (by decide)
          dsimp only [nth] at h3
          have h4 := fact_valB (hf 4 (by decide) (by decide)) (by decide)
          dsimp only [nth] at h4
          have h6 := fact_rowB (hf 6 (by decide) (by decide)) (by decide)
          dsimp only [nth] at h6
          clear hf
          simp only [lay, h3, h4]
          clear h3 h4
          have hBW1 := hBW0.grown hB hbW0 hbs
          go_wp2
          go_roundw
          case rel => exact ⟨k + 1, by omega, by go_num, by rw [HA.out]; exact h6, hBW1⟩
          case measure => simp [intOf]; omega
      · obtain rfl : k = n := by omega
        have HO := hid hown
        clear hown
        go_wp2
        go_ret2
        exact ⟨_, rfl, by rw [HX.out]; exact HO.out, hB⟩
  · have HE := hid hE
    have hX2 : X = [] := by unfold encB at hX; rw [if_neg (by rw [← hE]; exact hz)] at hX; exact hX
    subst hX2
    have hzb : (E != 0) = true := by simpa using hz
    clear hX hE hz
    go_enter Try.func7, Try.ntmps7
    go_wp2_with (go_at_call 9; (with_reducible refine (may_any s A n c ops _ (H.out.below (below_alloc' (Below.refl _ _) _)) hs).mono ?_); rintro e w1 ⟨rfl, hbx⟩; rw [← HE.out])
    go_ret2
    exact ⟨_, rfl, OB.nil _ _, below_then (below_alloc' (Below.refl _ _) _) hbx⟩
end Go.Proofs.Ytdhmonomhifkkaa
