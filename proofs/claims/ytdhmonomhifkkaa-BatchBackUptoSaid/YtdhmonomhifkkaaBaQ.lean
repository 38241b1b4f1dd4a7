/- Layer 8: an entry for each change: the walk. -/
import Derived.Test.YtdhmonomhifkkaaBaO
import Derived.Deep.RegionHeldLaw
namespace Go.Proofs.Ytdhmonomhifkkaa
open Go.RowKit
set_option linter.unusedVariables false
set_option linter.unusedSimpArgs false

theorem eninfo : (Try.prog.info? 41).map (fun i => (i.zero, i.size, i.bytes)) = some (some (.agg #[.slice none 0 0, .int .i64 0, .bool false, .int .i64 0, .slice none 0 0]), 5, 72) := by kernel_rfl
/-- An entry: its number, its change. -/
def EnR : Type := Int × OpR
def enSeq (e : EnR) : Int := e.1
def enOp (e : EnR) : OpR := e.2
def mkEn (s : Int) (o : OpR) : EnR := (s, o)
def noEn : EnR := mkEn 0 noOp
def entL (s : Int) (ops : List OpR) : Nat → List EnR
  | 0 => []
  | k + 1 => entL s ops k ++ [mkEn (s + k) (elt noOp ops k)]
theorem entL_len (s : Int) (ops : List OpR) : ∀ k, (entL s ops k).length = k := by
  intro k
  induction k with
  | zero => rfl
  | succ k ih => rw [entL, List.length_append, ih]; rfl
def PEn (w : World) (base : Nat) (x : List Value) (e : EnR) : Prop :=
  ∃ kv vv, x = [kv, .int .i64 (enSeq e), .bool (opGone (enOp e)), .int .i64 (opTil (enOp e)), vv] ∧ OB w base kv (opKey (enOp e)) ∧ OB w base vv (opVal (enOp e))
theorem PEn.grown {w w' : World} {base base' : Nat} {v : Value} {V : List (List Value)} {x : List Value} {e : EnR} (h : PEn w base x e) (hg : w.grownBy w' v.ownBlock) (hv : OV w base' 41 5 v V) : PEn w' base x e := by
  obtain ⟨kv, vv, hx, h1, h2⟩ := h
  exact ⟨kv, vv, hx, h1.other hg (h1.apart_row hv (by decide)), h2.other hg (h2.apart_row hv (by decide))⟩
theorem PEn.below {w w' : World} {base : Nat} {x : List Value} {e : EnR} (h : PEn w base x e) (hb : Below w.heap.size w w') : PEn w' base x e := by
  obtain ⟨kv, vv, hx, h1, h2⟩ := h
  exact ⟨kv, vv, hx, h1.below hb, h2.below hb⟩
/-- append of one record, inside a region that draws its order. -/
theorem stepV_append1 {ops : Array Oper} {o : Oper} {a : Act} {K : Act → World → Prop} {Q : Exit → Act → World → Prop} {E : Prop} (t e : TypeId) (z : Value) (size bytes : Nat) (ht : Try.prog.underlying t = some (.slice e))
    (hinfo : (Try.prog.info? e).map (fun i => (i.zero, i.size, i.bytes)) = some (some z, size, bytes)) (hzs : z.cells.size = size) (hsz : 0 < size) (w : World) (base : Nat) (hwant : Region.wanted o (yielded ops a.tmps) = true) (s x : Operand)
    (ho : o.op = .call { callee := .builtin .append, args := #[s, x], argTypes := #[t, t] })
    (v : Value) (V : List (List Value)) (hs : a.eval s = v) (hown : OV w base e size v V) (cs : Array Value) (hcs : cs.size = size) (hu : ∀ u ∈ cs.toList, u.oneCell' = true) (c2 g : Nat) (hg : g = w.heap.size) (hx : a.eval x = .slice (some ⟨g, 0, none⟩) 1 c2)
    (hmax : V.length + 1 ≤ maxLen) (hbytes : (V.length + 1) * bytes ≤ 140737488355328) (hbase : base ≤ w.heap.size)
    (h : ∀ v' w', OV w' base e size v' (V ++ [cs.toList]) → w.grownBy w' v.ownBlock → K (a.put o.dst v') w') : if Region.wanted o (yielded ops a.tmps) = true then Oper.wp Try.prog o a (w.alloc (.cells cs e)) K Q else E := by
  subst hg
  refine step_append_any _ rfl hwant s x _ ho base e z size bytes ht hinfo hzs hsz v V.length V.flatten hs (World.ownsRow.alloc hown.1 _) _ 1 c2 cs.toList hx (Reads.block (heap_alloc_new w _) (by rw [hcs, Nat.one_mul])) hu hmax hbytes (by simp; omega) ?_
  intro v' w' h2 h3 h4
  refine h v' w' ⟨?_, ?_⟩ (grown_step (v0 := v) (World.grownBy_alloc w _ _) (AtRow.refl _ v) h3)
  · rw [List.length_append, List.flatten_append]
    simpa using h2
  · intro y hy
    rcases List.mem_append.1 hy with hy | hy
    · exact hown.2 y hy
    · rw [List.mem_singleton] at hy
      subst hy
      simpa using hcs
theorem ones5 {a b c d e : Value} (ha : a.oneCell' = true) (hb : b.oneCell' = true) (hc : c.oneCell' = true) (hd : d.oneCell' = true) (he : e.oneCell' = true) : ∀ u ∈ (#[a, b, c, d, e] : Array Value).toList, u.oneCell' = true := by
  intro u hu
  simp only [List.mem_cons, List.not_mem_nil, or_false] at hu
  rcases hu with rfl | rfl | rfl | rfl | rfl <;> assumption
theorem blk_below {w w' : World} {b : Nat} {o : Obj} (hb : Below w.heap.size w w') (h : w.heap[b]? = some o) : w'.heap[b]? = some o := blk_grown' (below_grown hb none) h (by simp)
/-- What an entry's append leaves: the row with one more entry. -/
theorem Ent.step {w W0 W w3 : World} {s : Int} {k c n : Nat} {A : Option Addr} {o : OpR} {v v' kv vv : Value} {V : List (List Value)} {ops : List OpR} (hB : Below w.heap.size w W0) (hb : w.heap.size ≤ W0.heap.size)
    (hown : OV W0 w.heap.size 41 5 v V) (hrel : RelV noEn (PEn W0 w.heap.size) V (entL s ops k)) (hbox : W0.heap[w.heap.size]? = some (.cells #[.int .i64 s, .slice A n c] 24 (0, 0)))
    (hent : entL s ops (k + 1) = entL s ops k ++ [mkEn (s + k) o]) (hbW : Below W0.heap.size W0 W) (hk : OB W w.heap.size kv (opKey o)) (hv : OB W w.heap.size vv (opVal o)) (hg : W.grownBy w3 v.ownBlock)
    (hown3 : OV w3 w.heap.size 41 5 v' (V ++ [[kv, .int .i64 (s + k), .bool (opGone o), .int .i64 (opTil o), vv]])) :
    ∃ V', OV w3 w.heap.size 41 5 v' V' ∧ RelV noEn (PEn w3 w.heap.size) V' (entL s ops (k + 1)) ∧ w3.heap[w.heap.size]? = some (.cells #[.int .i64 s, .slice A n c] 24 (0, 0)) ∧ Below w.heap.size w w3 := by
  have hownW := hown.below hbW
  refine ⟨_, hown3, ?_, blk_grown' hg (blk_below hbW hbox) (hown.ne_blk hbox (by decide)), (below_then hB hbW).grown hg (Nat.le_trans hb hbW.size) hownW.base_⟩
  rw [hent]
  exact (hrel.mono fun x a hx => (hx.below hbW).grown hg hownW).snoc ⟨kv, vv, rfl, hk.other hg (hk.apart_row hownW (by decide)), hv.other hg (hv.apart_row hownW (by decide))⟩
theorem below_of_none' {w w1 : World} (h : w.grownBy w1 (Value.slice none 0 0).ownBlock) : Below w.heap.size w w1 := ⟨h.os, h.tape, h.output, h.size, fun k hk => h.block k hk (by intro e; cases e)⟩
set_option maxHeartbeats 16000000 in
set_option maxRecDepth 100000 in
theorem entries_any (s : Int) (A : Option Addr) (n c : Nat) (ops : List OpR) (w : World) (h : ROps w A n ops) (hs : -9223372036854775808 ≤ s ∧ s ≤ 9223372036854775807) (hz : mayE s ops = 0) :
    Calls Try.prog 13 #[.agg #[.int .i64 s, .slice A n c]] w fun e w' => ∃ v V, e = .returned (.tuple #[v, .int .i64 0]) ∧ OV w' w.heap.size 41 5 v V ∧ RelV noEn (PEn w' w.heap.size) V (entL s ops n) ∧ Below w.heap.size w w' := by
  have hl := h.1
  have H := hid h
  clear h
  obtain ⟨m1, m2, m3, m4, m5⟩ := mayE_zero hz
  rw [hl] at m1 m2 m4 m5
  have HE := hid hz
  have H5 := hid m5
  clear hz m5 hl
  go_enter Try.func13, Try.ntmps13
  go_wp2_with (go_at_call 9; (with_reducible refine (may_any s A n c ops _ (H.out.below (below_alloc' (Below.refl _ _) _)) hs).mono ?_); rintro e w1 ⟨rfl, hbx⟩; rw [HE.out]; have hbk := blk_grown' (below_grown hbx none) (heap_alloc_new w _) (by simp); have hx1 := box_at hbk 1 (.slice A n c) rfl; have hb1 := below_then (below_alloc' (Below.refl _ _) _) hbx)
  go_loopw [5, 16] (fun v i wr => ∃ (k : Nat) (V : List (List Value)), k ≤ n ∧ i = .int .i64 k ∧ OV wr w.heap.size 41 5 v V ∧ RelV noEn (PEn wr w.heap.size) V (entL s ops k) ∧ wr.heap[w.heap.size]? = some (.cells #[.int .i64 s, .slice A n c] 24 (0, 0)) ∧ Below w.heap.size w wr) (fun v i wr => n - (intOf i).toNat)
  case atStart => exact ⟨0, [], Nat.zero_le _, rfl, OV.nil _ _ _ _, RelV.nil, hbk, hb1⟩
  case round =>
    obtain ⟨k, V, hk, rfl, hown, hrel, hbox, hB⟩ := hrel
    by_cases hlt : k < n
    · obtain ⟨ad, rfl, hcells⟩ := H.out.at_ hlt
      obtain ⟨Ak, nk, ck, Av, nv, cv, hc0, hc1, hc2, hc3, hrk, hck, hrv, hcv, hwf⟩ := hcells.below hB
      have ho := H5.out k hlt
      have hent : entL s ops (k + 1) = entL s ops k ++ [mkEn (s + k) (elt noOp ops k)] := rfl
      generalize elt noOp ops k = o at *
      obtain ⟨_, o1, o2, _⟩ := opE_zero ho
      have hVl : V.length = k := by rw [hrel.1, entL_len]
      have hnk := hrk.1
      have hnv := hrv.1
      have hws : IntKind.i64.wrap (s + (k : Int)) = s + (k : Int) := by rw [IntKind.wrap_i64]; omega
      have HC := hid (⟨hent, hVl, hnk, hnv⟩ : _ ∧ _ ∧ _ ∧ _)
      clear hent ho hcells
      go_wp2
      have hblk : (wr.alloc (.cells #[.slice Ak nk ck, .bool (opGone o), .int .i64 (opTil o), .slice Av nv cv] 28)).heap[wr.heap.size]? = some (.cells #[.slice Ak nk ck, .bool (opGone o), .int .i64 (opTil o), .slice Av nv cv] 28 (0, 0)) := heap_alloc_new wr _
      have hba := below_alloc' (Below.refl wr.heap.size wr) (.cells #[.slice Ak nk ck, .bool (opGone o), .int .i64 (opTil o), .slice Av nv cv] 28)
      have hrk := hrk.below hba
      have hrv := hrv.below hba
      have hown := hown.below hba
      have hbox := blk_below hba hbox
      have hrel := hrel.mono fun x a hx => hx.below hba
      have hB := below_then hB hba
      have hb0 := hB.size
      clear hba
      generalize wr.alloc (.cells #[.slice Ak nk ck, .bool (opGone o), .int .i64 (opTil o), .slice Av nv cv] 28) = W0 at *
      generalize wr.heap.size = b at *
      have hSG : ∀ w' : World, W0.grownBy w' u5.ownBlock → (w'.cell? ⟨b, 0, none⟩ = some (.slice Ak nk ck) ∧ w'.cell? ⟨b, 1, none⟩ = some (.bool (opGone o)) ∧ w'.cell? ⟨b, 2, none⟩ = some (.int .i64 (opTil o)) ∧ w'.cell? ⟨b, 3, none⟩ = some (.slice Av nv cv) ∧ w'.cell? ⟨w.heap.size, 0, none⟩ = some (.int .i64 s)) := fun w' hg => by
        have a1 := blk_grown' hg hblk (hown.ne_blk hblk (by decide))
        have a2 := blk_grown' hg hbox (hown.ne_blk hbox (by decide))
        exact ⟨box_at a1 0 _ rfl, box_at a1 1 _ rfl, box_at a1 2 _ rfl, box_at a1 3 _ rfl, box_at a2 0 _ rfl⟩
      have hbd : Below W0.heap.size W0 W0.drew := (Below.refl _ _).drew
      clear hc0 hc1 hc2 hc3 hbk hx1 hblk
      go_region_held_law (fun w' => w'.cell? ⟨b, 0, none⟩ = some (.slice Ak nk ck) ∧ w'.cell? ⟨b, 1, none⟩ = some (.bool (opGone o)) ∧ w'.cell? ⟨b, 2, none⟩ = some (.int .i64 (opTil o)) ∧ w'.cell? ⟨b, 3, none⟩ = some (.slice Av nv cv) ∧ w'.cell? ⟨w.heap.size, 0, none⟩ = some (.int .i64 s))
        (first | exact hSG _ (by assumption) | exact hSG _ (below_grown (by assumption) _) | exact hSG _ (below_grown (below_alloc' (by assumption) _) _))
        (first
          | (refine stepB_append W0 _ W0.heap.size _ (.tmp 23) (by rfl) (by rfl) (.slice none 0 0) [] (by rfl) (OB.nil _ _) Ak nk ck (opKey o) (by rfl) (hrk.below (by assumption)) (by simp only [List.length_nil]; omega) (by assumption) (Below.size (by assumption)) ?_; intro vk wk hownk hBk hgk _; rw [List.nil_append] at hownk; have hgk := below_of_none' hgk; obtain ⟨Bk, dk, rfl, _, _⟩ := hownk.openN nk HC.out.2.2.1)
          | (refine stepB_append W0 _ W0.heap.size _ (.tmp 34) (by rfl) (by rfl) (.slice none 0 0) [] (by rfl) (OB.nil _ _) Av nv cv (opVal o) (by rfl) (hrv.below (by assumption)) (by simp only [List.length_nil]; omega) (by assumption) (Below.size (by assumption)) ?_; intro vx wx hownx hBx hgx _; rw [List.nil_append] at hownx; have hgx := below_of_none' hgx; obtain ⟨Bx, dx, rfl, _, _⟩ := hownx.openN nv HC.out.2.2.2)
          | (refine stepV_append1 36 41 _ 5 72 Try.underlying36 eninfo rfl (by omega) _ w.heap.size (by rfl) (.tmp 21) (.tmp 37) (by rfl) u5 V (by rfl) (hown.below (by assumption)) #[.slice Bk nk dk, .int .i64 (s + k), .bool (opGone o), .int .i64 (opTil o), .slice Bx nv dx] rfl (ones5 rfl rfl rfl rfl rfl) 1 _ (by rfl) (by rfl) (by simp only [maxLen]; omega) (by omega) (Nat.le_trans hb0 (Below.size (by assumption))) ?_; intro v3 w3 hown3 hg3; have hgW := grown_step (v0 := u5) (below_grown (by assumption : Below W0.heap.size W0 _) _) (AtRow.refl _ u5) hg3))
      all_goals
        have hh : ∃ V', OV w3 w.heap.size 41 5 v3 V' ∧ RelV noEn (PEn w3 w.heap.size) V' (entL s ops (k + 1)) ∧ w3.heap[w.heap.size]? = some (.cells #[.int .i64 s, .slice (some ad) n c] 24 (0, 0)) ∧ Below w.heap.size w w3 := by
          first
          | exact Ent.step hB hb0 hown hrel hbox HC.out.1 hBx ((hownk.below hgx).mono hb0) (hownx.mono hb0) hg3 hown3
          | exact Ent.step hB hb0 hown hrel hbox HC.out.1 hBk (hownk.mono hb0) ((hownx.below hgk).mono hb0) hg3 hown3
        obtain ⟨V', r1, r2, r3, r4⟩ := hh
        go_wp2
        go_roundw
        case rel => exact ⟨k + 1, V', by omega, by go_num, r1, r2, r3, r4⟩
        case measure => simp [intOf]; omega
    · obtain rfl : k = n := by omega
      go_wp2
      go_ret2
      exact ⟨_, V, rfl, hown, hrel, hB⟩
end Go.Proofs.Ytdhmonomhifkkaa
