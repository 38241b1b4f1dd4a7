/- Layer 9: rows of bytes that are written over: what stays. -/
import Derived.Test.YtlfjbklagljdlaaDoorMmTw
namespace Go.Proofs.YtlfjbklagljdlaaDoor
open Go.RowKit
set_option linter.unusedVariables false
set_option linter.unusedSimpArgs false

/-- A row of so many bytes, whatever they are. -/
def OBx (w : World) (base : Nat) (v : Value) (n : Nat) : Prop := ∃ ys, ys.length = n ∧ OB w base v ys
theorem OBx.below {w w' : World} {base n : Nat} {v : Value} (h : OBx w base v n) (hb : Below w.heap.size w w') : OBx w' base v n := by
  obtain ⟨ys, h1, h2⟩ := h
  exact ⟨ys, h1, h2.below hb⟩
theorem OBx.form {w : World} {base n : Nat} {v : Value} (h : OBx w base v n) (hn : 0 < n) : ∃ g c, v = .slice (some ⟨g, 0, none⟩) n c ∧ base ≤ g ∧ g < w.heap.size ∧ (∃ cur, w.heap[g]? = some (.cells cur 5 (0, 0))) ∧ (∀ j, j < n → ∃ y : UInt8, w.cell? ⟨g, j, none⟩ = some (.int .u8 (y.toNat : Int))) ∧ (∀ j, w.frozen? ⟨g, j, none⟩ = false) := by
  obtain ⟨ys, rfl, ho⟩ := h
  obtain ⟨g, c, rfl, h1, h2, _⟩ := ho.form hn
  exact ⟨g, c, rfl, h1, h2, ho.blk, fun j hj => ⟨ys.getD j 0, ho.cell hj⟩, fun j => ho.frozen j⟩
theorem OBx.open_ {w : World} {base n : Nat} {v : Value} (h : OBx w base v n) : ∃ A c, v = .slice A n c := by
  obtain ⟨ys, rfl, ho⟩ := h
  obtain ⟨A, c, e, _⟩ := ho.open_
  exact ⟨A, c, e⟩
/-- A byte is written: every row of bytes is one still. -/
theorem OBx.set {w : World} {base n : Nat} {v : Value} (h : OBx w base v n) (g j : Nat) (y : UInt8) : OBx (w.setCell ⟨g, j, none⟩ (.int .u8 (y.toNat : Int))) base v n := by
  obtain ⟨ys, h1, h2⟩ := h
  by_cases hg : v.ownBlock = some g
  · obtain ⟨A, c, rfl, _⟩ := h2.open_
    have hA : A = some ⟨g, 0, none⟩ := by
      rcases h2.2 with ⟨e, _⟩ | ⟨g', c', cur, e, _⟩
      · rw [e] at hg; cases hg
      · rw [e] at hg
        have : g' = g := Option.some.inj hg
        subst this
        injection e
    subst hA
    refine ⟨ys.set j y, by simpa using h1, OB.set h2 j y rfl⟩
  · exact ⟨ys, h1, h2.other (grown_set w g j _) (.inr hg)⟩
theorem SLn.setB {w : World} {base g j : Nat} {v : Value} {cs : Array Value} {fr : Nat × Nat} (hg : w.heap[g]? = some (.cells cs 5 fr)) : ∀ {m : List NodeR}, SLn w base m → (∀ x ∈ m, (nKv x).ownBlock ≠ some g ∧ (nVv x).ownBlock ≠ some g) → SLn (w.setCell ⟨g, j, none⟩ v) base m := by
  intro m
  induction m with
  | nil => intro _ _; trivial
  | cons x m ih =>
    intro h hd
    obtain ⟨h1, h2, h3, h4, h5, h6, h7⟩ := h
    have hx := hd x (by simp)
    exact ⟨blk_grown' (grown_set w g j v) h1 (fun e => (blk_ne h1 hg (by decide)) (Option.some.inj e).symm), h2.other (grown_set w g j v) (.inr hx.1), h3.other (grown_set w g j v) (.inr hx.2), h4, h5, h6, ih h7 fun y hy => hd y (by simp [hy])⟩
theorem MemL.setB {w : World} {base bm g j : Nat} {v : Value} {l : List NodeR} {cs : Array Value} {fr : Nat × Nat} (h : MemL w base bm l) (hg : w.heap[g]? = some (.cells cs 5 fr)) (hd : ∀ x ∈ l, (nKv x).ownBlock ≠ some g ∧ (nVv x).ownBlock ≠ some g) : MemL (w.setCell ⟨g, j, none⟩ v) base bm l :=
  ⟨⟨blk_grown' (grown_set w g j v) h.sl.1 (fun e => (blk_ne h.sl.1 hg (by decide)) (Option.some.inj e).symm), SLn.setB hg h.sl.2 hd⟩, h.tall, h.srt, h.may, h.base_⟩
theorem SLn.rows {w : World} {base : Nat} : ∀ {m : List NodeR}, SLn w base m → ∀ x ∈ m, OB w base (nKv x) (eKey (nEnt x)) ∧ OB w base (nVv x) (eVal (nEnt x)) := by
  intro m
  induction m with
  | nil => intro _ x hx; cases hx
  | cons y m ih =>
    intro h x hx
    obtain ⟨h1, h2, h3, h4, h5, h6, h7⟩ := h
    rcases List.mem_cons.1 hx with rfl | hx
    · exact ⟨h2, h3⟩
    · exact ih h7 x hx
theorem xor_u8 (a b : Int) : ∃ y : UInt8, bits .xor .u8 a b = (y.toNat : Int) := by
  refine ⟨UInt8.ofNat (bits .xor .u8 a b).toNat, ?_⟩
  have h : 0 ≤ bits .xor .u8 a b ∧ bits .xor .u8 a b < 256 := by
    show 0 ≤ IntKind.u8.wrap _ ∧ IntKind.u8.wrap _ < 256
    rw [IntKind.wrap_u8]
    omega
  rw [UInt8.toNat_ofNat']
  omega
/-- Where the loops stand that write over an entry's bytes that was handed in. -/
def FlipJ (w W : World) (bm : Nat) (l : List NodeR) (b : Nat) (kv : Value) (s : Int) (g : Bool) (u : Int) (vv : Value) (nk nv : Nat) : Prop :=
  MemL W w.heap.size bm l ∧ W.heap[b]? = some (.cells #[kv, .int .i64 s, .bool g, .int .i64 u, vv] 28 (0, 0)) ∧ OBx W w.heap.size kv nk ∧ OBx W w.heap.size vv nv ∧ Below w.heap.size w W
theorem FlipJ.set {w W : World} {bm b nk nv g j : Nat} {l : List NodeR} {kv vv : Value} {s u : Int} {gn : Bool} {cs : Array Value} {fr : Nat × Nat} (h : FlipJ w W bm l b kv s gn u vv nk nv) (hg : W.heap[g]? = some (.cells cs 5 fr)) (hb : w.heap.size ≤ g) (hd : ∀ x ∈ l, (nKv x).ownBlock ≠ some g ∧ (nVv x).ownBlock ≠ some g) (y : UInt8) :
    FlipJ w (W.setCell ⟨g, j, none⟩ (.int .u8 (y.toNat : Int))) bm l b kv s gn u vv nk nv := by
  obtain ⟨h1, h2, h3, h4, h5⟩ := h
  exact ⟨h1.setB hg hd, blk_grown' (grown_set W g j _) h2 (fun e => (blk_ne h2 hg (by decide)) (Option.some.inj e).symm), h3.set g j y, h4.set g j y, h5.setCell hb _⟩
/-- An entry's cells, its bytes one's own, whatever they are. -/
def PEx (w : World) (base : Nat) (x : List Value) (e : EntR) : Prop :=
  ∃ kv vv, x = [kv, .int .i64 (eSeq e), .bool (eGone e), .int .i64 (eTil e), vv] ∧ OBx w base kv (eKey e).length ∧ OBx w base vv (eVal e).length
theorem PEo.ex {w : World} {base : Nat} {x : List Value} {e : EntR} (h : PEo w base x e) : PEx w base x e := by
  obtain ⟨kv, vv, hx, h1, h2⟩ := h
  exact ⟨kv, vv, hx, ⟨_, rfl, h1⟩, ⟨_, rfl, h2⟩⟩
theorem PEx.set {w : World} {base : Nat} {x : List Value} {e : EntR} (h : PEx w base x e) (g j : Nat) (y : UInt8) : PEx (w.setCell ⟨g, j, none⟩ (.int .u8 (y.toNat : Int))) base x e := by
  obtain ⟨kv, vv, hx, h1, h2⟩ := h
  exact ⟨kv, vv, hx, h1.set g j y, h2.set g j y⟩
theorem PEx.below {w w' : World} {base : Nat} {x : List Value} {e : EntR} (h : PEx w base x e) (hb : Below w.heap.size w w') : PEx w' base x e := by
  obtain ⟨kv, vv, hx, h1, h2⟩ := h
  exact ⟨kv, vv, hx, h1.below hb, h2.below hb⟩
/-- Where the loop stands that writes over the bytes of what was told. -/
def TellJ (w8 W : World) (v : Value) (V : List (List Value)) (es : List EntR) : Prop :=
  OV W w8.heap.size 28 5 v V ∧ RelV noEnt (PEx W w8.heap.size) V es ∧ Below w8.heap.size w8 W
theorem TellJ.below {w8 W W' : World} {v : Value} {V : List (List Value)} {es : List EntR} (h : TellJ w8 W v V es) (hb : Below W.heap.size W W') : TellJ w8 W' v V es := by
  obtain ⟨h1, h2, h3⟩ := h
  exact ⟨h1.below hb, h2.mono fun x a hx => hx.below hb, below_then h3 hb⟩
theorem TellJ.set {w8 W : World} {v : Value} {V : List (List Value)} {es : List EntR} {g j : Nat} {cs : Array Value} {fr : Nat × Nat} (h : TellJ w8 W v V es) (hg : W.heap[g]? = some (.cells cs 5 fr)) (hb : w8.heap.size ≤ g) (y : UInt8) : TellJ w8 (W.setCell ⟨g, j, none⟩ (.int .u8 (y.toNat : Int))) v V es := by
  obtain ⟨h1, h2, h3⟩ := h
  exact ⟨h1.other (grown_set W g j _) (.inr (h1.ne_blk hg (by decide))), h2.mono fun x a hx => hx.set g j y, h3.setCell hb _⟩
/-- .. with the box of the entry at hand. -/
def BoxT (w8 W : World) (v : Value) (V : List (List Value)) (es : List EntR) (b : Nat) (kv : Value) (s : Int) (g : Bool) (u : Int) (vv : Value) (nk nv : Nat) : Prop :=
  TellJ w8 W v V es ∧ W.heap[b]? = some (.cells #[kv, .int .i64 s, .bool g, .int .i64 u, vv] 28 (0, 0)) ∧ OBx W w8.heap.size kv nk ∧ OBx W w8.heap.size vv nv
theorem BoxT.set {w8 W : World} {v : Value} {V : List (List Value)} {es : List EntR} {b nk nv g j : Nat} {kv vv : Value} {s u : Int} {gn : Bool} {cs : Array Value} {fr : Nat × Nat} (h : BoxT w8 W v V es b kv s gn u vv nk nv) (hg : W.heap[g]? = some (.cells cs 5 fr)) (hb : w8.heap.size ≤ g) (y : UInt8) :
    BoxT w8 (W.setCell ⟨g, j, none⟩ (.int .u8 (y.toNat : Int))) v V es b kv s gn u vv nk nv := by
  obtain ⟨h1, h2, h3, h4⟩ := h
  exact ⟨h1.set hg hb y, blk_grown' (grown_set W g j _) h2 (fun e => (blk_ne h2 hg (by decide)) (Option.some.inj e).symm), h3.set g j y, h4.set g j y⟩
end Go.Proofs.YtlfjbklagljdlaaDoor
