/- Layer 11's laws: BlockMany. -/
import Derived.Test.YteediedhofapkaaBkK
import Derived.Test.YteediedhofapkaaBkB
namespace Go.Proofs.Yteediedhofapkaa
open Go.RowKit
set_option linter.unusedVariables false
set_option linter.unusedSimpArgs false

theorem block_any (A : Option Addr) (n c : Nat) (es : List EntR) (w : World) (h : REnts w A n es) :
    Calls Try.prog 7 #[.slice A n c] w fun r w' => EncC w w' es r := by
  have hl := h.1
  rcases bk_cases es with hc | ⟨h1, h2⟩ | ⟨h1, h2, h3⟩ | hc
  · refine (block_none A n c es w h (by omega)).mono ?_
    rintro r w' ⟨rfl, hb⟩
    exact ⟨13, _, rfl, .inl ⟨hc, rfl⟩, OB.nil _ _, hb⟩
  · refine (block_bad A n c es w h (by omega) 1 (.inl ⟨h2, rfl⟩)).mono ?_
    rintro r w' ⟨rfl, hb⟩
    exact ⟨1, _, rfl, .inr (.inl ⟨h1, h2, rfl⟩), OB.nil _ _, hb⟩
  · refine (block_bad A n c es w h (by omega) 11 (.inr ⟨h2, h3, rfl⟩)).mono ?_
    rintro r w' ⟨rfl, hb⟩
    exact ⟨11, _, rfl, .inr (.inr (.inl ⟨h1, h2, h3, rfl⟩)), OB.nil _ _, hb⟩
  · refine (block_fit A n c es w h hc).mono ?_
    rintro r w' ⟨v, rfl, ho, hb⟩
    exact ⟨0, v, rfl, .inr (.inr (.inr ⟨hc, rfl⟩)), ho, hb⟩
theorem made_bys (k : Nat) : (madeCells #[Value.int .u8 0] k).toList = bys (List.replicate k 0) := by
  apply List.ext_getElem
  · simp [madeCells, bys]
  · intro i h1 h2
    simp [madeCells, bys, Nat.mod_one]
theorem OB.made (w : World) (base k : Nat) (hb : base ≤ w.heap.size) (hk : k ≤ 3000) : OB (w.alloc (.cells (madeCells #[.int .u8 0] k) 5)) base (.slice (some ⟨w.heap.size, 0, none⟩) k k) (List.replicate k 0) := by
  show World.ownsRow _ _ _ _ _ _ _
  rw [List.length_replicate]
  refine ⟨by simp [bys], .inr ⟨w.heap.size, k, _, rfl, hb, heap_alloc_new w _, Nat.le_refl _, by simp only [maxLen]; omega, by simp [madeCells], ?_⟩⟩
  rw [made_bys, List.take_of_length_le (by simp [bys])]
theorem rb_lit2' (w : World) (x y : UInt8) (z1 z2 : Int) (h1 : z1 = x.toNat) (h2 : z2 = y.toNat) (T : TypeId) (fr : Nat × Nat) (g : Nat) (hg : g = w.heap.size) : RB (w.alloc (.cells #[.int .u8 z1, .int .u8 z2] T fr)) (some ⟨g, 0, none⟩) 2 [x, y] := by
  subst h1 h2 hg
  exact RB.lit w [x, y] _ _ _ rfl (by simp)
theorem byteM0 (j : Nat) : (j : Int) % 256 = ((UInt8.ofNat j).toNat : Int) := by rw [UInt8.toNat_ofNat']; omega
theorem byteM0' (j : Nat) : IntKind.u8.wrap (j : Int) = ((UInt8.ofNat j).toNat : Int) := by rw [IntKind.wrap_u8]; exact byteM0 j
theorem byteM1 (j : Nat) : ((j : Int) / 256) % 256 = ((UInt8.ofNat (j / 256)).toNat : Int) := by rw [UInt8.toNat_ofNat']; omega
theorem byteM1' (j : Nat) (h : j < 65536) : (j : Int) / 256 = ((UInt8.ofNat (j / 256)).toNat : Int) := by rw [UInt8.toNat_ofNat']; omega
theorem wpB_mk2 {ops : Array Oper} {rest : List Oper} {o : Oper} {a : Act} {Q : Exit → Act → World → Prop} (wr : World) (z : Nat) (hz : z ≤ 3000) (hgd : o.guard = none) (s x : Operand)
    (ho : o.op = .call { callee := .builtin .append, args := #[s, x], argTypes := #[23, 23] })
    (z1 z2 : Int) (y1 y2 : UInt8) (h1 : z1 = y1.toNat) (h2 : z2 = y2.toNat) (hs : a.eval s = .slice (some ⟨wr.heap.size, 0, none⟩) z z) (g c : Nat) (hg : g = wr.heap.size + 1) (hx : a.eval x = .slice (some ⟨g, 0, none⟩) 2 c)
    (h : ∀ A1 c1 w', OB w' wr.heap.size (.slice A1 (z + 2) c1) (List.replicate z 0 ++ [y1, y2]) → Below wr.heap.size wr w' → wpList Try.prog ops Q rest (a.put o.dst (.slice A1 (z + 2) c1)) w') :
    wpList Try.prog ops Q (o :: rest) a ((wr.alloc (.cells (madeCells #[.int .u8 0] z) 5)).alloc (.cells #[.int .u8 z1, .int .u8 z2] 5)) := by
  have hown := (OB.made wr wr.heap.size z (Nat.le_refl _) hz).alloc (.cells #[.int .u8 z1, .int .u8 z2] 5)
  have hr := rb_lit2' (wr.alloc (.cells (madeCells #[.int .u8 0] z) 5)) y1 y2 z1 z2 h1 h2 5 (0, 0) g (by rw [hg]; simp)
  have hB := below_alloc' (below_alloc' (Below.refl wr.heap.size wr) (.cells (madeCells #[.int .u8 0] z) 5)) (.cells #[.int .u8 z1, .int .u8 z2] 5)
  refine wpB_append wr _ wr.heap.size hgd s x ho _ _ hs hown _ 2 c [y1, y2] hx hr (by simp; omega) hB hB.size ?_
  intro v' w' o' b' _ _
  obtain ⟨A1, c1, rfl, _, _⟩ := o'.openN (z + 2) (by simp)
  exact h A1 c1 w' o' b'
theorem mny_step {wr w1 w' : World} {base z n k : Nat} {x : UInt8} {v v' : Value} {V : List (List Value)} {A1 : Option Addr} {c1 : Nat} {zx : Int} (hv : OV wr base 26 5 v V) (hr : RelV noEnt (PEo wr base) V (mnyS z n x k)) (hb : base ≤ wr.heap.size) (hb1 : Below wr.heap.size wr w1)
    (ho1 : OB w1 wr.heap.size (.slice A1 (z + 2) c1) (List.replicate z 0 ++ [UInt8.ofNat (k / 256), UInt8.ofNat k])) (hx : zx = x.toNat) (hg : (w1.alloc (.cells #[.int .u8 zx] 5)).grownBy w' v.ownBlock)
    (hv' : OV w' base 26 5 v' (V ++ [[.slice A1 (z + 2) c1, .int .i64 ((n : Int) - (k : Int)), .bool false, .int .i64 0, .slice (some ⟨w1.heap.size, 0, none⟩) 1 1]])) : ROw w' base v' (mnyS z n x (k + 1)) := by
  rw [mnyS_succ]
  exact ⟨_, hv', row_step (e := mnyE z n x k) (below_alloc' hb1 _) hv hr hb (ho1.alloc _) (OB.lit1' w1 wr.heap.size hb1.size x zx hx) hg⟩
theorem bk_mod (z : Int) (m : Nat) (hm : 1 ≤ m ∧ m ≤ 3000) (hz : -9223372036854775808 ≤ z ∧ z ≤ 9223372036854775807) : ∃ p : Nat, p < m ∧ (wrap64 (z.tmod m + m)).tmod m = (p : Int) := back_mod z m (by omega) hz
theorem enc_size4 {es : List EntR} (h : FitK es) : (encK es).length ≤ 1000000000 := by
  have hl := accK_len h.2.2.1 es.length (Nat.le_refl _)
  have hs := stK_len es es.length
  have h1 := h.2.1
  unfold encK
  rw [List.length_append, fix4_len, fixK_len, hs]
  have h2 : es.length * 2700 ≤ 1080000 := Nat.mul_le_mul_right 2700 h1
  omega
theorem decode_nil (w : World) : Calls Try.prog 8 #[.slice none 0 0] w fun r w' => ∃ v, ∃ e : Int, e ≠ 0 ∧ r = .returned (.tuple #[v, .int .i64 e]) ∧ Below w.heap.size w w' := by
  refine (decode_any none 0 0 [] w (OB.nil w 0).rb.1 (Nat.le_refl _) (by omega)).mono ?_
  intro r w' hd
  unfold DecC at hd
  rw [decF_short (by decide)] at hd
  obtain ⟨⟨e, he, rfl⟩, hb⟩ := hd
  exact ⟨_, e, he, rfl, hb⟩
set_option maxHeartbeats 32000000 in
set_option maxRecDepth 100000 in
theorem BlockMany_walk (zn zz zx : Int) (w : World) (hn0 : (Lit.int .i64 zn).wf = true) (hz0 : (Lit.int .i64 zz).wf = true) (hx0 : (Lit.int .u8 zx).wf = true) :
    Calls Try.prog 3 #[.int .i64 zn, .int .i64 zz, .int .u8 zx] w fun e w' => e = .returned (.bool true) ∧ Below w.heap.size w w' := by
  obtain ⟨n, hn1, hn2⟩ := bk_mod zn 410 (by omega) (wf_i64 hn0)
  obtain ⟨z, hz1, hz2⟩ := bk_mod zz 100 (by omega) (wf_i64 hz0)
  have hn3 : (wrap64 (zn.tmod 410 + 410)).tmod 410 = (n : Int) := hn2
  have hz3 : (wrap64 (zz.tmod 100 + 100)).tmod 100 = (z : Int) := hz2
  have hw1 := wf_i64 hn0
  have hw2 := wf_i64 hz0
  have hw3 := wf_u8 hx0
  obtain ⟨x, hx⟩ : ∃ x : UInt8, zx = (x.toNat : Int) := ⟨UInt8.ofNat zx.toNat, (UInt8.ofNat_back hw3.1 hw3.2).symm⟩
  have HX := hid hx
  have hmk : ∀ (u : World), (Instr.makeSlice 23 (.int .i64 (z : Int)) (.int .i64 (z : Int))).run Try.prog u = .ok (.slice (some ⟨u.heap.size, 0, none⟩) z z) (u.alloc (.cells (madeCells #[.int .u8 0] z) 5)) := fun u => by
    obtain ⟨i, hi, hz0, hz1, hz2⟩ := info_parts u8info
    have h := run_make (P := Try.prog) u 23 5 i (.int .u8 0) Try.underlying23 hi hz0 .i64 .i64 (z : Int) (z : Int) (by omega) (Int.le_refl _) (by rw [hz2]; omega) (by omega)
    simpa [hz1, Value.cells] using h
  have HJ0 : Hid (ROw w w.heap.size (.slice none 0 0) (mnyS z n x 0)) := hid (ROw.nil _ _)
  clear hn2 hz2 hn0 hz0 hx0 hx
  go_enter Try.func3, Try.ntmps3
  go_wp2
  go_loopw [7, 25] (fun v i wr => ∃ k : Nat, k ≤ n ∧ i = .int .i64 k ∧ ROw wr w.heap.size v (mnyS z n x k) ∧ Below w.heap.size w wr) (fun v i wr => n - (intOf i).toNat)
  case atStart => exact ⟨0, Nat.zero_le _, rfl, HJ0.out, Below.refl _ _⟩
  case round =>
    clear HJ0
    obtain ⟨k, hk, rfl, ⟨V, hv, hr⟩, hB⟩ := hrel
    by_cases hlt : k < n
    · have hwk : wrap64 ((n : Int) - (k : Int)) = (n : Int) - (k : Int) := by unfold wrap64; omega
      have hl : V.length = k := by rw [hr.1, mnyS_len]
      have HV := hid hv
      have HRl := hid hr
      clear hv hr
      go_wp2_with (at_builtin; first
        | (refine wpB_mk2 wr z (by omega) rfl (.tmp 31) (.tmp 37) rfl _ _ (UInt8.ofNat (k / 256)) (UInt8.ofNat k) (by first | exact byteM1' k (by omega) | exact byteM1 k) (by first | exact byteM0 k | exact byteM0' k) rfl _ _ (by simp) rfl ?_; intro A1 c1 w1 ho1 hb1; have HO1 := hid ho1; clear ho1)
        | (refine wpV_append1 22 26 _ 5 72 Try.underlying22 eninfo rfl (by omega) w (w1.alloc (.cells #[.int .u8 zx] 5)) w.heap.size rfl (.tmp 30) (.tmp 45) rfl u7 V rfl (HV.out.below (below_alloc' hb1 _)) #[.slice A1 (z + 2) c1, .int .i64 ((n : Int) - (k : Int)), .bool false, .int .i64 0, .slice (some ⟨w1.heap.size, 0, none⟩) 1 1] rfl (ones5 rfl rfl rfl rfl rfl) 1 _ (by first | rfl | simp) rfl (by simp only [maxLen]; omega) (by omega) (below_then hB (below_alloc' hb1 _)) (below_then hB (below_alloc' hb1 _)).size ?_; intro v' w' hown' hB' hg' _))
      have HN := hid (mny_step HV.out HRl.out hB.size hb1 HO1.out HX.out hg' hown')
      go_roundw
      case rel => exact ⟨k + 1, by omega, by go_num, HN.out, hB'⟩
      case measure => simp [intOf]; omega
    · obtain rfl : k = n := by omega
      obtain ⟨A, c, hve, hc, hrs⟩ := ROw.len (⟨V, hv, hr⟩ : ROw wr w.heap.size u7 (mnyS z k x k)) (by rw [mnyS_len]; omega)
      rw [mnyS_len] at hve hrs hc
      subst hve
      have HRs := hid hrs
      clear hv hr hrs hmk
      rcases mny_code (n := k) x hz1 with hbad | hfit
      · go_wp2_with (first
          | (go_at_call 6; (with_reducible refine (encode_none A k c (mnyS z k x k) _ HRs.out hbad).mono ?_); rintro r w2 ⟨rfl, hb2⟩; have hB2 := below_then hB hb2)
          | (go_at_call 7; (with_reducible refine (block_none A k c (mnyS z k x k) _ (HRs.out.below hb2) hbad).mono ?_); rintro r w3 ⟨rfl, hb3⟩; have hB3 := below_then hB2 hb3; have hcv := (OB.nil w3 0).conv)
          | (go_at_call 8; (with_reducible refine (decode_nil _).mono ?_); rintro r w4 ⟨v4, e4, he4, rfl, hb4⟩; have hB4 := below_then hB3 hb4; have hzb : (e4 == 0) = false := by rw [beq_eq_false_iff_ne]; exact he4)
          | (go_at_call 10; (with_reducible refine (awake_any _).mono ?_); rintro r w9 ⟨rfl, hb9⟩))
        go_ret
        exact ⟨rfl, below_then hB4 hb9⟩
      · have HF := hid hfit
        have hsz := enc_size4 hfit
        obtain ⟨K, hK⟩ : ∃ K, (encK (mnyS z k x k)).length = K := ⟨_, rfl⟩
        have HKl := hid hK
        rw [hK] at hsz
        have hkl := mnyS_len z k x k
        have HL := hid hkl
        clear hfit hK hkl
        generalize mnyS z k x k = es at *
        go_wp2_with (first
          | (go_at_call 6; (with_reducible refine (encode_fit A k c es _ HRs.out HF.out).mono ?_); rintro r w2 ⟨v2, rfl, ho2, hb2⟩; obtain ⟨A2, c2, rfl, hr2, hc2⟩ := ho2.openN K HKl.out; have HO2 := hid ho2; have HR2 := hid hr2; clear ho2 hr2; have hB2 := below_then hB hb2)
          | (go_at_call 7; (with_reducible refine (block_fit A k c es _ (HRs.out.below hb2) HF.out).mono ?_); rintro r w3 ⟨v3, rfl, ho3, hb3⟩; obtain ⟨A3, c3, rfl, hr3, hc3⟩ := ho3.openN K HKl.out; have hB3 := below_then hB2 hb3; have hcv2 := (HR2.out.below hb3).conv c2; have hcv3 := hr3.conv c3; have HR3 := hid (HR2.out.below hb3); clear ho3 hr3)
          | (go_at_call 8; (with_reducible refine (decode_enc A2 K c2 es _ HR3.out hc2 (by omega) HF.out).mono ?_); rintro r w4 ⟨A4, c4, rfl, hr4, hc4, hb4⟩; rw [HL.out] at hr4 hc4; have HR4 := hid hr4; clear hr4; have hB4 := below_then hB3 hb4; rw [HL.out])
          | (go_at_call 9; (with_reducible refine (sameentries_any A4 c4 A c k es _ HR4.out (HRs.out.below (below_then hb2 (below_then hb3 hb4)))).mono ?_); rintro r w5 ⟨rfl, hb5⟩; have hB5 := below_then hB4 hb5)
          | (go_at_call 10; (with_reducible refine (awake_any _).mono ?_); rintro r w9 ⟨rfl, hb9⟩))
        go_ret
        exact ⟨rfl, below_then hB5 hb9⟩
end Go.Proofs.Yteediedhofapkaa
