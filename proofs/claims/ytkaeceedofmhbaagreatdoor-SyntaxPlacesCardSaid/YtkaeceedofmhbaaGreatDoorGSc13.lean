/-
  scan: text, its escapes.
  scan: text, the whole.
-/
import Derived.Test.YtkaeceedofmhbaaGreatDoorGSc11
import Derived.Deep.RegionHeld3
namespace Go.Proofs.YtkaeceedofmhbaaGreatDoor
open Go.RowKit Bk

theorem esc_end {ob : Bytes} {k i : Nat} {s : Bytes} (h : ¬ i < s.length) : text ob k (92 :: s.drop i) = (false, [], k + 1) := by
  rw [List.drop_eq_nil_of_le (by omega)]; unfold text; rfl
theorem esc_n {ob : Bytes} {k i : Nat} {s : Bytes} (h : i < s.length) (hc : s[i] = 110) : text ob k (92 :: s.drop i) = text (ob ++ [10]) (k + 2) (s.drop (i + 1)) := by
  rw [drop_cons h, hc]; conv => lhs; unfold text
  rfl
theorem esc_t {ob : Bytes} {k i : Nat} {s : Bytes} (h : i < s.length) (hc : s[i] = 116) : text ob k (92 :: s.drop i) = text (ob ++ [9]) (k + 2) (s.drop (i + 1)) := by
  rw [drop_cons h, hc]; conv => lhs; unfold text
  rfl
theorem esc_q {ob : Bytes} {k i : Nat} {s : Bytes} (h : i < s.length) (hc : s[i] = 34) : text ob k (92 :: s.drop i) = text (ob ++ [34]) (k + 2) (s.drop (i + 1)) := by
  rw [drop_cons h, hc]; conv => lhs; unfold text
  rfl
theorem esc_b {ob : Bytes} {k i : Nat} {s : Bytes} (h : i < s.length) (hc : s[i] = 92) : text ob k (92 :: s.drop i) = text (ob ++ [92]) (k + 2) (s.drop (i + 1)) := by
  rw [drop_cons h, hc]; conv => lhs; unfold text
  rfl
theorem esc_bad {ob : Bytes} {k i : Nat} {s : Bytes} (h : i < s.length) (h1 : s[i] ≠ 110) (h2 : s[i] ≠ 116) (h3 : s[i] ≠ 34) (h4 : s[i] ≠ 92) (h5 : s[i] ≠ 120) : text ob k (92 :: s.drop i) = (false, [], k + 1) := by
  rw [drop_cons h]; unfold text
  simp only [show ((92 : UInt8) = 34) = False from by simp, if_false, if_true, if_neg h1, if_neg h2, h3, h4, h5, or_self]
theorem esc_x {ob : Bytes} {k i : Nat} {s : Bytes} (h : i < s.length) (hc : s[i] = 120) : text ob k (92 :: s.drop i) = (match s.drop (i + 1) with
    | [] => (false, [], k + 2)
    | a :: r => if hexv a = 16 then (false, [], k + 2) else match r with
      | [] => (false, [], k + 3)
      | b :: r => if hexv b = 16 then (false, [], k + 3) else text (ob ++ [UInt8.ofNat (hexv a * 16 + hexv b)]) (k + 4) r) := by
  rw [drop_cons h, hc]; conv => lhs; unfold text
  rfl
theorem esc_x0 {ob : Bytes} {k i : Nat} {s : Bytes} (h : i < s.length) (hc : s[i] = 120) (h1 : ¬ i + 1 < s.length) : text ob k (92 :: s.drop i) = (false, [], k + 2) := by
  rw [esc_x h hc, List.drop_eq_nil_of_le (by omega)]
theorem esc_x1 {ob : Bytes} {k i : Nat} {s : Bytes} (h : i < s.length) (hc : s[i] = 120) (h1 : i + 1 < s.length) (h2 : hexv s[i + 1] = 16) : text ob k (92 :: s.drop i) = (false, [], k + 2) := by
  rw [esc_x h hc, drop_cons h1]; simp only [if_pos h2]
theorem esc_x2 {ob : Bytes} {k i : Nat} {s : Bytes} (h : i < s.length) (hc : s[i] = 120) (h1 : i + 1 < s.length) (h2 : ¬ hexv s[i + 1] = 16) (h3 : ¬ i + 2 < s.length) : text ob k (92 :: s.drop i) = (false, [], k + 3) := by
  rw [esc_x h hc, drop_cons h1, List.drop_eq_nil_of_le (show s.length ≤ i + 1 + 1 by omega)]; simp only [if_neg h2]
theorem esc_x3 {ob : Bytes} {k i : Nat} {s : Bytes} (h : i < s.length) (hc : s[i] = 120) (h1 : i + 1 < s.length) (h2 : ¬ hexv s[i + 1] = 16) (h3 : i + 2 < s.length) (h4 : hexv s[i + 2] = 16) : text ob k (92 :: s.drop i) = (false, [], k + 3) := by
  rw [esc_x h hc, drop_cons h1, drop_cons (show i + 1 + 1 < s.length by omega)]; simp only [if_neg h2, if_pos h4]
theorem esc_x4 {ob : Bytes} {k i : Nat} {s : Bytes} (h : i < s.length) (hc : s[i] = 120) (h1 : i + 1 < s.length) (h2 : ¬ hexv s[i + 1] = 16) (h3 : i + 2 < s.length) (h4 : ¬ hexv s[i + 2] = 16) :
    text ob k (92 :: s.drop i) = text (ob ++ [UInt8.ofNat (hexv s[i + 1] * 16 + hexv s[i + 2])]) (k + 4) (s.drop (i + 3)) := by
  rw [esc_x h hc, drop_cons h1, drop_cons (show i + 1 + 1 < s.length by omega)]; simp only [if_neg h2, if_neg h4]

theorem hex_or0 {v : Int} (h0 : 0 ≤ v) (h1 : v < 16) : bits BinOp.or IntKind.u64 (IntKind.u64.wrap 0) v = v := by
  have key : ∀ n : Fin 16, bits BinOp.or IntKind.u64 (IntKind.u64.wrap 0) (n.val : Int) = (n.val : Int) := by decide +kernel
  have := key ⟨v.toNat, by omega⟩
  simpa [Int.toNat_of_nonneg h0] using this
theorem hex_or1 {u v : Int} (g0 : 0 ≤ u) (g1 : u < 16) (h0 : 0 ≤ v) (h1 : v < 16) : bits BinOp.or IntKind.u64 (IntKind.u64.wrap (u * 16)) v = u * 16 + v := by
  have key : ∀ m n : Fin 16, bits BinOp.or IntKind.u64 (IntKind.u64.wrap ((m.val : Int) * 16)) (n.val : Int) = (m.val : Int) * 16 + (n.val : Int) := by decide +kernel
  have := key ⟨u.toNat, by omega⟩ ⟨v.toNat, by omega⟩
  simpa [Int.toNat_of_nonneg h0, Int.toNat_of_nonneg g0] using this

section
variable {X : Nat → Prop} {c : Nat} {sv : Value} {s : Bytes} {p b : Nat} {t : Tok} {w0 : World} {T : Bool × Bytes × Nat}

set_option maxRecDepth 100000 in
set_option maxHeartbeats 4000000 in
theorem text_esc (n : Nat) (a : Act) (w : World) (h0 : CT X w0 c sv s p b t) (hJ : textJ X c sv s p b t w0 T 1 n a w) :
    Goes Tryz.prog textBody (textJ X c sv s p b t w0 T) (bodyPost Tryz.prog Tryz.f61 (TextPost X c sv s p b t w0 T)) n 1 a w := by
  refine ⟨_, rfl, ?_⟩
  obtain ⟨q, ov, ob, ⟨g, rfl⟩, hpq, hqs, hct, hfr, hown, hobl, hn, hT⟩ := hJ
  obtain ⟨hs, hT⟩ : s.drop q = 92 :: s.drop (q + 1) ∧ T = text ob (q - p) (92 :: s.drop (q + 1)) := by
    rcases hT with ⟨h, _⟩ | ⟨_, h1, h2⟩
    · cases h
    · exact ⟨h1, by rw [h2, h1]⟩
  unfold textF
  have H0 := Lib.hid h0
  have HT := Lib.hid hT
  have hlen := hct.cur.slen
  have hne : ¬ c = b := hct.ne
  have hne' : ¬ b = c := fun e => hct.ne e.symm
  have c1 := hct.cur.c1
  have f1 := hct.cur.free 1
  have cw : IntKind.i64.wrap ((q : Int) + 1) = (q : Int) + 1 := IntWalk.i64_in _ ⟨by omega, by omega⟩
  have hct1 := hct.step (by omega)
  have HC := Lib.hid hct1
  have HF := Lib.hid (hfr.setCell (p := ⟨c, 1, none⟩) hct.cur.xc (.int .i64 ((q : Int) + 1)))
  have HO := Lib.hid (hown.put (i := 1) (lt_of_block h0.cur.blk) (.int .i64 ((q : Int) + 1)))
  by_cases hl : q + 1 < s.length
  · obtain ⟨bb, off, cap, hsv, hx, hc1, hc2, hbs⟩ := hct.cur.shows (show q < s.length by omega)
    have c0 := hct.cur.c0
    have cb := hbs (q + 1) hl
    have hcbb : ¬ bb = c := fun e => hct.cur.xc (e ▸ hx)
    have hcbb' : ¬ c = bb := fun e => hcbb e.symm
    have hq2 : ((q : Int) + 1 == (s.length : Int)) = false := by rw [beq_eq_false_iff_ne]; omega
    have hq3 : (0 : Int) ≤ (q : Int) + 1 := by omega
    have hq4 : (q : Int) + 1 < (s.length : Int) := by omega
    have hq5 : ((q : Int) + 1).toNat = q + 1 := by omega
    rw [hsv] at c0
    obtain ⟨ch, hch⟩ : ∃ ch : UInt8, s[q + 1] = ch := ⟨_, rfl⟩
    rw [hch] at cb
    have HH := Lib.hid hch
    have HSV := Lib.hid hsv
    have HX := Lib.hid hx
    have hb63 : (bn ob).length + 1 ≤ 1048577 := by rw [bn_length]; omega
    have HB63 := Lib.hid hb63
    have hbase := HF.out.size
    have HBA := Lib.hid hbase
    have hsz : ∀ m, ((w.setCell ⟨c, 1, none⟩ (.int .i64 ((q : Int) + 1))).drewN m).heap.size = w.heap.size := fun m => by simp [World.setCell, World.drewN]
    have HSZ := Lib.hid hsz
    clear hb63 hbase hsz
    clear hbs hx hc1 hc2 hsv hct hct1 hfr hown hch h0 hT hs
    by_cases h_n : ch = 110
    · subst h_n
      have HT2 := Lib.hid (show T = text (ob ++ [10]) (q - p + 2) (s.drop (q + 1 + 1)) by rw [HT.out, esc_n hl HH.out])
      clear HT HH
      go_wp2_with fail
      go_quiet (fail)
      go_wp2_with fail
      go_quiet (fail)
      go_wp2_with (at_builtin; refine print_append_num w0.heap.size rfl (.tmp 151) (.tmp 153) 34 5 .u8 1 rfl Tryz.underlying34 info5 (by decide) ov (bn ob) 10 rfl (by rw [HSZ.out]; rfl) (HO.out.drewN _) (Below.refl _ _) ?cb ?cl ?_)
      case cb => exact HBA.out
      case cl => have := HB63.out; omega
      intro ov1 w1 hown1 _ hgrow1 _
      have hfin := Lib.hid (text_added (HC.out.drewN _) (HF.out.drewN _) (HO.out.drewN _) H0.out hgrow1)
      have HO1 := Lib.hid hown1
      clear hown1 hgrow1
      go_wp2_with fail
      go_step3
      exact ⟨n - 1, by omega, q + 1, ov1, ob ++ [10], textF_mk _ rfl, by omega, hl, hfin.out.1, hfin.out.2, OwnB.snoc (by simpa using HO1.out), by simp; omega, by omega, .inl ⟨rfl, by rw [HT2.out, show q + 1 + 1 - p = q - p + 2 from by omega]⟩⟩
    by_cases h_t : ch = 116
    · subst h_t
      have HT2 := Lib.hid (show T = text (ob ++ [9]) (q - p + 2) (s.drop (q + 1 + 1)) by rw [HT.out, esc_t hl HH.out])
      clear HT HH
      go_wp2_with fail
      go_quiet (fail)
      go_wp2_with fail
      go_quiet (fail)
      go_wp2_with (at_builtin; refine print_append_num w0.heap.size rfl (.tmp 151) (.tmp 153) 34 5 .u8 1 rfl Tryz.underlying34 info5 (by decide) ov (bn ob) 9 rfl (by rw [HSZ.out]; rfl) (HO.out.drewN _) (Below.refl _ _) ?cb ?cl ?_)
      case cb => exact HBA.out
      case cl => have := HB63.out; omega
      intro ov1 w1 hown1 _ hgrow1 _
      have hfin := Lib.hid (text_added (HC.out.drewN _) (HF.out.drewN _) (HO.out.drewN _) H0.out hgrow1)
      have HO1 := Lib.hid hown1
      clear hown1 hgrow1
      go_wp2_with fail
      go_step3
      exact ⟨n - 1, by omega, q + 1, ov1, ob ++ [9], textF_mk _ rfl, by omega, hl, hfin.out.1, hfin.out.2, OwnB.snoc (by simpa using HO1.out), by simp; omega, by omega, .inl ⟨rfl, by rw [HT2.out, show q + 1 + 1 - p = q - p + 2 from by omega]⟩⟩
    by_cases h_q : ch = 34
    · subst h_q
      have HT2 := Lib.hid (show T = text (ob ++ [34]) (q - p + 2) (s.drop (q + 1 + 1)) by rw [HT.out, esc_q hl HH.out])
      clear HT HH
      go_wp2_with fail
      go_quiet (fail)
      go_wp2_with fail
      go_quiet (fail)
      go_wp2_with (at_builtin; refine print_append_num w0.heap.size rfl (.tmp 151) (.tmp 153) 34 5 .u8 1 rfl Tryz.underlying34 info5 (by decide) ov (bn ob) 34 rfl (by rw [HSZ.out]; rfl) (HO.out.drewN _) (Below.refl _ _) ?cb ?cl ?_)
      case cb => exact HBA.out
      case cl => have := HB63.out; omega
      intro ov1 w1 hown1 _ hgrow1 _
      have hfin := Lib.hid (text_added (HC.out.drewN _) (HF.out.drewN _) (HO.out.drewN _) H0.out hgrow1)
      have HO1 := Lib.hid hown1
      clear hown1 hgrow1
      go_wp2_with fail
      go_step3
      exact ⟨n - 1, by omega, q + 1, ov1, ob ++ [34], textF_mk _ rfl, by omega, hl, hfin.out.1, hfin.out.2, OwnB.snoc (by simpa using HO1.out), by simp; omega, by omega, .inl ⟨rfl, by rw [HT2.out, show q + 1 + 1 - p = q - p + 2 from by omega]⟩⟩
    by_cases h_b : ch = 92
    · subst h_b
      have HT2 := Lib.hid (show T = text (ob ++ [92]) (q - p + 2) (s.drop (q + 1 + 1)) by rw [HT.out, esc_b hl HH.out])
      clear HT HH
      go_wp2_with fail
      go_quiet (fail)
      go_wp2_with fail
      go_quiet (fail)
      go_wp2_with (at_builtin; refine print_append_num w0.heap.size rfl (.tmp 151) (.tmp 153) 34 5 .u8 1 rfl Tryz.underlying34 info5 (by decide) ov (bn ob) 92 rfl (by rw [HSZ.out]; rfl) (HO.out.drewN _) (Below.refl _ _) ?cb ?cl ?_)
      case cb => exact HBA.out
      case cl => have := HB63.out; omega
      intro ov1 w1 hown1 _ hgrow1 _
      have hfin := Lib.hid (text_added (HC.out.drewN _) (HF.out.drewN _) (HO.out.drewN _) H0.out hgrow1)
      have HO1 := Lib.hid hown1
      clear hown1 hgrow1
      go_wp2_with fail
      go_step3
      exact ⟨n - 1, by omega, q + 1, ov1, ob ++ [92], textF_mk _ rfl, by omega, hl, hfin.out.1, hfin.out.2, OwnB.snoc (by simpa using HO1.out), by simp; omega, by omega, .inl ⟨rfl, by rw [HT2.out, show q + 1 + 1 - p = q - p + 2 from by omega]⟩⟩
    by_cases h_x : ch = 120
    · subst h_x
      go_wp2_with fail
      go_quiet (fail)
      obtain ⟨n1, hn1⟩ : ∃ n1, n1 = nq := ⟨_, rfl⟩
      subst hn1
      go_wp2_with fail
      go_quiet (fail)
      obtain ⟨n2, hn2⟩ : ∃ n2, n2 = nq := ⟨_, rfl⟩
      subst hn2
      go_wp2_with fail
      have hC1 := HC.out.drewN (n1 + n2)
      have hF1 := HF.out.drewN (n1 + n2)
      have hO1 := HO.out.drewN (n1 + n2)
      obtain ⟨w1, hW1⟩ : ∃ w1, w1 = (w.setCell ⟨c, 1, none⟩ (.int .i64 ((q : Int) + 1))).drewN (n1 + n2) := ⟨_, rfl⟩
      rw [← hW1] at hC1 hF1 hO1 ⊢
      clear hW1 HC HF HO HBA HSZ
      obtain ⟨m1, hm1⟩ : ∃ m1, m1 = q + 1 := ⟨_, rfl⟩
      rw [← hm1] at hC1
      have HM1 := Lib.hid hm1
      clear hm1
      refine wp_loop_rounds 3 ?_
      have c1_1 := hC1.cur.c1
      have f1_1 := hC1.cur.free 1
      have cw_1 : IntKind.i64.wrap (((m1 : Nat) : Int) + 1) = (m1 : Int) + 1 := IntWalk.i64_in _ ⟨by have := HM1.out; omega, by have := HM1.out; omega⟩
      have hC1s := Lib.hid (hC1.step (by have := HM1.out; omega))
      have hF1s := Lib.hid (hF1.setCell (p := ⟨c, 1, none⟩) hC1.cur.xc (.int .i64 ((m1 : Int) + 1)))
      have hO1s := Lib.hid (hO1.put (i := 1) (lt_of_block H0.out.cur.blk) (.int .i64 ((m1 : Int) + 1)))
      clear hC1 hF1 hO1
      rw [rounds_succ]
      go_wp2_with fail
      clear c1_1 f1_1 cw_1
      obtain ⟨u1, hU1⟩ : ∃ u1, u1 = w1.setCell ⟨c, 1, none⟩ (.int .i64 ((m1 : Int) + 1)) := ⟨_, rfl⟩
      rw [← hU1] at hC1s hF1s hO1s ⊢
      clear hU1
      have d1 := hC1s.out.cur.c1
      have d0 := hC1s.out.cur.c0
      rw [HSV.out] at d0
      obtain ⟨j1, hj1⟩ : ∃ j1, j1 = m1 + 1 := ⟨_, rfl⟩
      have hji1 : (m1 : Int) + 1 = (j1 : Int) := by omega
      rw [← hj1] at hC1s d1
      have HJ1 := Lib.hid (show j1 = q + 2 by have := HM1.out; omega)
      have hjb1 : j1 ≤ s.length := by have := HM1.out; omega
      clear hj1 hji1
      by_cases hl1 : j1 < s.length
      · have hjl : ((j1 : Int) == (s.length : Int)) = false := by rw [beq_eq_false_iff_ne]; omega
        have hj0 : (0 : Int) ≤ (j1 : Int) := Int.natCast_nonneg _
        have hj1 : (j1 : Int) < (s.length : Int) := by omega
        obtain ⟨ch1, hch1⟩ : ∃ ch1 : UInt8, s[j1] = ch1 := ⟨_, rfl⟩
        have db : u1.cell? ⟨bb, off + j1, none⟩ = some (.int .u8 (ch1.toNat : Int)) := by
          obtain ⟨bb', off', cap', e, _, _, _, hbs⟩ := hC1s.out.cur.shows hl1
          rw [HSV.out] at e
          cases e
          rw [← hch1]
          exact hbs j1 hl1
        have HH1 := Lib.hid hch1
        have HL1 := Lib.hid (show HeldO X c s j1 b t w0 bb off cap ov ob u1 from ⟨⟨by rw [← HSV.out]; exact hC1s.out, hF1s.out, HX.out⟩, hO1s.out⟩)
        clear hch1
        obtain ⟨hv1, hhv1⟩ : ∃ hv : Int, hv = (hexv ch1 : Int) := ⟨_, rfl⟩
        have HX1 := fun w => Lib.hid (hexo_held (X := X) (c := c) (b := b) (t := t) (w0 := w0) (bb := bb) (off := off) (cap := cap) (ov := ov) (ob := ob) ch1 hv1 hhv1 hl1 HH1.out w)
        have hle1 := hexv_le ch1
        have HHV1 := Lib.hid hhv1
        by_cases hx1 : hv1 = 16
        · have HW1 := Lib.hid hx1
          subst hx1
          clear hhv1 hle1
          go_still_tail 21, (by kernel_rfl)
          go_wp2_with fail
          refine ((HX1 _).out HL1.out.drew).mono ?_
          rintro e v1 ⟨rfl, d0', d1', db', hL1⟩
          have HL1 := Lib.hid hL1
          clear hL1 d0' d1' db' d0 d1 db
          go_wp2_with fail
          go_ret
          rw [show T = (false, [], q - p + 2) from by rw [HT.out, esc_x1 hl HH.out (by have := HJ1.out; omega) (by have h := HH1.out; have h2 := HHV1.out; have h3 := HW1.out; have h4 := HJ1.out; subst h4; rw [h]; omega)]]
          refine ⟨rfl, HL1.out.1.2.1, t.s, ?_, fun h => by cases h⟩
          rw [show p + (q - p + 2) = j1 from by have := HJ1.out; omega, HSV.out]
          exact HL1.out.1.1
        · have hb1 : (hv1 == 16) = false := by rw [beq_eq_false_iff_ne]; exact hx1
          have hr01 : 0 ≤ hv1 := by omega
          have hr11 : hv1 < 16 := by omega
          have HN1 := Lib.hid hx1
          clear hhv1 hle1 hx1
          go_still_tail 21, (by kernel_rfl)
          go_wp2_with fail
          refine ((HX1 _).out HL1.out.drew).mono ?_
          rintro e v1 ⟨rfl, e0, e1, eb, hL1⟩
          have HL1_1 := Lib.hid hL1
          clear hL1 d0 d1 db
          go_wp2_with fail
          have hor1 : bits BinOp.or IntKind.u64 (IntKind.u64.wrap 0) hv1 = hv1 := hex_or0 hr01 hr11
          have HX1' := fun w => Lib.hid (hexo_held (X := X) (c := c) (b := b) (t := t) (w0 := w0) (bb := bb) (off := off) (cap := cap) (ov := ov) (ob := ob) ch1 hv1 HHV1.out hl1 HH1.out w)
          clear HX1
          go_region_held3 (fun w' => w'.cell? ⟨c, 0, none⟩ = some (.slice (some ⟨bb, off, none⟩) s.length cap) ∧ w'.cell? ⟨c, 1, none⟩ = some (.int .i64 j1) ∧ w'.cell? ⟨bb, off + j1, none⟩ = some (.int .u8 (ch1.toNat : Int)) ∧ Hid (HeldO X c s j1 b t w0 bb off cap ov ob w'))
            (first | exact ⟨e0, e1, eb, Lib.hid HL1_1.out.drew⟩ | exact ⟨by assumption, by assumption, by assumption, Lib.hid (by assumption)⟩ | go_keep)
            (first | (go_at_call 89; go_split_ands; go_must (refine ((HX1' _).out (Hid.out (by assumption))).mono ?_); rintro e v1' ⟨rfl, e0', e1', eb', hL1⟩))
          have HL2_1 := Lib.hid hL1
          clear hL1 e0' e1' eb' e0 e1 eb HX1' HL1_1 HL1
          go_wp2_with fail
          obtain ⟨w2, hw2⟩ : ∃ w2, w2 = v1' := ⟨_, rfl⟩
          subst hw2
          have HM2 := Lib.hid HJ1.out
          have hC2 : CT X w2 c sv s j1 b t := by rw [HSV.out]; exact HL2_1.out.1.1
          have hF2 : Fr X w0 w2 := HL2_1.out.1.2.1
          have hO2 : OwnB w0 w2 ov ob := HL2_1.out.2
          clear hjl hj0 hj1 hjb1 HL2_1 hF1s hO1s hC1s
          have c1_2 := hC2.cur.c1
          have f1_2 := hC2.cur.free 1
          have cw_2 : IntKind.i64.wrap (((j1 : Nat) : Int) + 1) = (j1 : Int) + 1 := IntWalk.i64_in _ ⟨by have := HM2.out; omega, by have := HM2.out; omega⟩
          have hC2s := Lib.hid (hC2.step (by have := HM2.out; omega))
          have hF2s := Lib.hid (hF2.setCell (p := ⟨c, 1, none⟩) hC2.cur.xc (.int .i64 ((j1 : Int) + 1)))
          have hO2s := Lib.hid (hO2.put (i := 1) (lt_of_block H0.out.cur.blk) (.int .i64 ((j1 : Int) + 1)))
          clear hC2 hF2 hO2
          rw [rounds_succ]
          go_wp2_with fail
          clear c1_2 f1_2 cw_2
          obtain ⟨u2, hU2⟩ : ∃ u2, u2 = w2.setCell ⟨c, 1, none⟩ (.int .i64 ((j1 : Int) + 1)) := ⟨_, rfl⟩
          rw [← hU2] at hC2s hF2s hO2s ⊢
          clear hU2
          have d1 := hC2s.out.cur.c1
          have d0 := hC2s.out.cur.c0
          rw [HSV.out] at d0
          obtain ⟨j2, hj2⟩ : ∃ j2, j2 = j1 + 1 := ⟨_, rfl⟩
          have hji2 : (j1 : Int) + 1 = (j2 : Int) := by omega
          rw [← hj2] at hC2s d1
          have HJ2 := Lib.hid (show j2 = q + 3 by have := HM2.out; omega)
          have hjb2 : j2 ≤ s.length := by have := HM2.out; omega
          clear hj2 hji2
          by_cases hl2 : j2 < s.length
          · have hjl : ((j2 : Int) == (s.length : Int)) = false := by rw [beq_eq_false_iff_ne]; omega
            have hj0 : (0 : Int) ≤ (j2 : Int) := Int.natCast_nonneg _
            have hj1 : (j2 : Int) < (s.length : Int) := by omega
            obtain ⟨ch2, hch2⟩ : ∃ ch2 : UInt8, s[j2] = ch2 := ⟨_, rfl⟩
            have db : u2.cell? ⟨bb, off + j2, none⟩ = some (.int .u8 (ch2.toNat : Int)) := by
              obtain ⟨bb', off', cap', e, _, _, _, hbs⟩ := hC2s.out.cur.shows hl2
              rw [HSV.out] at e
              cases e
              rw [← hch2]
              exact hbs j2 hl2
            have HH2 := Lib.hid hch2
            have HL2 := Lib.hid (show HeldO X c s j2 b t w0 bb off cap ov ob u2 from ⟨⟨by rw [← HSV.out]; exact hC2s.out, hF2s.out, HX.out⟩, hO2s.out⟩)
            clear hch2
            obtain ⟨hv2, hhv2⟩ : ∃ hv : Int, hv = (hexv ch2 : Int) := ⟨_, rfl⟩
            have HX2 := fun w => Lib.hid (hexo_held (X := X) (c := c) (b := b) (t := t) (w0 := w0) (bb := bb) (off := off) (cap := cap) (ov := ov) (ob := ob) ch2 hv2 hhv2 hl2 HH2.out w)
            have hle2 := hexv_le ch2
            have HHV2 := Lib.hid hhv2
            by_cases hx2 : hv2 = 16
            · have HW2 := Lib.hid hx2
              subst hx2
              clear hhv2 hle2
              go_still_tail 21, (by kernel_rfl)
              go_wp2_with fail
              refine ((HX2 _).out HL2.out.drew).mono ?_
              rintro e v2 ⟨rfl, d0', d1', db', hL1⟩
              have HL1 := Lib.hid hL1
              clear hL1 d0' d1' db' d0 d1 db
              go_wp2_with fail
              go_ret
              rw [show T = (false, [], q - p + 3) from by rw [HT.out, esc_x3 hl HH.out (by have := HJ1.out; omega) (by have h := HH1.out; have h2 := HHV1.out; have h3 := HN1.out; have h4 := HJ1.out; subst h4; rw [h]; omega) (by have := HJ2.out; omega) (by have h := HH2.out; have h2 := HHV2.out; have h3 := HW2.out; have h4 := HJ2.out; subst h4; rw [h]; omega)]]
              refine ⟨rfl, HL1.out.1.2.1, t.s, ?_, fun h => by cases h⟩
              rw [show p + (q - p + 3) = j2 from by have := HJ2.out; omega, HSV.out]
              exact HL1.out.1.1
            · have hb2 : (hv2 == 16) = false := by rw [beq_eq_false_iff_ne]; exact hx2
              have hr02 : 0 ≤ hv2 := by omega
              have hr12 : hv2 < 16 := by omega
              have HN2 := Lib.hid hx2
              clear hhv2 hle2 hx2
              go_still_tail 21, (by kernel_rfl)
              go_wp2_with fail
              refine ((HX2 _).out HL2.out.drew).mono ?_
              rintro e v2 ⟨rfl, e0, e1, eb, hL1⟩
              have HL1_2 := Lib.hid hL1
              clear hL1 d0 d1 db
              go_wp2_with fail
              obtain ⟨vv, hvv⟩ : ∃ vv, vv = hv1 * 16 + hv2 := ⟨_, rfl⟩
              have hor2 : bits BinOp.or IntKind.u64 (IntKind.u64.wrap (hv1 * 16)) hv2 = vv := by rw [hvv]; exact hex_or1 hr01 hr11 hr02 hr12
              have hw8 : IntKind.u8.wrap vv = vv := IntWalk.u8_in _ ⟨by omega, by omega⟩
              obtain ⟨by_, hby⟩ : ∃ by_ : UInt8, by_ = UInt8.ofNat (hexv ch1 * 16 + hexv ch2) := ⟨_, rfl⟩
              have hbv : (by_.toNat : Int) = vv := by
                have h1 := HHV1.out
                have h2 := HHV2.out
                rw [hby, hvv, UInt8.toNat_ofNat', Nat.mod_eq_of_lt (by omega)]
                omega
              have HT2 := Lib.hid (show T = text (ob ++ [by_]) (q - p + 4) (s.drop (q + 1 + 3)) by
                have h1 := HH1.out
                have h2 := HHV1.out
                have h3 := HN1.out
                have h4 := HJ1.out
                have h5 := HH2.out
                have h6 := HHV2.out
                have h7 := HN2.out
                have h8 := HJ2.out
                subst h4
                subst h8
                rw [HT.out, esc_x4 hl HH.out (by omega) (by rw [h1]; omega) (by omega) (by rw [h5]; omega), hby, h1, h5])
              have HBV := Lib.hid hbv
              clear hvv hby hbv
              have HX2' := fun w => Lib.hid (hexo_held (X := X) (c := c) (b := b) (t := t) (w0 := w0) (bb := bb) (off := off) (cap := cap) (ov := ov) (ob := ob) ch2 hv2 HHV2.out hl2 HH2.out w)
              clear HX2
              go_region_held3 (fun w' => w'.cell? ⟨c, 0, none⟩ = some (.slice (some ⟨bb, off, none⟩) s.length cap) ∧ w'.cell? ⟨c, 1, none⟩ = some (.int .i64 j2) ∧ w'.cell? ⟨bb, off + j2, none⟩ = some (.int .u8 (ch2.toNat : Int)) ∧ Hid (HeldO X c s j2 b t w0 bb off cap ov ob w'))
                (first | exact ⟨e0, e1, eb, Lib.hid HL1_2.out.drew⟩ | exact ⟨by assumption, by assumption, by assumption, Lib.hid (by assumption)⟩ | go_keep)
                (first | (go_at_call 89; go_split_ands; go_must (refine ((HX2' _).out (Hid.out (by assumption))).mono ?_); rintro e v2' ⟨rfl, e0', e1', eb', hL1⟩))
              have HL2_2 := Lib.hid hL1
              clear hL1 e0' e1' eb' e0 e1 eb HX2' HL1_2 HL2
              go_wp2_with fail
              rw [rounds_succ]
              go_wp2_with (at_builtin; refine print_append_num w0.heap.size rfl (.tmp 151) (.tmp 153) 34 5 .u8 1 rfl Tryz.underlying34 info5 (by decide) ov (bn ob) vv rfl rfl HL2_2.out.2 (Below.refl _ _) ?cb ?cl ?_)
              case cb => exact HL2_2.out.1.2.1.size
              case cl => have := HB63.out; omega
              intro ov1 w3 hown1 _ hgrow1 _
              have hfin := Lib.hid (text_added HL2_2.out.1.1 HL2_2.out.1.2.1 HL2_2.out.2 (by rw [← HSV.out]; exact H0.out) hgrow1)
              have HO1 := Lib.hid hown1
              clear hown1 hgrow1
              go_wp2_with fail
              go_step3
              exact ⟨n - 1, by omega, j2, ov1, ob ++ [by_], textF_mk _ rfl, by have := HJ2.out; omega, hl2, by rw [HSV.out]; exact hfin.out.1, hfin.out.2, OwnB.snoc (by rw [HBV.out]; simpa using HO1.out), by have := HJ2.out; simp; omega, by have := HJ2.out; omega, .inl ⟨rfl, by have := HJ2.out; rw [HT2.out, show j2 + 1 = q + 1 + 3 from by omega, show q + 1 + 3 - p = q - p + 4 from by omega]⟩⟩
          · have hjl : ((j2 : Int) == (s.length : Int)) = true := by rw [beq_iff_eq]; omega
            go_quiet (fail)
            go_wp2_with fail
            go_ret
            rw [show T = (false, [], q - p + 3) from by rw [HT.out, esc_x2 hl HH.out (by have := HJ1.out; omega) (by have h := HH1.out; have h2 := HHV1.out; have h3 := HN1.out; have h4 := HJ1.out; subst h4; rw [h]; omega) (by have := HJ2.out; omega)]]
            refine ⟨rfl, hF2s.out.drewN _, t.s, ?_, fun h => by cases h⟩
            rw [show p + (q - p + 3) = j2 from by have := HJ2.out; omega]
            exact hC2s.out.drewN _
      · have hjl : ((j1 : Int) == (s.length : Int)) = true := by rw [beq_iff_eq]; omega
        go_quiet (fail)
        go_wp2_with fail
        go_ret
        rw [show T = (false, [], q - p + 2) from by rw [HT.out, esc_x0 hl HH.out (by have := HJ1.out; omega)]]
        refine ⟨rfl, hF1s.out.drewN _, t.s, ?_, fun h => by cases h⟩
        rw [show p + (q - p + 2) = j1 from by have := HJ1.out; omega]
        exact hC1s.out.drewN _
    have hT : T = (false, [], q - p + 1) := by
      rw [HT.out, esc_bad hl (by rw [HH.out]; exact h_n) (by rw [HH.out]; exact h_t) (by rw [HH.out]; exact h_q) (by rw [HH.out]; exact h_b) (by rw [HH.out]; exact h_x)]
    subst hT
    have e1 : ((ch.toNat : Int) == 110) = false := byte_beq_ne (y := 110) h_n
    have e2 : ((ch.toNat : Int) == 116) = false := byte_beq_ne (y := 116) h_t
    have e3 : ((ch.toNat : Int) == 34) = false := byte_beq_ne (y := 34) h_q
    have e4 : ((ch.toNat : Int) == 92) = false := byte_beq_ne (y := 92) h_b
    have e5 : ((ch.toNat : Int) == 120) = false := byte_beq_ne (y := 120) h_x
    clear h_n h_t h_q h_b h_x HT HH
    generalize ch.toNat = cn at *
    go_wp2_with fail
    go_quiet (fail)
    go_wp2_with fail
    go_quiet (fail)
    go_wp2_with fail
    go_ret
    refine ⟨rfl, HF.out.drewN _, t.s, ?_, fun h => by cases h⟩
    rw [show p + (q - p + 1) = q + 1 from by omega]
    exact HC.out.drewN _
  · obtain ⟨aa, cap, hsv⟩ := hct.cur.slice
    have c0 := hct.cur.c0
    have hq2 : ((q : Int) + 1 == (s.length : Int)) = true := by rw [beq_iff_eq]; omega
    rw [hsv] at c0
    have hT : T = (false, [], q - p + 1) := by rw [HT.out, esc_end hl]
    subst hT
    clear hsv hct hct1 hfr hown h0
    go_wp2_with fail
    go_quiet (fail)
    go_wp2_with fail
    go_ret
    refine ⟨rfl, HF.out.drewN _, t.s, ?_, fun h => by cases h⟩
    rw [show p + (q - p + 1) = q + 1 from by omega]
    exact HC.out.drewN _
end
end Go.Proofs.YtkaeceedofmhbaaGreatDoor
namespace Go.Proofs.YtkaeceedofmhbaaGreatDoor
open Go.RowKit Bk

section
variable {X : Nat → Prop} {c : Nat} {sv : Value} {s : Bytes} {p b : Nat} {t : Tok}

set_option maxRecDepth 100000 in
set_option maxHeartbeats 8000000 in
theorem text_c (w : World) (h : CT X w c sv s p b t) (hl : p < s.length) :
    Calls Tryz.prog 61 #[.pointer (some ⟨c, 0, none⟩), .pointer (some ⟨b, 0, none⟩)] w (TextPost X c sv s p b t w (text [] 1 (s.drop (p + 1)))) := by
  have HC := Lib.hid h
  obtain ⟨T, hT⟩ : ∃ T, T = text [] 1 (s.drop (p + 1)) := ⟨_, rfl⟩
  rw [← hT]
  have HT := Lib.hid hT
  clear hT h
  have fin : Hid (∀ (n : Nat), (∀ (m l : Nat) (a : Act) (w' : World), m < n → textJ X c sv s p b t w T l m a w' → Goes Tryz.prog textBody (textJ X c sv s p b t w T) (bodyPost Tryz.prog Tryz.f61 (TextPost X c sv s p b t w T)) n l a w') →
      ∀ (l : Nat) (a : Act) (w' : World), textJ X c sv s p b t w T l n a w' → Goes Tryz.prog textBody (textJ X c sv s p b t w T) (bodyPost Tryz.prog Tryz.f61 (TextPost X c sv s p b t w T)) n l a w') := fun n _ l a w' hJ => by
    have hl : l = 0 ∨ l = 1 := by
      obtain ⟨_, _, _, _, _, _, _, _, _, _, _, h⟩ := hJ
      rcases h with ⟨h, _⟩ | ⟨h, _⟩
      · exact .inl h
      · exact .inr h
    rcases hl with rfl | rfl
    · exact text_plain n a w' HC.out hJ
    · exact text_esc n a w' HC.out hJ
  go_enter Tryz.func61, Tryz.ntmps61
  go_wp2_with fail
  refine wp_scope_labels (textJ X c sv s p b t w T) (s.length + 5) fin.out (fun hgo => ?_)
  have HG := Lib.hid hgo
  clear hgo
  go_wp2_with fail
  go_step3
  go_step
  go_step
  refine Goes.use (HG.out (s.length + 1) 0 _ _ (by omega) ?_) rfl
  exact ⟨p, .slice none 0 0, [], textF_mk _ rfl, Nat.le_refl _, hl, HC.out, Fr.refl X w, ⟨rfl, .inl ⟨rfl, rfl⟩⟩, by simp, by omega, .inl ⟨rfl, by rw [show p + 1 - p = 1 from by omega]; exact HT.out⟩⟩
end
end Go.Proofs.YtkaeceedofmhbaaGreatDoor
