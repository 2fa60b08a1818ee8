/-
  scan: integer, from its suffix on.
-/
import Derived.Test.YtkaeceedofmhbaaGreatDoorGSc7
namespace Go.Proofs.YtkaeceedofmhbaaGreatDoor
open Go.RowKit Bk

section
variable {X : Nat → Prop} {c : Nat} {sv : Value} {s : Bytes} {p b : Nat} {t : Tok} {w0 : World} {T : Bool × Nat × Nat}

theorem CT.setN {w : World} {q : Nat} (h : CT X w c sv s q b t) (v : Int) : CT X (w.setCell ⟨b, 1, none⟩ (.int .u64 v)) c sv s q b { t with n := v } := h.put 1 _ rfl

set_option maxRecDepth 100000 in
set_option maxHeartbeats 4000000 in
theorem int_suf (n : Nat) (a : Act) (w : World) (hJ : intJ2 X c sv s p b t w0 T n a w) :
    Goes Tryz.prog intBody (intJ X c sv s p b t w0 T) (bodyPost Tryz.prog Tryz.f59 (IntPost X c sv s p b t w0 T)) n 2 a w := by
  refine ⟨_, rfl, ?_⟩
  obtain ⟨q, v, ⟨g, rfl⟩, hpq, hct, hfr, hv0, hv1, hn, hT⟩ := hJ
  unfold intJ2F
  have HC := Lib.hid hct
  have HF := Lib.hid hfr
  have HT := Lib.hid hT
  have HV := Lib.hid hv1
  have hlen := hct.cur.slen
  have hat := hct.cur.atl
  have hne : ¬ c = b := hct.ne
  have hne' : ¬ b = c := fun e => hct.ne e.symm
  clear hct hfr hT hv1
  by_cases hd : isCls 4 (s.drop q) = true
  · have hl : q < s.length := by
      refine Decidable.byContradiction fun h => ?_
      rw [isCls_end h] at hd; cases hd
    have h4 : cls s[q] = 4 := by rw [isCls_at hl] at hd; simpa using hd
    have hq0 : (0 : Int) ≤ (q : Int) := Int.natCast_nonneg _
    have hq1 : (q : Int) < (s.length : Int) := by omega
    obtain ⟨ch, hch⟩ : ∃ ch : UInt8, s[q] = ch := ⟨_, rfl⟩
    have HH := Lib.hid hch
    have H4 := Lib.hid h4
    clear h4 hch
    go_wp2_with fail
    refine (is_ct 4 HC.out HF.out).mono ?_
    rintro e w1 ⟨rfl, hct1, hfr1⟩
    rw [hd]
    obtain ⟨bb, off, cap, hsv, hx, hc1, hc2, hbs⟩ := hct1.cur.shows hl
    have c0 := hct1.cur.c0
    have c1 := hct1.cur.c1
    have cf := hct1.cur.free 1
    have cn : w1.cell? ⟨b, 1, none⟩ = some (.int .u64 t.n) := hct1.cell 1
    have fn := hct1.tfree 1
    have cb := hbs q hl
    rw [hsv] at c0
    rw [HH.out] at cb
    have HC1 := Lib.hid hct1
    have HF1 := Lib.hid hfr1
    clear hbs hx hc1 hc2 hsv hct1 hfr1 hd
    by_cases hM : ch = 77
    · subst hM
      by_cases hov : v * 1048576 + 0 < q64
      · have HO := Lib.hid hov
        clear hov
        obtain ⟨v', hv'⟩ : ∃ v', v' = v * 1048576 + 0 := ⟨_, rfl⟩
        have HM : ∀ w, Hid _ := fun w => Lib.hid (more_yes v 1048576 0 hv0 (by decide) (by decide) HV.out (by decide) HO.out w)
        rw [← hv'] at HM
        have HV' := Lib.hid hv'
        clear hv'
        obtain ⟨b4, hb4⟩ : ∃ b4, isCls 4 (s.drop (q + 1)) = b4 := ⟨_, rfl⟩
        obtain ⟨b3, hb3⟩ : ∃ b3, isCls 3 (s.drop (q + 1)) = b3 := ⟨_, rfl⟩
        have hT : T = (!b4 && !b3, v.toNat * 1048576, q - p + 1) := by
          have hvn : v.toNat * 1048576 < 18446744073709551616 := by
            have := HO.out; unfold q64 at this; omega
          rw [HT.out, intEnd_m hl HH.out hvn, hb4, hb3]
        subst hT
        have e5 : v' = ((v.toNat * 1048576 : Nat) : Int) := by rw [HV'.out]; omega
        have H5 := Lib.hid e5
        clear e5
        go_wp2_with fail
        go_quiet (fail)
        go_wp2_with fail
        refine (HM _).out.mono ?_
        rintro e w2 ⟨rfl, rfl⟩
        go_wp2_with fail
        have hC2 : CT X (((w1.drewN nq).setCell ⟨c, 1, none⟩ (.int .i64 ((q : Int) + 1))).setCell ⟨b, 1, none⟩ (.int .u64 v')) c sv s (q + 1) b { t with n := v' } := ((HC1.out.drewN nq).step (by omega)).setN v'
        have hF2 : Fr X w0 (((w1.drewN nq).setCell ⟨c, 1, none⟩ (.int .i64 ((q : Int) + 1))).setCell ⟨b, 1, none⟩ (.int .u64 v')) := ((HF1.out.drewN nq).setCell HC1.out.cur.xc _).setCell HC1.out.xb _
        refine (is_ct 4 hC2 hF2).mono ?_
        rintro e w3 ⟨rfl, hct3, hfr3⟩
        rw [hb4]
        have HC3 := Lib.hid hct3
        have HF3 := Lib.hid hfr3
        clear hct3 hfr3 hC2 hF2
        cases b4 with
        | true =>
          go_wp2_with fail
          go_ret
          exact ⟨rfl, HF3.out, v', by rw [show p + (q - p + 1) = q + 1 from by omega]; exact HC3.out, fun h => by cases h⟩
        | false =>
          go_wp2_with fail
          refine (is_ct 3 HC3.out HF3.out).mono ?_
          rintro e w4 ⟨rfl, hct4, hfr4⟩
          rw [hb3]
          have HC4 := Lib.hid hct4
          have HF4 := Lib.hid hfr4
          clear hct4 hfr4
          go_wp2_with fail
          go_ret
          exact ⟨by simp, HF4.out, v', by rw [show p + (q - p + 1) = q + 1 from by omega]; exact HC4.out, fun _ => H5.out⟩
      · have HO := Lib.hid hov
        clear hov
        obtain ⟨v', HM⟩ := more_no v 1048576 0 hv0 (by decide) (by decide) HV.out (by decide) (by decide) HO.out
        have HM := Lib.hid HM
        have hT : T = (false, 0, q - p) := by
          have hvn : ¬ v.toNat * 1048576 < 18446744073709551616 := by
            have := HO.out; unfold q64 at this; omega
          rw [HT.out, intEnd_mover hl HH.out hvn]
        subst hT
        go_wp2_with fail
        go_quiet (fail)
        go_wp2_with fail
        refine (HM.out _).mono ?_
        rintro e w2 ⟨rfl, rfl⟩
        go_wp2_with fail
        go_ret
        exact ⟨rfl, by exact HF1.out.drewN nq, t.n, by rw [show p + (q - p) = q from by omega]; exact HC1.out.drewN nq, by simp⟩
    · by_cases hK : ch = 75
      · subst hK
        by_cases hov : v * 1024 + 0 < q64
        · have HO := Lib.hid hov
          clear hov
          obtain ⟨v', hv'⟩ : ∃ v', v' = v * 1024 + 0 := ⟨_, rfl⟩
          have HM : ∀ w, Hid _ := fun w => Lib.hid (more_yes v 1024 0 hv0 (by decide) (by decide) HV.out (by decide) HO.out w)
          rw [← hv'] at HM
          have HV' := Lib.hid hv'
          clear hv'
          obtain ⟨b4, hb4⟩ : ∃ b4, isCls 4 (s.drop (q + 1)) = b4 := ⟨_, rfl⟩
          obtain ⟨b3, hb3⟩ : ∃ b3, isCls 3 (s.drop (q + 1)) = b3 := ⟨_, rfl⟩
          have hT : T = (!b4 && !b3, v.toNat * 1024, q - p + 1) := by
            have hvn : v.toNat * 1024 < 18446744073709551616 := by
              have := HO.out; unfold q64 at this; omega
            rw [HT.out, intEnd_k hl HH.out hvn, hb4, hb3]
          subst hT
          have e5 : v' = ((v.toNat * 1024 : Nat) : Int) := by rw [HV'.out]; omega
          have H5 := Lib.hid e5
          clear e5
          go_wp2_with fail
          go_quiet (fail)
          go_wp2_with fail
          refine (HM _).out.mono ?_
          rintro e w2 ⟨rfl, rfl⟩
          go_wp2_with fail
          have hC2 : CT X (((w1.drewN nq).setCell ⟨c, 1, none⟩ (.int .i64 ((q : Int) + 1))).setCell ⟨b, 1, none⟩ (.int .u64 v')) c sv s (q + 1) b { t with n := v' } := ((HC1.out.drewN nq).step (by omega)).setN v'
          have hF2 : Fr X w0 (((w1.drewN nq).setCell ⟨c, 1, none⟩ (.int .i64 ((q : Int) + 1))).setCell ⟨b, 1, none⟩ (.int .u64 v')) := ((HF1.out.drewN nq).setCell HC1.out.cur.xc _).setCell HC1.out.xb _
          refine (is_ct 4 hC2 hF2).mono ?_
          rintro e w3 ⟨rfl, hct3, hfr3⟩
          rw [hb4]
          have HC3 := Lib.hid hct3
          have HF3 := Lib.hid hfr3
          clear hct3 hfr3 hC2 hF2
          cases b4 with
          | true =>
            go_wp2_with fail
            go_ret
            exact ⟨rfl, HF3.out, v', by rw [show p + (q - p + 1) = q + 1 from by omega]; exact HC3.out, fun h => by cases h⟩
          | false =>
            go_wp2_with fail
            refine (is_ct 3 HC3.out HF3.out).mono ?_
            rintro e w4 ⟨rfl, hct4, hfr4⟩
            rw [hb3]
            have HC4 := Lib.hid hct4
            have HF4 := Lib.hid hfr4
            clear hct4 hfr4
            go_wp2_with fail
            go_ret
            exact ⟨by simp, HF4.out, v', by rw [show p + (q - p + 1) = q + 1 from by omega]; exact HC4.out, fun _ => H5.out⟩
        · have HO := Lib.hid hov
          clear hov
          obtain ⟨v', HM⟩ := more_no v 1024 0 hv0 (by decide) (by decide) HV.out (by decide) (by decide) HO.out
          have HM := Lib.hid HM
          have hT : T = (false, 0, q - p) := by
            have hvn : ¬ v.toNat * 1024 < 18446744073709551616 := by
              have := HO.out; unfold q64 at this; omega
            rw [HT.out, intEnd_kover hl HH.out hvn]
          subst hT
          go_wp2_with fail
          go_quiet (fail)
          go_wp2_with fail
          refine (HM.out _).mono ?_
          rintro e w2 ⟨rfl, rfl⟩
          go_wp2_with fail
          go_ret
          exact ⟨rfl, by exact HF1.out.drewN nq, t.n, by rw [show p + (q - p) = q from by omega]; exact HC1.out.drewN nq, by simp⟩
      · have e1 : ((ch.toNat : Int) == 77) = false := by
          rw [beq_eq_false_iff_ne]; intro e; exact hM (UInt8.toNat_inj.1 (by show ch.toNat = 77; omega))
        have e2 : ((ch.toNat : Int) == 75) = false := by
          rw [beq_eq_false_iff_ne]; intro e; exact hK (UInt8.toNat_inj.1 (by show ch.toNat = 75; omega))
        have hT : T = (false, 0, q - p) := by
          rw [HT.out, intEnd_wrong hl H4.out (by rw [HH.out]; exact hM) (by rw [HH.out]; exact hK)]
        subst hT
        go_wp2_with fail
        go_quiet (fail)
        go_wp2_with fail
        go_ret
        exact ⟨rfl, by exact HF1.out.drewN nq, t.n, by rw [show p + (q - p) = q from by omega]; exact HC1.out.drewN nq, by simp⟩
  · have hd' : isCls 4 (s.drop q) = false := by simpa using hd
    have hT : T = (!isCls 3 (s.drop q), v.toNat, q - p) := by rw [HT.out, intEnd_plain hd']
    subst hT
    clear HT hd
    obtain ⟨b3, hb3⟩ : ∃ b3, isCls 3 (s.drop q) = b3 := ⟨_, rfl⟩
    rw [hb3]
    go_wp2_with fail
    refine (is_ct 4 HC.out HF.out).mono ?_
    rintro e w1 ⟨rfl, hct1, hfr1⟩
    rw [hd']
    have cn : w1.cell? ⟨b, 1, none⟩ = some (.int .u64 t.n) := hct1.cell 1
    have fn := hct1.tfree 1
    have HC1 := Lib.hid (hct1.setN v)
    have HF1 := Lib.hid (hfr1.setCell (p := ⟨b, 1, none⟩) hct1.xb (.int .u64 v))
    clear hct1 hfr1
    go_wp2_with fail
    refine (is_ct 4 HC1.out HF1.out).mono ?_
    rintro e w2 ⟨rfl, hct2, hfr2⟩
    rw [hd']
    have HC2 := Lib.hid hct2
    have HF2 := Lib.hid hfr2
    clear hct2 hfr2
    go_wp2_with fail
    refine (is_ct 3 HC2.out HF2.out).mono ?_
    rintro e w3 ⟨rfl, hct3, hfr3⟩
    rw [hb3]
    have HC3 := Lib.hid hct3
    have HF3 := Lib.hid hfr3
    clear hct3 hfr3
    go_wp2_with fail
    go_ret
    exact ⟨rfl, HF3.out, v, by rw [show p + (q - p) = q from by omega]; exact HC3.out, fun _ => by show v = (v.toNat : Int); omega⟩
end
end Go.Proofs.YtkaeceedofmhbaaGreatDoor
