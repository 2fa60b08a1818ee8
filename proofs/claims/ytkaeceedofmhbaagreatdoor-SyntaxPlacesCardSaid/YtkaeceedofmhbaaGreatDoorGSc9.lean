/-
  scan: integer, its hex digits; the whole.
-/
import Derived.Test.YtkaeceedofmhbaaGreatDoorGSc8
import Derived.Deep.RegionHeld3
namespace Go.Proofs.YtkaeceedofmhbaaGreatDoor
open Go.RowKit Bk

section
variable {X : Nat → Prop} {c : Nat} {sv : Value} {s : Bytes} {p b : Nat} {t : Tok} {w0 : World} {T : Bool × Nat × Nat}

theorem hex_ct {w : World} {q : Nat} (ch : UInt8) (h : CT X w c sv s q b t) :
    Calls Tryz.prog 89 #[.int .u8 (ch.toNat : Int)] w fun e w' => e = .returned (.int .u64 (hexv ch : Int)) ∧ Below w.heap.size w w' := hex_c ch w h.cur.glob h.low

/-- What is held while a hex digit is reckoned. -/
def Held (X : Nat → Prop) (c : Nat) (s : Bytes) (q b : Nat) (t : Tok) (w0 : World) (bb off cap : Nat) (w : World) : Prop :=
  CT X w c (.slice (some ⟨bb, off, none⟩) s.length cap) s q b t ∧ Fr X w0 w ∧ X bb

theorem Held.c0 {bb off cap q : Nat} {w : World} (h : Held X c s q b t w0 bb off cap w) : w.cell? ⟨c, 0, none⟩ = some (.slice (some ⟨bb, off, none⟩) s.length cap) := h.1.cur.c0
theorem Held.c1 {bb off cap q : Nat} {w : World} (h : Held X c s q b t w0 bb off cap w) : w.cell? ⟨c, 1, none⟩ = some (.int .i64 q) := h.1.cur.c1
theorem Held.cb {bb off cap q : Nat} {w : World} (h : Held X c s q b t w0 bb off cap w) (hl : q < s.length) : w.cell? ⟨bb, off + q, none⟩ = some (.int .u8 (s[q].toNat : Int)) := by
  obtain ⟨bb', off', cap', e, _, _, _, hbs⟩ := h.1.cur.shows hl
  cases e
  exact hbs q hl
theorem Held.below {bb off cap q : Nat} {w w' : World} (h : Held X c s q b t w0 bb off cap w) (hb : Below w.heap.size w w') : Held X c s q b t w0 bb off cap w' :=
  ⟨h.1.below hb, h.2.1.trans ⟨hb.os, hb.tape, hb.output, hb.size, fun k hk => hb.block k (h.1.cur.xlt k hk)⟩, h.2.2⟩
theorem Held.drewN {bb off cap q : Nat} {w : World} (h : Held X c s q b t w0 bb off cap w) (n : Nat) : Held X c s q b t w0 bb off cap (w.drewN n) := ⟨h.1.drewN n, h.2.1.drewN n, h.2.2⟩
theorem Held.drew {bb off cap q : Nat} {w : World} (h : Held X c s q b t w0 bb off cap w) : Held X c s q b t w0 bb off cap w.drew := h.drewN 1

theorem hex_held {bb off cap q : Nat} (ch : UInt8) (hv : Int) (hhv : hv = (hexv ch : Int)) (hl : q < s.length) (hch : s[q] = ch) (w : World) (h : Held X c s q b t w0 bb off cap w) :
    Calls Tryz.prog 89 #[.int .u8 (ch.toNat : Int)] w fun e w' => e = .returned (.int .u64 hv) ∧ w'.cell? ⟨c, 0, none⟩ = some (.slice (some ⟨bb, off, none⟩) s.length cap) ∧ w'.cell? ⟨c, 1, none⟩ = some (.int .i64 q) ∧
      w'.cell? ⟨bb, off + q, none⟩ = some (.int .u8 (ch.toNat : Int)) ∧ Held X c s q b t w0 bb off cap w' :=
  (hex_ct ch h.1).mono fun _ _ ⟨he, hb⟩ => ⟨by rw [he, hhv], (h.below hb).c0, (h.below hb).c1, by rw [(h.below hb).cb hl, hch], h.below hb⟩

set_option maxRecDepth 100000 in
set_option maxHeartbeats 4000000 in
theorem int_hex (n : Nat) (a : Act) (w : World) (hJ : intJ0 X c sv s p b t w0 T n a w)
    (ih : ∀ m l a w, m < n → intJ X c sv s p b t w0 T l m a w → Goes Tryz.prog intBody (intJ X c sv s p b t w0 T) (bodyPost Tryz.prog Tryz.f59 (IntPost X c sv s p b t w0 T)) n l a w) :
    Goes Tryz.prog intBody (intJ X c sv s p b t w0 T) (bodyPost Tryz.prog Tryz.f59 (IntPost X c sv s p b t w0 T)) n 0 a w := by
  refine ⟨_, rfl, ?_⟩
  obtain ⟨q, v, ⟨g, rfl⟩, hpq, hct, hfr, hv0, hv1, hp2, hn, hT⟩ := hJ
  unfold intJ0F
  have HC := Lib.hid hct
  have HF := Lib.hid hfr
  have HT := Lib.hid hT
  have HV := Lib.hid hv1
  have HI := Lib.hid ih
  have hlen := hct.cur.slen
  have hat := hct.cur.atl
  clear hfr hT hv1 ih
  by_cases hl : q < s.length
  · have hq0 : (0 : Int) ≤ (q : Int) := Int.natCast_nonneg _
    have hq1 : (q : Int) < (s.length : Int) := by omega
    obtain ⟨ch, hch⟩ : ∃ ch : UInt8, s[q] = ch := ⟨_, rfl⟩
    obtain ⟨bb, off, cap, hsv, hx, hc1, hc2, hbs⟩ := hct.cur.shows hl
    have c0 := hct.cur.c0
    have c1 := hct.cur.c1
    have cb := hbs q hl
    rw [hsv] at c0
    rw [hch] at cb
    have HH := Lib.hid hch
    have HSV := Lib.hid hsv
    have HXB := Lib.hid hx
    clear hbs hx hc1 hc2 hsv hct hch
    have hd : decide ((q : Int) < (s.length : Int)) = true := by simpa using hl
    by_cases hx : hexv ch < 16
    · obtain ⟨hv, hhv⟩ : ∃ hv : Int, hv = (hexv ch : Int) := ⟨_, rfl⟩
      have h16 : hv < 16 := by omega
      have h00 : 0 ≤ hv := by omega
      have HX := Lib.hid hx
      have HHV := Lib.hid hhv
      clear hx hhv
      have HL := Lib.hid (show Held X c s q b t w0 bb off cap w from ⟨by rw [← HSV.out]; exact HC.out, HF.out, HXB.out⟩)
      have HX4 := fun w => Lib.hid (hex_held (X := X) (c := c) (b := b) (t := t) (w0 := w0) (bb := bb) (off := off) (cap := cap) ch hv HHV.out hl HH.out w)
      go_wp2_with fail
      go_still_tail 21, (by kernel_rfl)
      go_wp2_with fail
      refine ((HX4 _).out HL.out.drew).mono ?_
      rintro e w1 ⟨rfl, d0, d1, db, hL1⟩
      have HL1 := Lib.hid hL1
      clear hL1 c0 c1 cb
      by_cases hov : v * 16 + hv < q64
      · have HO := Lib.hid hov
        clear hov
        obtain ⟨v', hv'⟩ : ∃ v', v' = v * 16 + hv := ⟨_, rfl⟩
        have HM : ∀ w, Hid _ := fun w => Lib.hid (more_yes v 16 hv hv0 (by decide) (by omega) HV.out (by decide) HO.out w)
        rw [← hv'] at HM
        have HV' := Lib.hid hv'
        clear hv'
        go_wp2_with fail
        go_region_held3 (fun w' => w'.cell? ⟨c, 0, none⟩ = some (.slice (some ⟨bb, off, none⟩) s.length cap) ∧ w'.cell? ⟨c, 1, none⟩ = some (.int .i64 q) ∧ w'.cell? ⟨bb, off + q, none⟩ = some (.int .u8 (ch.toNat : Int)) ∧ Hid (Held X c s q b t w0 bb off cap w'))
          (first | exact ⟨d0, d1, db, Lib.hid HL1.out.drew⟩ | exact ⟨by assumption, by assumption, by assumption, Lib.hid (by assumption)⟩ | go_keep)
          (first | (go_at_call 89; go_split_ands; go_must (refine ((HX4 _).out (Hid.out (by assumption))).mono ?_); rintro e w2 ⟨rfl, e0, e1, eb, hL2⟩) | (go_at_call 88; refine (HM _).out.mono ?_; rintro e w2 ⟨rfl, rfl⟩))
        have cf := hL2.1.cur.free 1
        have HC2 := Lib.hid hL2
        clear hL2
        go_wp2_with fail
        go_step3
        refine ⟨n - 1, by omega, .inl ⟨rfl, q + 1, v', intJ0_mk _ rfl, by omega, ?_, ?_, ?_, ?_, by omega, by omega, ?_⟩⟩
        · rw [HSV.out]; exact HC2.out.1.step (by omega)
        · exact HC2.out.2.1.setCell HC2.out.1.cur.xc _
        · rw [HV'.out]; omega
        · rw [HV'.out]; exact HO.out
        · have hvn : v.toNat * 16 + hexv ch < 18446744073709551616 := by
            have h1 := HO.out; have h2 := HHV.out; unfold q64 at h1; omega
          rw [HT.out, digits_hex hl (by rw [HH.out]; exact HX.out) (by rw [HH.out]; exact hvn), HH.out]
          have e1 : v'.toNat = v.toNat * 16 + hexv ch := by have h2 := HHV.out; rw [HV'.out]; omega
          have e2 : q + 1 - p = q - p + 1 := by omega
          rw [e1, e2]
      · have HO := Lib.hid hov
        clear hov
        obtain ⟨v', HM⟩ := more_no v 16 hv hv0 (by decide) (by omega) HV.out (by decide) (by unfold q64; omega) HO.out
        have HM := Lib.hid HM
        have hT : T = (false, 0, q - p) := by
          have hvn : ¬ v.toNat * 16 + hexv ch < 18446744073709551616 := by
            have h1 := HO.out; have h2 := HHV.out; unfold q64 at h1; omega
          rw [HT.out, digits_hover hl (by rw [HH.out]; exact HX.out) (by rw [HH.out]; exact hvn)]; rfl
        subst hT
        go_wp2_with fail
        go_region_held3 (fun w' => w'.cell? ⟨c, 0, none⟩ = some (.slice (some ⟨bb, off, none⟩) s.length cap) ∧ w'.cell? ⟨c, 1, none⟩ = some (.int .i64 q) ∧ w'.cell? ⟨bb, off + q, none⟩ = some (.int .u8 (ch.toNat : Int)) ∧ Hid (Held X c s q b t w0 bb off cap w'))
          (first | exact ⟨d0, d1, db, Lib.hid HL1.out.drew⟩ | exact ⟨by assumption, by assumption, by assumption, Lib.hid (by assumption)⟩ | go_keep)
          (first | (go_at_call 89; go_split_ands; refine ((HX4 _).out (Hid.out (by assumption))).mono ?_; rintro e w2 ⟨rfl, e0, e1, eb, hL2⟩) | (go_at_call 88; refine (HM.out _).mono ?_; rintro e w2 ⟨rfl, rfl⟩))
        have HC2 := Lib.hid hL2
        clear hL2
        go_wp2_with fail
        go_ret
        exact ⟨rfl, HC2.out.2.1, t.n, by rw [show p + (q - p) = q from by omega, HSV.out]; exact HC2.out.1, by simp⟩
    · have h16 : hexv ch = 16 := by have := hexv_le ch; omega
      have HL := Lib.hid (show Held X c s q b t w0 bb off cap w from ⟨by rw [← HSV.out]; exact HC.out, HF.out, HXB.out⟩)
      have HX4 := fun w => Lib.hid (hex_held (X := X) (c := c) (b := b) (t := t) (w0 := w0) (bb := bb) (off := off) (cap := cap) ch 16 (by rw [h16]; rfl) hl HH.out w)
      have hT : T = hexEnd (true, v.toNat, q - p, s.drop q) := by rw [HT.out, digits_hstop hl (by rw [HH.out]; exact hx)]
      have HT2 := Lib.hid hT
      clear hT hx h16
      by_cases hqp : q = p + 2
      · have eb : ((q : Int) == (p : Int) + 2) = true := by rw [beq_iff_eq]; omega
        have hT : T = (false, 0, 2) := by rw [HT2.out, hqp]; simp [hexEnd]
        subst hT
        have HQ := Lib.hid hqp
        clear hqp
        go_wp2_with fail
        go_still_tail 21, (by kernel_rfl)
        go_wp2_with fail
        refine ((HX4 _).out HL.out.drew).mono ?_
        rintro e w1 ⟨rfl, d0, d1, db, hL1⟩
        have HL1 := Lib.hid hL1
        clear hL1 c0 c1 cb
        go_wp2_with fail
        go_ret
        exact ⟨rfl, HL1.out.2.1, t.n, by rw [show p + 2 = q from HQ.out.symm, HSV.out]; exact HL1.out.1, by simp⟩
      · have eb : ((q : Int) == (p : Int) + 2) = false := by rw [beq_eq_false_iff_ne]; omega
        have hT : T = intEnd v.toNat (q - p) (s.drop q) := by rw [HT2.out]; simp only [hexEnd, if_true]; rw [if_neg (by omega)]
        have HT3 := Lib.hid hT
        clear hT hqp
        go_wp2_with fail
        go_still_tail 21, (by kernel_rfl)
        go_wp2_with fail
        refine ((HX4 _).out HL.out.drew).mono ?_
        rintro e w1 ⟨rfl, d0, d1, db, hL1⟩
        have HL1 := Lib.hid hL1
        clear hL1 c0 c1 cb
        go_wp2_with fail
        go_step3
        go_step
        go_step
        refine Goes.use (HI.out 0 2 _ _ (by omega) ?_) rfl
        exact (.inr (.inr ⟨rfl, q, v, intJ2_mk _ rfl, hpq, by rw [HSV.out]; exact HL1.out.1, HL1.out.2.1, hv0, HV.out, Nat.zero_le _, HT3.out⟩))
  · obtain ⟨aa, cap, hsv⟩ := hct.cur.slice
    have c0 := hct.cur.c0
    have c1 := hct.cur.c1
    rw [hsv] at c0
    have hd : decide ((q : Int) < (s.length : Int)) = false := by simpa using hl
    have hT : T = hexEnd (true, v.toNat, q - p, s.drop q) := by rw [HT.out, digits_hend hl]
    have HT2 := Lib.hid hT
    clear hT hct hsv
    by_cases hqp : q = p + 2
    · have eb : ((q : Int) == (p : Int) + 2) = true := by rw [beq_iff_eq]; omega
      have hT : T = (false, 0, 2) := by rw [HT2.out, hqp]; simp [hexEnd]
      subst hT
      have HQ := Lib.hid hqp
      clear hqp
      go_wp2_with fail
      go_quiet (fail)
      go_wp2_with fail
      go_ret
      exact ⟨rfl, by exact HF.out.drewN nq, t.n, by rw [show p + 2 = q from HQ.out.symm]; exact HC.out.drewN nq, by simp⟩
    · have eb : ((q : Int) == (p : Int) + 2) = false := by rw [beq_eq_false_iff_ne]; omega
      have hT : T = intEnd v.toNat (q - p) (s.drop q) := by rw [HT2.out]; simp only [hexEnd, if_true]; rw [if_neg (by omega)]
      have HT3 := Lib.hid hT
      clear hT hqp
      go_wp2_with fail
      go_quiet (fail)
      go_wp2_with fail
      go_step3
      go_step
      go_step
      refine Goes.use (HI.out 0 2 _ _ (by omega) ?_) rfl
      exact (.inr (.inr ⟨rfl, q, v, intJ2_mk _ rfl, hpq, by exact HC.out.drewN nq, by exact HF.out.drewN nq, hv0, HV.out, Nat.zero_le _, HT3.out⟩))
end
end Go.Proofs.YtkaeceedofmhbaaGreatDoor
