/-
  syntax: channel, fault.
  Printed by gen/it.py and a script beside it.
  syntax: use.
  Printed by gen/it.py and a script beside it.
-/
import Derived.Test.YtkaeceedofmhbaaGreatDoorGIt6
import Derived.Deep.RegionLaw
import Derived.Deep.DeepCutAuto
namespace Go.Proofs.YtkaeceedofmhbaaGreatDoor
open Go.RowKit Bk
attribute [local go_sem ↓] Go.wp_at_zero Go.wp_at_succ

set_option linter.unusedSimpArgs false
section
variable {X : Nat → Prop} {H : Frozen} {w : World} {r : Nat} {sv : Value} {src : Bytes} {st : St} {b : Nat} {x : ItemV}

set_option maxRecDepth 100000 in
set_option maxHeartbeats 4000000 in
theorem channel_c (n : Nat) (h : ItOK X H w r sv src st b x) (hf : channel src n x st ≠ .bad .fuel) :
    Calls Tryz.prog 116 #[.pointer (some ⟨r, 0, none⟩), .pointer (some ⟨b, 0, none⟩)] w (Post X w (channel src n x st) (GoodI iU X H r sv src b)) := by
  obtain ⟨T, hT⟩ : ∃ T, T = channel src n x st := ⟨_, rfl⟩
  rw [← hT]
  have FU := Lib.hid (show T ≠ .bad .fuel by rw [hT]; exact hf)
  have EQ0 := Lib.hid hT
  have NX := Lib.hid next_c
  have FL := Lib.hid fail_c
  obtain ⟨s0, h0⟩ := h
  have IP0 := Lib.hid h0
  obtain ⟨w0, hw0⟩ : ∃ w0, w0 = w := ⟨_, rfl⟩
  obtain ⟨x0, hx0⟩ : ∃ x0, x0 = x := ⟨_, rfl⟩
  obtain ⟨st0, hst0⟩ : ∃ st0, st0 = st := ⟨_, rfl⟩
  obtain ⟨H0, hH0⟩ : ∃ H0, H0 = H := ⟨_, rfl⟩
  rw [← hx0, ← hw0, ← hst0, ← hH0] at IP0
  have FR0 := Lib.hid (show Fr X w w0 by rw [hw0]; exact Fr.refl X w)
  have LE0 := Lib.hid (show Le H H0 by rw [hH0]; exact Le.refl H)
  rw [← hst0, ← hx0] at EQ0
  rw [show Calls Tryz.prog 116 #[.pointer (some ⟨r, 0, none⟩), .pointer (some ⟨b, 0, none⟩)] w = Calls Tryz.prog 116 #[.pointer (some ⟨r, 0, none⟩), .pointer (some ⟨b, 0, none⟩)] w0 by rw [hw0]]
  clear hf hT h0 hw0 hx0 hst0 hH0
  go_enter Tryz.func116, Tryz.ntmps116
  go_wp2_with fail
  refine (ends_c n ⟨_, IP0.out⟩ (fun e => FU.out (EQ0.out.trans (bind_bad e)))).mono ?_
  intro e w1 hp
  rcases hp.elimI with ⟨a1, st1, v1, H1, x1, hr, rfl, le, ⟨s1, hI⟩, hv, hfr⟩ | ⟨p, why, hr, rfl, hfr⟩
  rotate_left
  · have EQp := Lib.hid (EQ0.out.trans (bind_bad hr))
    have FRp := Lib.hid (FR0.out.trans hfr)
    clear hfr hr hp
    go_wp2_with fail
    exact ⟨rfl, Post.stop EQp.out FRp.out⟩
  obtain ⟨hv1, hv2⟩ := hv
  obtain rfl : a1 = x1 := hv1
  obtain rfl : v1 = .tuple #[] := hv2
  have IP1 := Lib.hid (hI)
  have FR1 := Lib.hid (FR0.out.trans hfr)
  have LE1 := Lib.hid (LE0.out.trans le)
  have EQ1 := Lib.hid (EQ0.out.trans (bind_ok hr))
  clear hI hfr le hr hp
  go_wp2_with fail
  refine (flag_c 62 2048 ⟨_, IP1.out⟩ (by omega) (fun e => FU.out (EQ1.out.trans (bind_bad e)))).mono ?_
  intro e w2 hp
  rcases hp.elimI with ⟨a2, st2, v2, H2, x2, hr, rfl, le, ⟨s2, hI⟩, hv, hfr⟩ | ⟨p, why, hr, rfl, hfr⟩
  rotate_left
  · have EQp := Lib.hid (EQ1.out.trans (bind_bad hr))
    have FRp := Lib.hid (FR1.out.trans hfr)
    clear hfr hr hp
    go_wp2_with fail
    exact ⟨rfl, Post.stop EQp.out FRp.out⟩
  obtain ⟨hv1, hv2⟩ := hv
  obtain ⟨f2, y2⟩ := a2
  obtain rfl : y2 = x2 := hv1
  obtain rfl : v2 = .bool f2 := hv2
  have IP2 := Lib.hid (hI)
  have FR2 := Lib.hid (FR1.out.trans hfr)
  have LE2 := Lib.hid (LE1.out.trans le)
  have EQ2 := Lib.hid (EQ1.out.trans (bind_ok hr))
  clear hI hfr le hr hp
  go_upto_if 9 with (fail)
  obtain ⟨F2, hF, hE⟩ := ite_name EQ2.out
  have EQ2 := Lib.hid hE
  have HF2 := Lib.hid hF
  clear hE hF
  go_cut [] (fun wx => ∃ Hj xj stj, ItOK X Hj wx r sv src stj b xj ∧ Fr X w wx ∧ Le H Hj ∧ T = F2 xj stj)
  case first =>
    cases f2 with
    | false =>
      go_wp2_with fail
      go_meet
      exact ⟨H2, y2, _, ⟨_, IP2.out⟩, FR2.out, LE2.out, EQ2.out.trans (bind_ok rfl)⟩
    | true =>
      go_wp2_with fail
      have hE := EQ2.out
      simp only [if_true, if_false, Bool.false_eq_true] at hE
      have EQ2 := Lib.hid hE
      clear hE
      have EQ2 := Lib.hid (EQ2.out.trans (bind_flat _ _ _ _))
      refine (ref_c n IP2.out.rd (fun e => FU.out (EQ2.out.trans (bind_bad e)))).mono ?_
      intro e w3 hp
      rcases hp.elimG with ⟨a3, st3, v3, H3, hr, rfl, le, hR, hv, hfr⟩ | ⟨p, why, hr, rfl, hfr⟩
      rotate_left
      · have EQp := Lib.hid (EQ2.out.trans (bind_bad hr))
        have FRp := Lib.hid (FR2.out.trans hfr.unloc)
        clear hfr hr hp
        go_wp2_with fail
        exact ⟨rfl, Post.stop EQp.out FRp.out⟩
      obtain ⟨i3, rfl, hi3⟩ := hv
      have IP3 := Lib.hid (IP2.out.call hR le hfr)
      have FR3 := Lib.hid (FR2.out.trans hfr.unloc)
      have LE3 := Lib.hid (LE2.out.trans le)
      have EQ3 := Lib.hid (EQ2.out.trans (bind_ok hr))
      clear hR hfr le hr hp
      obtain ⟨ia3, il3, ic3, hsl⟩ := FInts.slice hi3
      subst hsl
      have g0 : w3.cell? ⟨b, 11, none⟩ = some (str y2.over.word) := cell_of_blk IP3.out.blk 11
      have g1 : w3.cell? ⟨b, 12, none⟩ = some (.int .i64 y2.over.at_) := cell_of_blk IP3.out.blk 12
      have g2 : w3.cell? ⟨b, 13, none⟩ = some s2.ov := cell_of_blk IP3.out.blk 13
      have q0 := free_of_blk IP3.out.blk 11
      have q1 := free_of_blk IP3.out.blk 12
      have q2 := free_of_blk IP3.out.blk 13
      obtain ⟨hI, hfr⟩ := IP3.out.put_over hi3
      have IP4 := Lib.hid hI
      have FR4 := Lib.hid (FR3.out.trans hfr)
      have LE4 := Lib.hid LE3.out
      have EQ4 := Lib.hid EQ3.out
      obtain ⟨w4, hw⟩ : ∃ w4, w4 = ((w3.setCell ⟨b, 11, none⟩ (.string ⟨a3.word.toArray⟩)).setCell ⟨b, 12, none⟩ (.int .i64 a3.at_)).setCell ⟨b, 13, none⟩ (.slice ia3 il3 ic3) := ⟨_, rfl⟩
      have hw' : w4 = ((w3.setCell ⟨b, 11, none⟩ (str a3.word)).setCell ⟨b, 12, none⟩ (.int .i64 a3.at_)).setCell ⟨b, 13, none⟩ (.slice ia3 il3 ic3) := hw
      rw [← hw'] at IP4 FR4
      clear hw'
      obtain ⟨x4, hx4⟩ : ∃ x4, x4 = { y2 with over := a3 } := ⟨_, rfl⟩
      rw [← hx4] at IP4
      obtain ⟨s4, hs⟩ : ∃ s4, s4 = { s2 with ov := (.slice ia3 il3 ic3) } := ⟨_, rfl⟩
      rw [← hs] at IP4
      have HX4 := Lib.hid hx4
      clear hI hfr hs hx4
      go_wp2_with fail
      rw [← hw]
      clear hw g0 g1 g2 q0 q1 q2
      have hE := EQ4.out
      try dsimp only at hE
      rw [← HX4.out] at hE
      have EQ4 := Lib.hid hE
      clear hE
      go_meet
      exact ⟨H3, x4, _, ⟨_, IP4.out⟩, FR4.out, LE4.out, EQ4.out.trans (bind_ok rfl)⟩
  case rest =>
    obtain ⟨H5, x5, st5, ⟨s5, hI⟩, hfr, hle, hE⟩ := hcut
    obtain ⟨w5, hw⟩ : ∃ w5, w5 = wc := ⟨_, rfl⟩
    rw [← hw] at hI hfr ⊢
    rw [HF2.out] at hE
    have IP5 := Lib.hid hI
    have FR5 := Lib.hid hfr
    have LE5 := Lib.hid hle
    have EQ5 := Lib.hid hE
    clear hI hfr hle hE hw
    go_wp2_with fail
    refine (see_g 58 IP5.out.rd (fun e => FU.out (EQ5.out.trans (bind_bad e)))).mono ?_
    intro e w6 hp
    rcases hp.elimG with ⟨a6, st6, v6, H6, hr, rfl, le, hR, hv, hfr⟩ | ⟨p, why, hr, rfl, hfr⟩
    rotate_left
    · have EQp := Lib.hid (EQ5.out.trans (bind_bad hr))
      have FRp := Lib.hid (FR5.out.trans hfr.unloc)
      clear hfr hr hp
      go_wp2_with fail
      exact ⟨rfl, Post.stop EQp.out FRp.out⟩
    obtain rfl : v6 = .bool a6 := hv
    have IP6 := Lib.hid (IP5.out.call hR le hfr)
    have FR6 := Lib.hid (FR5.out.trans hfr.unloc)
    have LE6 := Lib.hid (LE5.out.trans le)
    have EQ6 := Lib.hid (EQ5.out.trans (bind_ok hr))
    clear hR hfr le hr hp
    cases a6 with
    | true =>
      have hE := EQ6.out
      simp only [if_true, if_false, Bool.false_eq_true] at hE
      have EQ6 := Lib.hid hE
      clear hE
      have g0 : w6.cell? ⟨b, 17, none⟩ = some (.int .i64 x5.how) := cell_of_blk IP6.out.blk 17
      have q0 := free_of_blk IP6.out.blk 17
      obtain ⟨hI, hfr⟩ := IP6.out.put_how 1
      have IP7 := Lib.hid hI
      have FR7 := Lib.hid (FR6.out.trans hfr)
      have LE7 := Lib.hid LE6.out
      have EQ7 := Lib.hid EQ6.out
      obtain ⟨w7, hw⟩ : ∃ w7, w7 = w6.setCell ⟨b, 17, none⟩ (.int .i64 1) := ⟨_, rfl⟩
      rw [← hw] at IP7 FR7
      obtain ⟨x7, hx7⟩ : ∃ x7, x7 = { x5 with how := 1 } := ⟨_, rfl⟩
      rw [← hx7] at IP7
      have HX7 := Lib.hid hx7
      clear hI hfr hx7
      go_wp2_with fail
      rw [← hw]
      clear hw g0 q0
      have hE := EQ7.out
      try dsimp only at hE
      rw [← HX7.out] at hE
      have EQ7 := Lib.hid hE
      clear hE
      refine (number_c n 58 ⟨_, IP7.out⟩ (fun e => FU.out (EQ7.out.trans (bind_bad e)))).mono ?_
      intro e w8 hp
      rcases hp.elimI with ⟨a8, st8, v8, H8, x8, hr, rfl, le, ⟨s8, hI⟩, hv, hfr⟩ | ⟨p, why, hr, rfl, hfr⟩
      rotate_left
      · have EQp := Lib.hid (EQ7.out.trans (bind_bad hr))
        have FRp := Lib.hid (FR7.out.trans hfr)
        clear hfr hr hp
        go_wp2_with fail
        exact ⟨rfl, Post.stop EQp.out FRp.out⟩
      obtain ⟨hv1, hv2⟩ := hv
      obtain rfl : a8 = x8 := hv1
      obtain rfl : v8 = .tuple #[] := hv2
      have IP8 := Lib.hid (hI)
      have FR8 := Lib.hid (FR7.out.trans hfr)
      have LE8 := Lib.hid (LE7.out.trans le)
      have EQ8 := Lib.hid (EQ7.out.trans (bind_ok hr))
      clear hI hfr le hr hp
      go_wp2_with fail
      refine (must_c NX FL 10 IP8.out.rd (fun e => FU.out (EQ8.out.trans (bind_bad e)))).mono ?_
      intro e w9 hp
      rcases hp.elimG with ⟨a9, st9, v9, H9, hr, rfl, le, hR, hv, hfr⟩ | ⟨p, why, hr, rfl, hfr⟩
      rotate_left
      · have EQp := Lib.hid (EQ8.out.trans (bind_bad hr))
        have FRp := Lib.hid (FR8.out.trans hfr.unloc)
        clear hfr hr hp
        go_wp2_with fail
        exact ⟨rfl, Post.stop EQp.out FRp.out⟩
      obtain rfl : v9 = .tuple #[] := hv
      have IP9 := Lib.hid (IP8.out.call hR le hfr)
      have FR9 := Lib.hid (FR8.out.trans hfr.unloc)
      have LE9 := Lib.hid (LE8.out.trans le)
      have EQ9 := Lib.hid (EQ8.out.trans (bind_ok hr))
      clear hR hfr le hr hp
      go_wp2_with fail
      go_end0
      exact Post.ok (EQ9.out.trans rfl) ⟨H9, a8, LE9.out, ⟨_, IP9.out⟩, by first | rfl | simp only [HX7.out], rfl⟩ FR9.out
    | false =>
      go_wp2_with fail
      have hE := EQ6.out
      simp only [if_true, if_false, Bool.false_eq_true] at hE
      have EQ6 := Lib.hid hE
      clear hE
      have EQ6 := Lib.hid (EQ6.out.trans (bind_flat _ _ _ _))
      refine (take_c NX 56 IP6.out.rd (fun e => FU.out (EQ6.out.trans (bind_bad e)))).mono ?_
      intro e w7 hp
      rcases hp.elimG with ⟨a7, st7, v7, H7, hr, rfl, le, hR, hv, hfr⟩ | ⟨p, why, hr, rfl, hfr⟩
      rotate_left
      · have EQp := Lib.hid (EQ6.out.trans (bind_bad hr))
        have FRp := Lib.hid (FR6.out.trans hfr.unloc)
        clear hfr hr hp
        go_wp2_with fail
        exact ⟨rfl, Post.stop EQp.out FRp.out⟩
      obtain rfl : v7 = .bool a7 := hv
      have IP7 := Lib.hid (IP6.out.call hR le hfr)
      have FR7 := Lib.hid (FR6.out.trans hfr.unloc)
      have LE7 := Lib.hid (LE6.out.trans le)
      have EQ7 := Lib.hid (EQ6.out.trans (bind_ok hr))
      clear hR hfr le hr hp
      cases a7 with
      | true =>
        have hE := EQ7.out
        simp only [if_true, if_false, Bool.false_eq_true] at hE
        have EQ7 := Lib.hid hE
        clear hE
        have g0 : w7.cell? ⟨b, 17, none⟩ = some (.int .i64 x5.how) := cell_of_blk IP7.out.blk 17
        have q0 := free_of_blk IP7.out.blk 17
        obtain ⟨hI, hfr⟩ := IP7.out.put_how 2
        have IP8 := Lib.hid hI
        have FR8 := Lib.hid (FR7.out.trans hfr)
        have LE8 := Lib.hid LE7.out
        have EQ8 := Lib.hid EQ7.out
        obtain ⟨w8, hw⟩ : ∃ w8, w8 = w7.setCell ⟨b, 17, none⟩ (.int .i64 2) := ⟨_, rfl⟩
        rw [← hw] at IP8 FR8
        obtain ⟨x8, hx8⟩ : ∃ x8, x8 = { x5 with how := 2 } := ⟨_, rfl⟩
        rw [← hx8] at IP8
        have HX8 := Lib.hid hx8
        clear hI hfr hx8
        go_wp2_with fail
        rw [← hw]
        clear hw g0 q0
        have EQ8 := Lib.hid (EQ8.out.trans (bind_ok rfl))
        have hE := EQ8.out
        try dsimp only at hE
        rw [← HX8.out] at hE
        have EQ8 := Lib.hid hE
        clear hE
        refine (must_c NX FL 10 IP8.out.rd (fun e => FU.out (EQ8.out.trans (bind_bad e)))).mono ?_
        intro e w9 hp
        rcases hp.elimG with ⟨a9, st9, v9, H9, hr, rfl, le, hR, hv, hfr⟩ | ⟨p, why, hr, rfl, hfr⟩
        rotate_left
        · have EQp := Lib.hid (EQ8.out.trans (bind_bad hr))
          have FRp := Lib.hid (FR8.out.trans hfr.unloc)
          clear hfr hr hp
          go_wp2_with fail
          exact ⟨rfl, Post.stop EQp.out FRp.out⟩
        obtain rfl : v9 = .tuple #[] := hv
        have IP9 := Lib.hid (IP8.out.call hR le hfr)
        have FR9 := Lib.hid (FR8.out.trans hfr.unloc)
        have LE9 := Lib.hid (LE8.out.trans le)
        have EQ9 := Lib.hid (EQ8.out.trans (bind_ok hr))
        clear hR hfr le hr hp
        go_wp2_with fail
        go_end0
        exact Post.ok (EQ9.out.trans rfl) ⟨H9, x8, LE9.out, ⟨_, IP9.out⟩, by first | rfl | simp only [HX8.out], rfl⟩ FR9.out
      | false =>
        go_wp2_with fail
        have hE := EQ7.out
        simp only [if_true, if_false, Bool.false_eq_true] at hE
        have EQ7 := Lib.hid hE
        clear hE
        have EQ7 := Lib.hid (EQ7.out.trans (bind_flat _ _ _ _))
        refine (take_c NX 55 IP7.out.rd (fun e => FU.out (EQ7.out.trans (bind_bad e)))).mono ?_
        intro e w8 hp
        rcases hp.elimG with ⟨a8, st8, v8, H8, hr, rfl, le, hR, hv, hfr⟩ | ⟨p, why, hr, rfl, hfr⟩
        rotate_left
        · have EQp := Lib.hid (EQ7.out.trans (bind_bad hr))
          have FRp := Lib.hid (FR7.out.trans hfr.unloc)
          clear hfr hr hp
          go_wp2_with fail
          exact ⟨rfl, Post.stop EQp.out FRp.out⟩
        obtain rfl : v8 = .bool a8 := hv
        have IP8 := Lib.hid (IP7.out.call hR le hfr)
        have FR8 := Lib.hid (FR7.out.trans hfr.unloc)
        have LE8 := Lib.hid (LE7.out.trans le)
        have EQ8 := Lib.hid (EQ7.out.trans (bind_ok hr))
        clear hR hfr le hr hp
        cases a8 with
        | true =>
          have hE := EQ8.out
          simp only [if_true, if_false, Bool.false_eq_true] at hE
          have EQ8 := Lib.hid hE
          clear hE
          have g0 : w8.cell? ⟨b, 17, none⟩ = some (.int .i64 x5.how) := cell_of_blk IP8.out.blk 17
          have q0 := free_of_blk IP8.out.blk 17
          obtain ⟨hI, hfr⟩ := IP8.out.put_how 3
          have IP9 := Lib.hid hI
          have FR9 := Lib.hid (FR8.out.trans hfr)
          have LE9 := Lib.hid LE8.out
          have EQ9 := Lib.hid EQ8.out
          obtain ⟨w9, hw⟩ : ∃ w9, w9 = w8.setCell ⟨b, 17, none⟩ (.int .i64 3) := ⟨_, rfl⟩
          rw [← hw] at IP9 FR9
          obtain ⟨x9, hx9⟩ : ∃ x9, x9 = { x5 with how := 3 } := ⟨_, rfl⟩
          rw [← hx9] at IP9
          have HX9 := Lib.hid hx9
          clear hI hfr hx9
          go_wp2_with fail
          rw [← hw]
          clear hw g0 q0
          have EQ9 := Lib.hid (EQ9.out.trans (bind_ok rfl))
          have hE := EQ9.out
          try dsimp only at hE
          rw [← HX9.out] at hE
          have EQ9 := Lib.hid hE
          clear hE
          refine (must_c NX FL 10 IP9.out.rd (fun e => FU.out (EQ9.out.trans (bind_bad e)))).mono ?_
          intro e w10 hp
          rcases hp.elimG with ⟨a10, st10, v10, H10, hr, rfl, le, hR, hv, hfr⟩ | ⟨p, why, hr, rfl, hfr⟩
          rotate_left
          · have EQp := Lib.hid (EQ9.out.trans (bind_bad hr))
            have FRp := Lib.hid (FR9.out.trans hfr.unloc)
            clear hfr hr hp
            go_wp2_with fail
            exact ⟨rfl, Post.stop EQp.out FRp.out⟩
          obtain rfl : v10 = .tuple #[] := hv
          have IP10 := Lib.hid (IP9.out.call hR le hfr)
          have FR10 := Lib.hid (FR9.out.trans hfr.unloc)
          have LE10 := Lib.hid (LE9.out.trans le)
          have EQ10 := Lib.hid (EQ9.out.trans (bind_ok hr))
          clear hR hfr le hr hp
          go_wp2_with fail
          go_end0
          exact Post.ok (EQ10.out.trans rfl) ⟨H10, x9, LE10.out, ⟨_, IP10.out⟩, by first | rfl | simp only [HX9.out], rfl⟩ FR10.out
        | false =>
          have hE := EQ8.out
          simp only [if_true, if_false, Bool.false_eq_true] at hE
          have EQ8 := Lib.hid hE
          clear hE
          have EQ8 := Lib.hid (EQ8.out.trans (bind_flat _ _ _ _))
          have g0 : w8.cell? ⟨b, 17, none⟩ = some (.int .i64 x5.how) := cell_of_blk IP8.out.blk 17
          have q0 := free_of_blk IP8.out.blk 17
          obtain ⟨hI, hfr⟩ := IP8.out.put_how 4
          have IP9 := Lib.hid hI
          have FR9 := Lib.hid (FR8.out.trans hfr)
          have LE9 := Lib.hid LE8.out
          have EQ9 := Lib.hid EQ8.out
          obtain ⟨w9, hw⟩ : ∃ w9, w9 = w8.setCell ⟨b, 17, none⟩ (.int .i64 4) := ⟨_, rfl⟩
          rw [← hw] at IP9 FR9
          obtain ⟨x9, hx9⟩ : ∃ x9, x9 = { x5 with how := 4 } := ⟨_, rfl⟩
          rw [← hx9] at IP9
          have HX9 := Lib.hid hx9
          clear hI hfr hx9
          go_wp2_with fail
          rw [← hw]
          clear hw g0 q0
          refine (must_c NX FL 63 IP9.out.rd (fun e => FU.out (EQ9.out.trans (bind_bad e)))).mono ?_
          intro e w10 hp
          rcases hp.elimG with ⟨a10, st10, v10, H10, hr, rfl, le, hR, hv, hfr⟩ | ⟨p, why, hr, rfl, hfr⟩
          rotate_left
          · have EQp := Lib.hid (EQ9.out.trans (bind_bad hr))
            have FRp := Lib.hid (FR9.out.trans hfr.unloc)
            clear hfr hr hp
            go_wp2_with fail
            exact ⟨rfl, Post.stop EQp.out FRp.out⟩
          obtain rfl : v10 = .tuple #[] := hv
          have IP10 := Lib.hid (IP9.out.call hR le hfr)
          have FR10 := Lib.hid (FR9.out.trans hfr.unloc)
          have LE10 := Lib.hid (LE9.out.trans le)
          have EQ10 := Lib.hid (EQ9.out.trans (bind_ok hr))
          clear hR hfr le hr hp
          go_wp2_with fail
          have EQ10 := Lib.hid (EQ10.out.trans (bind_ok rfl))
          refine (must_c NX FL 10 IP10.out.rd (fun e => FU.out (EQ10.out.trans (bind_bad e)))).mono ?_
          intro e w11 hp
          rcases hp.elimG with ⟨a11, st11, v11, H11, hr, rfl, le, hR, hv, hfr⟩ | ⟨p, why, hr, rfl, hfr⟩
          rotate_left
          · have EQp := Lib.hid (EQ10.out.trans (bind_bad hr))
            have FRp := Lib.hid (FR10.out.trans hfr.unloc)
            clear hfr hr hp
            go_wp2_with fail
            exact ⟨rfl, Post.stop EQp.out FRp.out⟩
          obtain rfl : v11 = .tuple #[] := hv
          have IP11 := Lib.hid (IP10.out.call hR le hfr)
          have FR11 := Lib.hid (FR10.out.trans hfr.unloc)
          have LE11 := Lib.hid (LE10.out.trans le)
          have EQ11 := Lib.hid (EQ10.out.trans (bind_ok hr))
          clear hR hfr le hr hp
          go_wp2_with fail
          go_end0
          exact Post.ok (EQ11.out.trans rfl) ⟨H11, x9, LE11.out, ⟨_, IP11.out⟩, by first | rfl | simp only [HX9.out], rfl⟩ FR11.out

set_option maxRecDepth 100000 in
set_option maxHeartbeats 4000000 in
theorem fault_c (n : Nat) (h : ItOK X H w r sv src st b x) (hf : fault src n x st ≠ .bad .fuel) :
    Calls Tryz.prog 169 #[.pointer (some ⟨r, 0, none⟩), .pointer (some ⟨b, 0, none⟩)] w (Post X w (fault src n x st) (GoodI iU X H r sv src b)) := by
  obtain ⟨T, hT⟩ : ∃ T, T = fault src n x st := ⟨_, rfl⟩
  rw [← hT]
  have FU := Lib.hid (show T ≠ .bad .fuel by rw [hT]; exact hf)
  have EQ0 := Lib.hid hT
  have NX := Lib.hid next_c
  have FL := Lib.hid fail_c
  obtain ⟨s0, h0⟩ := h
  have IP0 := Lib.hid h0
  obtain ⟨w0, hw0⟩ : ∃ w0, w0 = w := ⟨_, rfl⟩
  obtain ⟨x0, hx0⟩ : ∃ x0, x0 = x := ⟨_, rfl⟩
  obtain ⟨st0, hst0⟩ : ∃ st0, st0 = st := ⟨_, rfl⟩
  obtain ⟨H0, hH0⟩ : ∃ H0, H0 = H := ⟨_, rfl⟩
  rw [← hx0, ← hw0, ← hst0, ← hH0] at IP0
  have FR0 := Lib.hid (show Fr X w w0 by rw [hw0]; exact Fr.refl X w)
  have LE0 := Lib.hid (show Le H H0 by rw [hH0]; exact Le.refl H)
  rw [← hst0, ← hx0] at EQ0
  rw [show Calls Tryz.prog 169 #[.pointer (some ⟨r, 0, none⟩), .pointer (some ⟨b, 0, none⟩)] w = Calls Tryz.prog 169 #[.pointer (some ⟨r, 0, none⟩), .pointer (some ⟨b, 0, none⟩)] w0 by rw [hw0]]
  clear hf hT h0 hw0 hx0 hst0 hH0
  go_enter Tryz.func169, Tryz.ntmps169
  go_wp2_with fail
  refine (take_c NX 55 IP0.out.rd (fun e => FU.out (EQ0.out.trans (bind_bad e)))).mono ?_
  intro e w1 hp
  rcases hp.elimG with ⟨a1, st1, v1, H1, hr, rfl, le, hR, hv, hfr⟩ | ⟨p, why, hr, rfl, hfr⟩
  rotate_left
  · have EQp := Lib.hid (EQ0.out.trans (bind_bad hr))
    have FRp := Lib.hid (FR0.out.trans hfr.unloc)
    clear hfr hr hp
    go_wp2_with fail
    exact ⟨rfl, Post.stop EQp.out FRp.out⟩
  obtain rfl : v1 = .bool a1 := hv
  have IP1 := Lib.hid (IP0.out.call hR le hfr)
  have FR1 := Lib.hid (FR0.out.trans hfr.unloc)
  have LE1 := Lib.hid (LE0.out.trans le)
  have EQ1 := Lib.hid (EQ0.out.trans (bind_ok hr))
  clear hR hfr le hr hp
  cases a1 with
  | true =>
    have hE := EQ1.out
    simp only [if_true, if_false, Bool.false_eq_true] at hE
    have EQ1 := Lib.hid hE
    clear hE
    have g0 : w1.cell? ⟨b, 17, none⟩ = some (.int .i64 x0.how) := cell_of_blk IP1.out.blk 17
    have q0 := free_of_blk IP1.out.blk 17
    obtain ⟨hI, hfr⟩ := IP1.out.put_how 3
    have IP2 := Lib.hid hI
    have FR2 := Lib.hid (FR1.out.trans hfr)
    have LE2 := Lib.hid LE1.out
    have EQ2 := Lib.hid EQ1.out
    obtain ⟨w2, hw⟩ : ∃ w2, w2 = w1.setCell ⟨b, 17, none⟩ (.int .i64 3) := ⟨_, rfl⟩
    rw [← hw] at IP2 FR2
    obtain ⟨x2, hx2⟩ : ∃ x2, x2 = { x0 with how := 3 } := ⟨_, rfl⟩
    rw [← hx2] at IP2
    have HX2 := Lib.hid hx2
    clear hI hfr hx2
    go_wp2_with fail
    rw [← hw]
    clear hw g0 q0
    have EQ2 := Lib.hid (EQ2.out.trans (bind_ok rfl))
    have hE := EQ2.out
    try dsimp only at hE
    rw [← HX2.out] at hE
    have EQ2 := Lib.hid hE
    clear hE
    refine (must_c NX FL 10 IP2.out.rd (fun e => FU.out (EQ2.out.trans (bind_bad e)))).mono ?_
    intro e w3 hp
    rcases hp.elimG with ⟨a3, st3, v3, H3, hr, rfl, le, hR, hv, hfr⟩ | ⟨p, why, hr, rfl, hfr⟩
    rotate_left
    · have EQp := Lib.hid (EQ2.out.trans (bind_bad hr))
      have FRp := Lib.hid (FR2.out.trans hfr.unloc)
      clear hfr hr hp
      go_wp2_with fail
      exact ⟨rfl, Post.stop EQp.out FRp.out⟩
    obtain rfl : v3 = .tuple #[] := hv
    have IP3 := Lib.hid (IP2.out.call hR le hfr)
    have FR3 := Lib.hid (FR2.out.trans hfr.unloc)
    have LE3 := Lib.hid (LE2.out.trans le)
    have EQ3 := Lib.hid (EQ2.out.trans (bind_ok hr))
    clear hR hfr le hr hp
    go_wp2_with fail
    go_end0
    exact Post.ok (EQ3.out.trans rfl) ⟨H3, x2, LE3.out, ⟨_, IP3.out⟩, by first | rfl | simp only [HX2.out], rfl⟩ FR3.out
  | false =>
    go_wp2_with fail
    have hE := EQ1.out
    simp only [if_true, if_false, Bool.false_eq_true] at hE
    have EQ1 := Lib.hid hE
    clear hE
    have EQ1 := Lib.hid (EQ1.out.trans (bind_flat _ _ _ _))
    refine (take_c NX 56 IP1.out.rd (fun e => FU.out (EQ1.out.trans (bind_bad e)))).mono ?_
    intro e w2 hp
    rcases hp.elimG with ⟨a2, st2, v2, H2, hr, rfl, le, hR, hv, hfr⟩ | ⟨p, why, hr, rfl, hfr⟩
    rotate_left
    · have EQp := Lib.hid (EQ1.out.trans (bind_bad hr))
      have FRp := Lib.hid (FR1.out.trans hfr.unloc)
      clear hfr hr hp
      go_wp2_with fail
      exact ⟨rfl, Post.stop EQp.out FRp.out⟩
    obtain rfl : v2 = .bool a2 := hv
    have IP2 := Lib.hid (IP1.out.call hR le hfr)
    have FR2 := Lib.hid (FR1.out.trans hfr.unloc)
    have LE2 := Lib.hid (LE1.out.trans le)
    have EQ2 := Lib.hid (EQ1.out.trans (bind_ok hr))
    clear hR hfr le hr hp
    cases a2 with
    | true =>
      have hE := EQ2.out
      simp only [if_true, if_false, Bool.false_eq_true] at hE
      have EQ2 := Lib.hid hE
      clear hE
      have g0 : w2.cell? ⟨b, 17, none⟩ = some (.int .i64 x0.how) := cell_of_blk IP2.out.blk 17
      have q0 := free_of_blk IP2.out.blk 17
      obtain ⟨hI, hfr⟩ := IP2.out.put_how 2
      have IP3 := Lib.hid hI
      have FR3 := Lib.hid (FR2.out.trans hfr)
      have LE3 := Lib.hid LE2.out
      have EQ3 := Lib.hid EQ2.out
      obtain ⟨w3, hw⟩ : ∃ w3, w3 = w2.setCell ⟨b, 17, none⟩ (.int .i64 2) := ⟨_, rfl⟩
      rw [← hw] at IP3 FR3
      obtain ⟨x3, hx3⟩ : ∃ x3, x3 = { x0 with how := 2 } := ⟨_, rfl⟩
      rw [← hx3] at IP3
      have HX3 := Lib.hid hx3
      clear hI hfr hx3
      go_wp2_with fail
      rw [← hw]
      clear hw g0 q0
      have EQ3 := Lib.hid (EQ3.out.trans (bind_ok rfl))
      have hE := EQ3.out
      try dsimp only at hE
      rw [← HX3.out] at hE
      have EQ3 := Lib.hid hE
      clear hE
      refine (must_c NX FL 10 IP3.out.rd (fun e => FU.out (EQ3.out.trans (bind_bad e)))).mono ?_
      intro e w4 hp
      rcases hp.elimG with ⟨a4, st4, v4, H4, hr, rfl, le, hR, hv, hfr⟩ | ⟨p, why, hr, rfl, hfr⟩
      rotate_left
      · have EQp := Lib.hid (EQ3.out.trans (bind_bad hr))
        have FRp := Lib.hid (FR3.out.trans hfr.unloc)
        clear hfr hr hp
        go_wp2_with fail
        exact ⟨rfl, Post.stop EQp.out FRp.out⟩
      obtain rfl : v4 = .tuple #[] := hv
      have IP4 := Lib.hid (IP3.out.call hR le hfr)
      have FR4 := Lib.hid (FR3.out.trans hfr.unloc)
      have LE4 := Lib.hid (LE3.out.trans le)
      have EQ4 := Lib.hid (EQ3.out.trans (bind_ok hr))
      clear hR hfr le hr hp
      go_wp2_with fail
      go_end0
      exact Post.ok (EQ4.out.trans rfl) ⟨H4, x3, LE4.out, ⟨_, IP4.out⟩, by first | rfl | simp only [HX3.out], rfl⟩ FR4.out
    | false =>
      go_wp2_with fail
      have hE := EQ2.out
      simp only [if_true, if_false, Bool.false_eq_true] at hE
      have EQ2 := Lib.hid hE
      clear hE
      have EQ2 := Lib.hid (EQ2.out.trans (bind_flat _ _ _ _))
      refine (must_c NX FL 57 IP2.out.rd (fun e => FU.out (EQ2.out.trans (bind_bad e)))).mono ?_
      intro e w3 hp
      rcases hp.elimG with ⟨a3, st3, v3, H3, hr, rfl, le, hR, hv, hfr⟩ | ⟨p, why, hr, rfl, hfr⟩
      rotate_left
      · have EQp := Lib.hid (EQ2.out.trans (bind_bad hr))
        have FRp := Lib.hid (FR2.out.trans hfr.unloc)
        clear hfr hr hp
        go_wp2_with fail
        exact ⟨rfl, Post.stop EQp.out FRp.out⟩
      obtain rfl : v3 = .tuple #[] := hv
      have IP3 := Lib.hid (IP2.out.call hR le hfr)
      have FR3 := Lib.hid (FR2.out.trans hfr.unloc)
      have LE3 := Lib.hid (LE2.out.trans le)
      have EQ3 := Lib.hid (EQ2.out.trans (bind_ok hr))
      clear hR hfr le hr hp
      have g0 : w3.cell? ⟨b, 17, none⟩ = some (.int .i64 x0.how) := cell_of_blk IP3.out.blk 17
      have q0 := free_of_blk IP3.out.blk 17
      obtain ⟨hI, hfr⟩ := IP3.out.put_how 1
      have IP4 := Lib.hid hI
      have FR4 := Lib.hid (FR3.out.trans hfr)
      have LE4 := Lib.hid LE3.out
      have EQ4 := Lib.hid EQ3.out
      obtain ⟨w4, hw⟩ : ∃ w4, w4 = w3.setCell ⟨b, 17, none⟩ (.int .i64 1) := ⟨_, rfl⟩
      rw [← hw] at IP4 FR4
      obtain ⟨x4, hx4⟩ : ∃ x4, x4 = { x0 with how := 1 } := ⟨_, rfl⟩
      rw [← hx4] at IP4
      have HX4 := Lib.hid hx4
      clear hI hfr hx4
      go_wp2_with fail
      rw [← hw]
      clear hw g0 q0
      have EQ4 := Lib.hid (EQ4.out.trans (bind_flat _ _ _ _))
      refine (ref_c n IP4.out.rd (fun e => FU.out (EQ4.out.trans (bind_bad e)))).mono ?_
      intro e w5 hp
      rcases hp.elimG with ⟨a5, st5, v5, H5, hr, rfl, le, hR, hv, hfr⟩ | ⟨p, why, hr, rfl, hfr⟩
      rotate_left
      · have EQp := Lib.hid (EQ4.out.trans (bind_bad hr))
        have FRp := Lib.hid (FR4.out.trans hfr.unloc)
        clear hfr hr hp
        go_wp2_with fail
        exact ⟨rfl, Post.stop EQp.out FRp.out⟩
      obtain ⟨i5, rfl, hi5⟩ := hv
      have IP5 := Lib.hid (IP4.out.call hR le hfr)
      have FR5 := Lib.hid (FR4.out.trans hfr.unloc)
      have LE5 := Lib.hid (LE4.out.trans le)
      have EQ5 := Lib.hid (EQ4.out.trans (bind_ok hr))
      clear hR hfr le hr hp
      obtain ⟨ia5, il5, ic5, hsl⟩ := FInts.slice hi5
      subst hsl
      have g0 : w5.cell? ⟨b, 8, none⟩ = some (str x4.to_.word) := cell_of_blk IP5.out.blk 8
      have g1 : w5.cell? ⟨b, 9, none⟩ = some (.int .i64 x4.to_.at_) := cell_of_blk IP5.out.blk 9
      have g2 : w5.cell? ⟨b, 10, none⟩ = some s0.tv := cell_of_blk IP5.out.blk 10
      have q0 := free_of_blk IP5.out.blk 8
      have q1 := free_of_blk IP5.out.blk 9
      have q2 := free_of_blk IP5.out.blk 10
      obtain ⟨hI, hfr⟩ := IP5.out.put_to_ hi5
      have IP6 := Lib.hid hI
      have FR6 := Lib.hid (FR5.out.trans hfr)
      have LE6 := Lib.hid LE5.out
      have EQ6 := Lib.hid EQ5.out
      obtain ⟨w6, hw⟩ : ∃ w6, w6 = ((w5.setCell ⟨b, 8, none⟩ (.string ⟨a5.word.toArray⟩)).setCell ⟨b, 9, none⟩ (.int .i64 a5.at_)).setCell ⟨b, 10, none⟩ (.slice ia5 il5 ic5) := ⟨_, rfl⟩
      have hw' : w6 = ((w5.setCell ⟨b, 8, none⟩ (str a5.word)).setCell ⟨b, 9, none⟩ (.int .i64 a5.at_)).setCell ⟨b, 10, none⟩ (.slice ia5 il5 ic5) := hw
      rw [← hw'] at IP6 FR6
      clear hw'
      obtain ⟨x6, hx6⟩ : ∃ x6, x6 = { x4 with to_ := a5 } := ⟨_, rfl⟩
      rw [← hx6] at IP6
      obtain ⟨s6, hs⟩ : ∃ s6, s6 = { s0 with tv := (.slice ia5 il5 ic5) } := ⟨_, rfl⟩
      rw [← hs] at IP6
      have HX6 := Lib.hid hx6
      clear hI hfr hs hx6
      go_wp2_with fail
      rw [← hw]
      clear hw g0 g1 g2 q0 q1 q2
      have hE := EQ6.out
      try dsimp only at hE
      have hx2 := HX6.out
      rw [HX4.out] at hx2
      rw [← hx2] at hE
      have EQ6 := Lib.hid hE
      clear hE hx2
      refine (number_c n 58 ⟨_, IP6.out⟩ (fun e => FU.out (EQ6.out.trans (bind_bad e)))).mono ?_
      intro e w7 hp
      rcases hp.elimI with ⟨a7, st7, v7, H7, x7, hr, rfl, le, ⟨s7, hI⟩, hv, hfr⟩ | ⟨p, why, hr, rfl, hfr⟩
      rotate_left
      · have EQp := Lib.hid (EQ6.out.trans (bind_bad hr))
        have FRp := Lib.hid (FR6.out.trans hfr)
        clear hfr hr hp
        go_wp2_with fail
        exact ⟨rfl, Post.stop EQp.out FRp.out⟩
      obtain ⟨hv1, hv2⟩ := hv
      obtain rfl : a7 = x7 := hv1
      obtain rfl : v7 = .tuple #[] := hv2
      have IP7 := Lib.hid (hI)
      have FR7 := Lib.hid (FR6.out.trans hfr)
      have LE7 := Lib.hid (LE6.out.trans le)
      have EQ7 := Lib.hid (EQ6.out.trans (bind_ok hr))
      clear hI hfr le hr hp
      go_wp2_with fail
      refine (must_c NX FL 10 IP7.out.rd (fun e => FU.out (EQ7.out.trans (bind_bad e)))).mono ?_
      intro e w8 hp
      rcases hp.elimG with ⟨a8, st8, v8, H8, hr, rfl, le, hR, hv, hfr⟩ | ⟨p, why, hr, rfl, hfr⟩
      rotate_left
      · have EQp := Lib.hid (EQ7.out.trans (bind_bad hr))
        have FRp := Lib.hid (FR7.out.trans hfr.unloc)
        clear hfr hr hp
        go_wp2_with fail
        exact ⟨rfl, Post.stop EQp.out FRp.out⟩
      obtain rfl : v8 = .tuple #[] := hv
      have IP8 := Lib.hid (IP7.out.call hR le hfr)
      have FR8 := Lib.hid (FR7.out.trans hfr.unloc)
      have LE8 := Lib.hid (LE7.out.trans le)
      have EQ8 := Lib.hid (EQ7.out.trans (bind_ok hr))
      clear hR hfr le hr hp
      go_wp2_with fail
      go_end0
      exact Post.ok (EQ8.out.trans rfl) ⟨H8, a7, LE8.out, ⟨_, IP8.out⟩, by first | rfl | simp only [HX6.out, HX4.out], rfl⟩ FR8.out
end
end Go.Proofs.YtkaeceedofmhbaaGreatDoor
namespace Go.Proofs.YtkaeceedofmhbaaGreatDoor
open Go.RowKit Bk
attribute [local go_sem ↓] Go.wp_at_zero Go.wp_at_succ

set_option linter.unusedSimpArgs false
section
variable {X : Nat → Prop} {H : Frozen} {w : World} {r : Nat} {sv : Value} {src : Bytes} {st : St} {b : Nat} {x : ItemV}

theorem ItP.ev_slice {s : ItemS} (h : ItP X H w r sv src st b x s) : ∃ a c, s.ev = .slice a x.e.length c := by
  rcases h.erow.2 with ⟨e, h0⟩ | ⟨g, cap, cur, e, _⟩
  · exact ⟨none, 0, by rw [e, h0]⟩
  · exact ⟨_, _, e⟩
/-- Behind the question. -/
def useIn (src : Bytes) (m : Nat) (x : ItemV) : M ItemV := M.bind (more src m x) fun x => M.bind (take src 11) fun c => if c = true then useOn src m x else pure x
theorem useOn_zero (x : ItemV) (st : St) : useOn src 0 x st = .bad .fuel := by rw [useOn]; rfl
theorem useOn_on (m : Nat) (x : ItemV) : useOn src (m + 1) x = M.bind (see 9) fun b => if b = false ∨ 0 < x.e.length then useIn src m x else pure x := by rw [useOn]; rfl
theorem use_go {m : Nat} {q : Bool} {F : ItemV → M ItemV} (h : q = false ∨ 0 < x.e.length) : M.bind (if q = false ∨ 0 < x.e.length then useIn src m x else pure x) F st = M.bind (useIn src m x) F st := by rw [if_pos h]
theorem use_end {m : Nat} {F : ItemV → M ItemV} (h : ¬ 0 < x.e.length) : M.bind (if true = false ∨ 0 < x.e.length then useIn src m x else pure x) F st = F x st := by rw [if_neg (fun hh => hh.elim (fun e => by cases e) h)]; rfl

set_option maxRecDepth 100000 in
set_option maxHeartbeats 4000000 in
theorem use_c (n : Nat) (h : ItOK X H w r sv src st b x) (hf : use src n x st ≠ .bad .fuel) :
    Calls Tryz.prog 111 #[.pointer (some ⟨r, 0, none⟩), .pointer (some ⟨b, 0, none⟩)] w (Post X w (use src n x st) (GoodI iU X H r sv src b)) := by
  obtain ⟨T, hT⟩ : ∃ T, T = use src n x st := ⟨_, rfl⟩
  rw [← hT]
  have FU := Lib.hid (show T ≠ .bad .fuel by rw [hT]; exact hf)
  have EQ0 := Lib.hid hT
  have NX := Lib.hid next_c
  have FL := Lib.hid fail_c
  obtain ⟨s0, h0⟩ := h
  have IP0 := Lib.hid h0
  obtain ⟨w0, hw0⟩ : ∃ w0, w0 = w := ⟨_, rfl⟩
  obtain ⟨x0, hx0⟩ : ∃ x0, x0 = x := ⟨_, rfl⟩
  obtain ⟨st0, hst0⟩ : ∃ st0, st0 = st := ⟨_, rfl⟩
  obtain ⟨H0, hH0⟩ : ∃ H0, H0 = H := ⟨_, rfl⟩
  rw [← hx0, ← hw0, ← hst0, ← hH0] at IP0
  have FR0 := Lib.hid (show Fr X w w0 by rw [hw0]; exact Fr.refl X w)
  have LE0 := Lib.hid (show Le H H0 by rw [hH0]; exact Le.refl H)
  rw [← hst0, ← hx0] at EQ0
  rw [show Calls Tryz.prog 111 #[.pointer (some ⟨r, 0, none⟩), .pointer (some ⟨b, 0, none⟩)] w = Calls Tryz.prog 111 #[.pointer (some ⟨r, 0, none⟩), .pointer (some ⟨b, 0, none⟩)] w0 by rw [hw0]]
  clear hf hT h0 hw0 hx0 hst0 hH0
  go_enter Tryz.func111, Tryz.ntmps111
  go_wp2_with fail
  refine (rword_c NX FL IP0.out.rd).mono ?_
  intro e w1 hp
  rcases hp.elimG with ⟨a1, st1, v1, H1, hr, rfl, le, hR, hv, hfr⟩ | ⟨p, why, hr, rfl, hfr⟩
  rotate_left
  · have EQp := Lib.hid (EQ0.out.trans (bind_bad hr))
    have FRp := Lib.hid (FR0.out.trans hfr.unloc)
    clear hfr hr hp
    go_wp2_with fail
    exact ⟨rfl, Post.stop EQp.out FRp.out⟩
  obtain ⟨i1, rfl, hi1⟩ := hv
  have IP1 := Lib.hid (IP0.out.call hR le hfr)
  have FR1 := Lib.hid (FR0.out.trans hfr.unloc)
  have LE1 := Lib.hid (LE0.out.trans le)
  have EQ1 := Lib.hid (EQ0.out.trans (bind_ok hr))
  clear hR hfr le hr hp
  obtain ⟨ia1, il1, ic1, hsl⟩ := FInts.slice hi1
  subst hsl
  have g0 : w1.cell? ⟨b, 2, none⟩ = some (str x0.name.word) := cell_of_blk IP1.out.blk 2
  have g1 : w1.cell? ⟨b, 3, none⟩ = some (.int .i64 x0.name.at_) := cell_of_blk IP1.out.blk 3
  have g2 : w1.cell? ⟨b, 4, none⟩ = some s0.nv := cell_of_blk IP1.out.blk 4
  have q0 := free_of_blk IP1.out.blk 2
  have q1 := free_of_blk IP1.out.blk 3
  have q2 := free_of_blk IP1.out.blk 4
  obtain ⟨hI, hfr⟩ := IP1.out.put_name hi1
  have IP2 := Lib.hid hI
  have FR2 := Lib.hid (FR1.out.trans hfr)
  have LE2 := Lib.hid LE1.out
  have EQ2 := Lib.hid EQ1.out
  obtain ⟨w2, hw⟩ : ∃ w2, w2 = ((w1.setCell ⟨b, 2, none⟩ (.string ⟨a1.word.toArray⟩)).setCell ⟨b, 3, none⟩ (.int .i64 a1.at_)).setCell ⟨b, 4, none⟩ (.slice ia1 il1 ic1) := ⟨_, rfl⟩
  have hw' : w2 = ((w1.setCell ⟨b, 2, none⟩ (str a1.word)).setCell ⟨b, 3, none⟩ (.int .i64 a1.at_)).setCell ⟨b, 4, none⟩ (.slice ia1 il1 ic1) := hw
  rw [← hw'] at IP2 FR2
  clear hw'
  obtain ⟨x2, hx2⟩ : ∃ x2, x2 = { x0 with name := a1 } := ⟨_, rfl⟩
  rw [← hx2] at IP2
  obtain ⟨s2, hs⟩ : ∃ s2, s2 = { s0 with nv := (.slice ia1 il1 ic1) } := ⟨_, rfl⟩
  rw [← hs] at IP2
  have HX2 := Lib.hid hx2
  clear hI hfr hs hx2
  go_wp2_with fail
  rw [← hw]
  clear hw g0 g1 g2 q0 q1 q2
  have hE := EQ2.out
  try dsimp only at hE
  rw [← HX2.out] at hE
  have EQ2 := Lib.hid hE
  clear hE
  refine (open_c NX FL 8 IP2.out.rd (fun e => FU.out (EQ2.out.trans (bind_bad e)))).mono ?_
  intro e w3 hp
  rcases hp.elimG with ⟨a3, st3, v3, H3, hr, rfl, le, hR, hv, hfr⟩ | ⟨p, why, hr, rfl, hfr⟩
  rotate_left
  · have EQp := Lib.hid (EQ2.out.trans (bind_bad hr))
    have FRp := Lib.hid (FR2.out.trans hfr.unloc)
    clear hfr hr hp
    go_wp2_with fail
    exact ⟨rfl, Post.stop EQp.out FRp.out⟩
  obtain rfl : v3 = .tuple #[] := hv
  have IP3 := Lib.hid (IP2.out.call hR le hfr)
  have FR3 := Lib.hid (FR2.out.trans hfr.unloc)
  have LE3 := Lib.hid (LE2.out.trans le)
  have EQ3 := Lib.hid (EQ2.out.trans (bind_ok hr))
  clear hR hfr le hr hp
  obtain ⟨F3, hF, hE⟩ := bind_name EQ3.out
  have EQ3 := Lib.hid hE
  have HF3 := Lib.hid hF
  clear hE hF
  go_wp2_with fail
  go_loopg [] (n + 1) (fun g wr => ∃ (m : Nat) (xj : ItemV) (stj : St) (Hj : Frozen), m ≤ n ∧ m < g ∧ Hid (ItOK X Hj wr r sv src stj b xj ∧ Fr X w wr ∧ Le H Hj ∧ T = M.bind (useOn src m xj) F3 stj))
  case atStart => exact ⟨n, x2, st3, H3, Nat.le_refl _, by omega, Lib.hid ⟨⟨_, IP3.out⟩, FR3.out, LE3.out, EQ3.out⟩⟩
  case round =>
    obtain ⟨m, x4, st4, H4, hmn, hmg, hrel⟩ := hrel
    obtain ⟨⟨s4, hI⟩, hF, hL, hE⟩ := hrel.out
    cases m with
    | zero => exact absurd (hE.trans (bind_bad (useOn_zero _ _))) FU.out
    | succ m =>
    rw [useOn_on] at hE
    have IP4 := Lib.hid hI
    have FR4 := Lib.hid hF
    have LE4 := Lib.hid hL
    have EQ4 := Lib.hid hE
    clear hrel hI hF hL hE
    obtain ⟨w4, hw⟩ : ∃ w4, w4 = wr := ⟨_, rfl⟩
    rw [← hw] at IP4 FR4 ⊢
    clear hw
    go_wp2_with fail
    have EQ4 := Lib.hid (EQ4.out.trans (bind_flat _ _ _ _))
    refine (see_g 9 IP4.out.rd (fun e => FU.out (EQ4.out.trans (bind_bad e)))).mono ?_
    intro e w5 hp
    rcases hp.elimG with ⟨a5, st5, v5, H5, hr, rfl, le, hR, hv, hfr⟩ | ⟨p, why, hr, rfl, hfr⟩
    rotate_left
    · have EQp := Lib.hid (EQ4.out.trans (bind_bad hr))
      have FRp := Lib.hid (FR4.out.trans hfr.unloc)
      clear hfr hr hp
      go_wp2_with fail
      exact ⟨rfl, Post.stop EQp.out FRp.out⟩
    obtain rfl : v5 = .bool a5 := hv
    have IP5 := Lib.hid (IP4.out.call hR le hfr)
    have FR5 := Lib.hid (FR4.out.trans hfr.unloc)
    have LE5 := Lib.hid (LE4.out.trans le)
    have EQ5 := Lib.hid (EQ4.out.trans (bind_ok hr))
    clear hR hfr le hr hp
    cases a5 with
    | false =>
      go_wp2_with fail
      have EQ5 := Lib.hid (EQ5.out.trans (use_go (.inl rfl)))
      have EQ5 := Lib.hid (EQ5.out.trans (bind_flat _ _ _ _))
      go_upto_region 3 with (fail)
      have e2 : w5.cell? ⟨b, 15, none⟩ = some s4.ev := cell_of_blk IP5.out.blk 15
      have HEX := Lib.hid (expr_c m _ _ _ _ _ _ w5.drew 0 IP5.out.rd.drew (fun e => FU.out (EQ5.out.trans (bind_bad (more_bad e)))))
      obtain ⟨X1, hX1⟩ : ∃ X1, X1 = Loc X b s4.ev := ⟨_, rfl⟩
      cases hre : expr src m 0 st5 with
      | bad hb =>
        cases hb with
        | fuel => exact absurd (EQ5.out.trans (bind_bad (more_bad hre))) FU.out
        | stop p why =>
        have HEXP := Lib.hid (HEX.out.mono (R' := fun e w' => e = .panicked [{ v := haltV p why, recovered := false }] ∧ Fr X w w') (fun e w' hp => by
          rw [hre] at hp
          exact ⟨hp.1, FR5.out.trans ((Fr.drewOn X w5).trans hp.2.unloc)⟩))
        have EQp := Lib.hid (EQ5.out.trans (bind_bad (more_bad hre)))
        clear hre HEX
        refine wp_region_any (by kernel_rfl) ?_
        try (change wpAny _ _ _ _ _ _ _ (World.drew _))
        refine wpAny_take (i := 0) (v := ?_) rfl (by kernel_rfl) (by kernel_rfl) (by kernel_rfl) (fun _ _ _ h => h) (Or.inl ⟨by rfl, by intro w; go_simp; with_reducible rfl⟩) ?_
        refine wpAny_take (i := 1) (v := ?_) rfl (by kernel_rfl) (by kernel_rfl) (by kernel_rfl) (fun _ _ _ h => h) (Or.inl ⟨by rfl, by intro w; go_simp; with_reducible rfl⟩) ?_
        refine wpAny_take (i := 2) (v := ?_) rfl (by kernel_rfl) (by kernel_rfl) (by kernel_rfl) (fun _ _ _ h => h) (Or.inl ⟨by rfl, by intro w; go_simp; with_reducible rfl⟩) ?_
        refine wpAny_take (i := 3) (v := ?_) rfl (by kernel_rfl) (by kernel_rfl) (by kernel_rfl) (fun _ _ _ h => h) (Or.inl ⟨by rfl, by intro w; go_simp; with_reducible rfl⟩) ?_
        refine wpAny_take (i := 5) (v := ?_) rfl (by kernel_rfl) (by kernel_rfl) (by kernel_rfl) (fun _ _ _ h => h) (Or.inl ⟨by rfl, by intro w; go_simp; with_reducible rfl⟩) ?_
        refine wpAny_ready (rs := [4, 6]) (by kernel_rfl) (by simp) ?_
        refine AllReady.cons rfl (fun K hK => ?_) (AllReady.cons rfl (fun K hK => ?_) AllReady.nil)
        · go_simp
          refine hK _ _ ?_
          clear hK K
          refine wpAny_ready (rs := [6]) (by kernel_rfl) (by simp) ?_
          refine AllReady.cons rfl (fun K hK => ?_) AllReady.nil
          · go_simp
            go_at_call 110
            refine HEXP.out.mono ?_
            rintro e wJ ⟨rfl, FRp⟩
            exact ⟨rfl, Post.stop EQp.out FRp⟩
        · go_simp
          go_at_call 110
          refine HEXP.out.mono ?_
          rintro e wJ ⟨rfl, FRp⟩
          exact ⟨rfl, Post.stop EQp.out FRp⟩
      | ok a6 st6 =>
        have hl : x4.e.length < most := Decidable.byContradiction fun hn => FU.out (EQ5.out.trans (bind_bad (more_few hre hn)))
        have hl' : x4.e.length < 1073741824 := hl
        have EQ6 := Lib.hid (EQ5.out.trans (bind_ok (more_ok hre hl)))
        have HEX2 := Lib.hid (HEX.out.mono (R' := fun e w' => ∃ HJ, e = .returned (.int .i64 a6) ∧ Le H5 HJ ∧ RdOK (Loc X b s4.ev) HJ w' r sv src st6 ∧ Fr (Loc X b s4.ev) w5.drew w') (fun e w' hp => by
          rw [hre] at hp
          obtain ⟨v, HJ, h1, h2, h3, h4, h5⟩ := Post.okG hp
          obtain rfl : v = .int .i64 a6 := h4
          exact ⟨HJ, h1, h2, h3, h5⟩))
        obtain ⟨i0, hi0, hz0, hz1, hz2⟩ := info_parts info3
        have hlb : b < w5.heap.size := IP5.out.lt
        clear hre HEX hl
        go_cut [] (fun wx => ∃ HJ sJ, ItP X HJ wx r sv src st6 b { x4 with e := x4.e ++ [a6] } sJ ∧ Fr X w5 wx ∧ Le H5 HJ)
        case first =>
          go_region_law (first
            | (go_simp; go_at_call 110; refine HEX2.out.mono ?_; rintro e wJ ⟨HJ, rfl, hleJ, hRJ, hfrJ⟩; have e2' : wJ.cell? ⟨b, 15, none⟩ = some s4.ev := (World.cell?_of_block (w := w5) (a := ⟨b, 15, none⟩) (hfrJ.block b (.inr (.inl rfl)))).trans e2; have hlJ : b < wJ.heap.size := Nat.lt_of_lt_of_le hlb hfrJ.size; have e2'' : (wJ.alloc (Obj.cells #[.int .i64 a6] 3)).cell? ⟨b, 15, none⟩ = some s4.ev := (World.cell?_of_block (w := wJ) (a := ⟨b, 15, none⟩) (heap_alloc_old wJ _ hlJ)).trans e2')
            | (refine step_append_lies _ (by rfl) _ _ _ (by rfl) 0 3 i0 _ 1 8 Tryz.underlying22 hi0 hz0 hz1 hz2 rfl (by omega) s4.ev x4.e.length (ints x4.e) (by rfl) (((IP5.out.drew.call hRJ hleJ hfrJ).erow).alloc _)
                ⟨wJ.heap.size, 0, none⟩ 1 1 [.int .i64 a6] (by rfl) (by rfl) (World.news_of_block (cs := #[.int .i64 a6]) (t := 3) (fr := (0, 0)) (heap_alloc_new wJ _)) (by simp [Value.oneCell'])
                (by omega) (by unfold maxLen; omega) (by omega) (by simp) (wJ.heap.size + 1) (by simp) ?_; intro gg cap wG hownG hgrow hat hltG;
                have g2 : wG.frozen? ⟨b, 15, none⟩ = false := (World.frozen?_of_block (w := wJ) (a := ⟨b, 15, none⟩) (grown_block hgrow (IP5.out.drew.call hRJ hleJ hfrJ).lt (IP5.out.drew.call hRJ hleJ hfrJ).eb)).trans (free_of_blk (IP5.out.drew.call hRJ hleJ hfrJ).blk 15);
                have k2 : wG.cell? ⟨b, 15, none⟩ = some s4.ev := (World.cell?_of_block (w := wJ) (a := ⟨b, 15, none⟩) (grown_block hgrow (IP5.out.drew.call hRJ hleJ hfrJ).lt (IP5.out.drew.call hRJ hleJ hfrJ).eb)).trans e2'))
          all_goals
            have IPJ := (IP5.out.drew.call hRJ hleJ hfrJ).alloc (.cells #[.int .i64 a6] 3)
            obtain ⟨IPG, f6⟩ := IPJ.grow (k := a6) hgrow hownG (by
              rcases hat with e | e
              · exact .inl (by rw [e]; rfl)
              · exact .inr ⟨gg, by simp; omega, rfl⟩)
            have f7 := (((Fr.drewOn X w5).trans hfrJ.unloc).trans ((Fr.refl X wJ).alloc (IP5.out.drew.call hRJ hleJ hfrJ).xlt (.cells #[.int .i64 a6] 3))).trans f6
            go_wp2_with fail
            go_meet
            exact ⟨HJ, _, IPG, f7, hleJ⟩
        case rest =>
          obtain ⟨H6, s6, hI, hfr, hle⟩ := hcut
          obtain ⟨w6, hw⟩ : ∃ w6, w6 = wc := ⟨_, rfl⟩
          rw [← hw] at hI hfr ⊢
          obtain ⟨x6, hx6⟩ : ∃ x6, x6 = { x4 with e := x4.e ++ [a6] } := ⟨_, rfl⟩
          rw [← hx6] at hI
          have hE := EQ6.out
          try dsimp only at hE
          rw [← hx6] at hE
          have EQ6 := Lib.hid hE
          clear hE
          have IP6 := Lib.hid hI
          have FR6 := Lib.hid (FR5.out.trans hfr)
          have LE6 := Lib.hid (LE5.out.trans hle)
          clear hI hfr hle hw e2 hl' hi0 hz0 hz1 hz2 hlb HEX2
          go_wp2_with fail
          have EQ6 := Lib.hid (EQ6.out.trans (bind_flat _ _ _ _))
          refine (take_c NX 11 IP6.out.rd (fun e => FU.out (EQ6.out.trans (bind_bad e)))).mono ?_
          intro e w7 hp
          rcases hp.elimG with ⟨a7, st7, v7, H7, hr, rfl, le, hR, hv, hfr⟩ | ⟨p, why, hr, rfl, hfr⟩
          rotate_left
          · have EQp := Lib.hid (EQ6.out.trans (bind_bad hr))
            have FRp := Lib.hid (FR6.out.trans hfr.unloc)
            clear hfr hr hp
            go_wp2_with fail
            exact ⟨rfl, Post.stop EQp.out FRp.out⟩
          obtain rfl : v7 = .bool a7 := hv
          have IP7 := Lib.hid (IP6.out.call hR le hfr)
          have FR7 := Lib.hid (FR6.out.trans hfr.unloc)
          have LE7 := Lib.hid (LE6.out.trans le)
          have EQ7 := Lib.hid (EQ6.out.trans (bind_ok hr))
          clear hR hfr le hr hp
          cases a7 with
          | true =>
            go_wp2_with fail
            have hE := EQ7.out
            simp only [if_true, if_false, Bool.false_eq_true] at hE
            have EQ7 := Lib.hid hE
            clear hE
            go_roundg (m + 1)
            case measure => omega
            case rel => exact ⟨m, x6, st7, H7, by omega, by omega, Lib.hid ⟨⟨_, IP7.out⟩, FR7.out, LE7.out, EQ7.out⟩⟩
          | false =>
            go_wp2_with fail
            have hE := EQ7.out
            simp only [if_true, if_false, Bool.false_eq_true] at hE
            have EQ7 := Lib.hid hE
            clear hE
            have EQ7 := Lib.hid (EQ7.out.trans (bind_ok rfl))
            have hE := EQ7.out
            rw [HF3.out] at hE
            have EQ7 := Lib.hid hE
            clear hE
            refine (shut_c NX FL 9 IP7.out.rd (fun e => FU.out (EQ7.out.trans (bind_bad e)))).mono ?_
            intro e w8 hp
            rcases hp.elimG with ⟨a8, st8, v8, H8, hr, rfl, le, hR, hv, hfr⟩ | ⟨p, why, hr, rfl, hfr⟩
            rotate_left
            · have EQp := Lib.hid (EQ7.out.trans (bind_bad hr))
              have FRp := Lib.hid (FR7.out.trans hfr.unloc)
              clear hfr hr hp
              go_wp2_with fail
              exact ⟨rfl, Post.stop EQp.out FRp.out⟩
            obtain rfl : v8 = .tuple #[] := hv
            have IP8 := Lib.hid (IP7.out.call hR le hfr)
            have FR8 := Lib.hid (FR7.out.trans hfr.unloc)
            have LE8 := Lib.hid (LE7.out.trans le)
            have EQ8 := Lib.hid (EQ7.out.trans (bind_ok hr))
            clear hR hfr le hr hp
            go_wp2_with fail
            refine (must_c NX FL 10 IP8.out.rd (fun e => FU.out (EQ8.out.trans (bind_bad e)))).mono ?_
            intro e w9 hp
            rcases hp.elimG with ⟨a9, st9, v9, H9, hr, rfl, le, hR, hv, hfr⟩ | ⟨p, why, hr, rfl, hfr⟩
            rotate_left
            · have EQp := Lib.hid (EQ8.out.trans (bind_bad hr))
              have FRp := Lib.hid (FR8.out.trans hfr.unloc)
              clear hfr hr hp
              go_wp2_with fail
              exact ⟨rfl, Post.stop EQp.out FRp.out⟩
            obtain rfl : v9 = .tuple #[] := hv
            have IP9 := Lib.hid (IP8.out.call hR le hfr)
            have FR9 := Lib.hid (FR8.out.trans hfr.unloc)
            have LE9 := Lib.hid (LE8.out.trans le)
            have EQ9 := Lib.hid (EQ8.out.trans (bind_ok hr))
            clear hR hfr le hr hp
            go_wp2_with fail
            go_end0
            exact Post.ok (EQ9.out.trans rfl) ⟨H9, x6, LE9.out, ⟨_, IP9.out⟩, rfl, rfl⟩ FR9.out
    | true =>
      obtain ⟨ia, ic, hev⟩ := IP5.out.ev_slice
      have g15 : w5.cell? ⟨b, 15, none⟩ = some (.slice ia x4.e.length ic) := by rw [← hev]; exact cell_of_blk IP5.out.blk 15
      clear hev
      by_cases hl : 0 < x4.e.length
      · have EQ5 := Lib.hid (EQ5.out.trans (use_go (.inr hl)))
        have hl2 : (((x4.e.length : Nat) : Int) > 0) := by omega
        go_wp2_with fail
        clear g15
        have EQ5 := Lib.hid (EQ5.out.trans (bind_flat _ _ _ _))
        go_upto_region 3 with (fail)
        have e2 : w5.cell? ⟨b, 15, none⟩ = some s4.ev := cell_of_blk IP5.out.blk 15
        have HEX := Lib.hid (expr_c m _ _ _ _ _ _ w5.drew 0 IP5.out.rd.drew (fun e => FU.out (EQ5.out.trans (bind_bad (more_bad e)))))
        obtain ⟨X1, hX1⟩ : ∃ X1, X1 = Loc X b s4.ev := ⟨_, rfl⟩
        cases hre : expr src m 0 st5 with
        | bad hb =>
          cases hb with
          | fuel => exact absurd (EQ5.out.trans (bind_bad (more_bad hre))) FU.out
          | stop p why =>
          have HEXP := Lib.hid (HEX.out.mono (R' := fun e w' => e = .panicked [{ v := haltV p why, recovered := false }] ∧ Fr X w w') (fun e w' hp => by
            rw [hre] at hp
            exact ⟨hp.1, FR5.out.trans ((Fr.drewOn X w5).trans hp.2.unloc)⟩))
          have EQp := Lib.hid (EQ5.out.trans (bind_bad (more_bad hre)))
          clear hre HEX
          refine wp_region_any (by kernel_rfl) ?_
          try (change wpAny _ _ _ _ _ _ _ (World.drew _))
          refine wpAny_take (i := 0) (v := ?_) rfl (by kernel_rfl) (by kernel_rfl) (by kernel_rfl) (fun _ _ _ h => h) (Or.inl ⟨by rfl, by intro w; go_simp; with_reducible rfl⟩) ?_
          refine wpAny_take (i := 1) (v := ?_) rfl (by kernel_rfl) (by kernel_rfl) (by kernel_rfl) (fun _ _ _ h => h) (Or.inl ⟨by rfl, by intro w; go_simp; with_reducible rfl⟩) ?_
          refine wpAny_take (i := 2) (v := ?_) rfl (by kernel_rfl) (by kernel_rfl) (by kernel_rfl) (fun _ _ _ h => h) (Or.inl ⟨by rfl, by intro w; go_simp; with_reducible rfl⟩) ?_
          refine wpAny_take (i := 3) (v := ?_) rfl (by kernel_rfl) (by kernel_rfl) (by kernel_rfl) (fun _ _ _ h => h) (Or.inl ⟨by rfl, by intro w; go_simp; with_reducible rfl⟩) ?_
          refine wpAny_take (i := 5) (v := ?_) rfl (by kernel_rfl) (by kernel_rfl) (by kernel_rfl) (fun _ _ _ h => h) (Or.inl ⟨by rfl, by intro w; go_simp; with_reducible rfl⟩) ?_
          refine wpAny_ready (rs := [4, 6]) (by kernel_rfl) (by simp) ?_
          refine AllReady.cons rfl (fun K hK => ?_) (AllReady.cons rfl (fun K hK => ?_) AllReady.nil)
          · go_simp
            refine hK _ _ ?_
            clear hK K
            refine wpAny_ready (rs := [6]) (by kernel_rfl) (by simp) ?_
            refine AllReady.cons rfl (fun K hK => ?_) AllReady.nil
            · go_simp
              go_at_call 110
              refine HEXP.out.mono ?_
              rintro e wJ ⟨rfl, FRp⟩
              exact ⟨rfl, Post.stop EQp.out FRp⟩
          · go_simp
            go_at_call 110
            refine HEXP.out.mono ?_
            rintro e wJ ⟨rfl, FRp⟩
            exact ⟨rfl, Post.stop EQp.out FRp⟩
        | ok a6 st6 =>
          have hl : x4.e.length < most := Decidable.byContradiction fun hn => FU.out (EQ5.out.trans (bind_bad (more_few hre hn)))
          have hl' : x4.e.length < 1073741824 := hl
          have EQ6 := Lib.hid (EQ5.out.trans (bind_ok (more_ok hre hl)))
          have HEX2 := Lib.hid (HEX.out.mono (R' := fun e w' => ∃ HJ, e = .returned (.int .i64 a6) ∧ Le H5 HJ ∧ RdOK (Loc X b s4.ev) HJ w' r sv src st6 ∧ Fr (Loc X b s4.ev) w5.drew w') (fun e w' hp => by
            rw [hre] at hp
            obtain ⟨v, HJ, h1, h2, h3, h4, h5⟩ := Post.okG hp
            obtain rfl : v = .int .i64 a6 := h4
            exact ⟨HJ, h1, h2, h3, h5⟩))
          obtain ⟨i0, hi0, hz0, hz1, hz2⟩ := info_parts info3
          have hlb : b < w5.heap.size := IP5.out.lt
          clear hre HEX hl
          go_cut [] (fun wx => ∃ HJ sJ, ItP X HJ wx r sv src st6 b { x4 with e := x4.e ++ [a6] } sJ ∧ Fr X w5 wx ∧ Le H5 HJ)
          case first =>
            go_region_law (first
              | (go_simp; go_at_call 110; refine HEX2.out.mono ?_; rintro e wJ ⟨HJ, rfl, hleJ, hRJ, hfrJ⟩; have e2' : wJ.cell? ⟨b, 15, none⟩ = some s4.ev := (World.cell?_of_block (w := w5) (a := ⟨b, 15, none⟩) (hfrJ.block b (.inr (.inl rfl)))).trans e2; have hlJ : b < wJ.heap.size := Nat.lt_of_lt_of_le hlb hfrJ.size; have e2'' : (wJ.alloc (Obj.cells #[.int .i64 a6] 3)).cell? ⟨b, 15, none⟩ = some s4.ev := (World.cell?_of_block (w := wJ) (a := ⟨b, 15, none⟩) (heap_alloc_old wJ _ hlJ)).trans e2')
              | (refine step_append_lies _ (by rfl) _ _ _ (by rfl) 0 3 i0 _ 1 8 Tryz.underlying22 hi0 hz0 hz1 hz2 rfl (by omega) s4.ev x4.e.length (ints x4.e) (by rfl) (((IP5.out.drew.call hRJ hleJ hfrJ).erow).alloc _)
                  ⟨wJ.heap.size, 0, none⟩ 1 1 [.int .i64 a6] (by rfl) (by rfl) (World.news_of_block (cs := #[.int .i64 a6]) (t := 3) (fr := (0, 0)) (heap_alloc_new wJ _)) (by simp [Value.oneCell'])
                  (by omega) (by unfold maxLen; omega) (by omega) (by simp) (wJ.heap.size + 1) (by simp) ?_; intro gg cap wG hownG hgrow hat hltG;
                  have g2 : wG.frozen? ⟨b, 15, none⟩ = false := (World.frozen?_of_block (w := wJ) (a := ⟨b, 15, none⟩) (grown_block hgrow (IP5.out.drew.call hRJ hleJ hfrJ).lt (IP5.out.drew.call hRJ hleJ hfrJ).eb)).trans (free_of_blk (IP5.out.drew.call hRJ hleJ hfrJ).blk 15);
                  have k2 : wG.cell? ⟨b, 15, none⟩ = some s4.ev := (World.cell?_of_block (w := wJ) (a := ⟨b, 15, none⟩) (grown_block hgrow (IP5.out.drew.call hRJ hleJ hfrJ).lt (IP5.out.drew.call hRJ hleJ hfrJ).eb)).trans e2'))
            all_goals
              have IPJ := (IP5.out.drew.call hRJ hleJ hfrJ).alloc (.cells #[.int .i64 a6] 3)
              obtain ⟨IPG, f6⟩ := IPJ.grow (k := a6) hgrow hownG (by
                rcases hat with e | e
                · exact .inl (by rw [e]; rfl)
                · exact .inr ⟨gg, by simp; omega, rfl⟩)
              have f7 := (((Fr.drewOn X w5).trans hfrJ.unloc).trans ((Fr.refl X wJ).alloc (IP5.out.drew.call hRJ hleJ hfrJ).xlt (.cells #[.int .i64 a6] 3))).trans f6
              go_wp2_with fail
              go_meet
              exact ⟨HJ, _, IPG, f7, hleJ⟩
          case rest =>
            obtain ⟨H6, s6, hI, hfr, hle⟩ := hcut
            obtain ⟨w6, hw⟩ : ∃ w6, w6 = wc := ⟨_, rfl⟩
            rw [← hw] at hI hfr ⊢
            obtain ⟨x6, hx6⟩ : ∃ x6, x6 = { x4 with e := x4.e ++ [a6] } := ⟨_, rfl⟩
            rw [← hx6] at hI
            have hE := EQ6.out
            try dsimp only at hE
            rw [← hx6] at hE
            have EQ6 := Lib.hid hE
            clear hE
            have IP6 := Lib.hid hI
            have FR6 := Lib.hid (FR5.out.trans hfr)
            have LE6 := Lib.hid (LE5.out.trans hle)
            clear hI hfr hle hw e2 hl' hi0 hz0 hz1 hz2 hlb HEX2
            go_wp2_with fail
            have EQ6 := Lib.hid (EQ6.out.trans (bind_flat _ _ _ _))
            refine (take_c NX 11 IP6.out.rd (fun e => FU.out (EQ6.out.trans (bind_bad e)))).mono ?_
            intro e w7 hp
            rcases hp.elimG with ⟨a7, st7, v7, H7, hr, rfl, le, hR, hv, hfr⟩ | ⟨p, why, hr, rfl, hfr⟩
            rotate_left
            · have EQp := Lib.hid (EQ6.out.trans (bind_bad hr))
              have FRp := Lib.hid (FR6.out.trans hfr.unloc)
              clear hfr hr hp
              go_wp2_with fail
              exact ⟨rfl, Post.stop EQp.out FRp.out⟩
            obtain rfl : v7 = .bool a7 := hv
            have IP7 := Lib.hid (IP6.out.call hR le hfr)
            have FR7 := Lib.hid (FR6.out.trans hfr.unloc)
            have LE7 := Lib.hid (LE6.out.trans le)
            have EQ7 := Lib.hid (EQ6.out.trans (bind_ok hr))
            clear hR hfr le hr hp
            cases a7 with
            | true =>
              go_wp2_with fail
              have hE := EQ7.out
              simp only [if_true, if_false, Bool.false_eq_true] at hE
              have EQ7 := Lib.hid hE
              clear hE
              go_roundg (m + 1)
              case measure => omega
              case rel => exact ⟨m, x6, st7, H7, by omega, by omega, Lib.hid ⟨⟨_, IP7.out⟩, FR7.out, LE7.out, EQ7.out⟩⟩
            | false =>
              go_wp2_with fail
              have hE := EQ7.out
              simp only [if_true, if_false, Bool.false_eq_true] at hE
              have EQ7 := Lib.hid hE
              clear hE
              have EQ7 := Lib.hid (EQ7.out.trans (bind_ok rfl))
              have hE := EQ7.out
              rw [HF3.out] at hE
              have EQ7 := Lib.hid hE
              clear hE
              refine (shut_c NX FL 9 IP7.out.rd (fun e => FU.out (EQ7.out.trans (bind_bad e)))).mono ?_
              intro e w8 hp
              rcases hp.elimG with ⟨a8, st8, v8, H8, hr, rfl, le, hR, hv, hfr⟩ | ⟨p, why, hr, rfl, hfr⟩
              rotate_left
              · have EQp := Lib.hid (EQ7.out.trans (bind_bad hr))
                have FRp := Lib.hid (FR7.out.trans hfr.unloc)
                clear hfr hr hp
                go_wp2_with fail
                exact ⟨rfl, Post.stop EQp.out FRp.out⟩
              obtain rfl : v8 = .tuple #[] := hv
              have IP8 := Lib.hid (IP7.out.call hR le hfr)
              have FR8 := Lib.hid (FR7.out.trans hfr.unloc)
              have LE8 := Lib.hid (LE7.out.trans le)
              have EQ8 := Lib.hid (EQ7.out.trans (bind_ok hr))
              clear hR hfr le hr hp
              go_wp2_with fail
              refine (must_c NX FL 10 IP8.out.rd (fun e => FU.out (EQ8.out.trans (bind_bad e)))).mono ?_
              intro e w9 hp
              rcases hp.elimG with ⟨a9, st9, v9, H9, hr, rfl, le, hR, hv, hfr⟩ | ⟨p, why, hr, rfl, hfr⟩
              rotate_left
              · have EQp := Lib.hid (EQ8.out.trans (bind_bad hr))
                have FRp := Lib.hid (FR8.out.trans hfr.unloc)
                clear hfr hr hp
                go_wp2_with fail
                exact ⟨rfl, Post.stop EQp.out FRp.out⟩
              obtain rfl : v9 = .tuple #[] := hv
              have IP9 := Lib.hid (IP8.out.call hR le hfr)
              have FR9 := Lib.hid (FR8.out.trans hfr.unloc)
              have LE9 := Lib.hid (LE8.out.trans le)
              have EQ9 := Lib.hid (EQ8.out.trans (bind_ok hr))
              clear hR hfr le hr hp
              go_wp2_with fail
              go_end0
              exact Post.ok (EQ9.out.trans rfl) ⟨H9, x6, LE9.out, ⟨_, IP9.out⟩, rfl, rfl⟩ FR9.out
      · have EQ5 := Lib.hid (EQ5.out.trans (use_end hl))
        have hl2 : ¬ (((x4.e.length : Nat) : Int) > 0) := by omega
        go_wp2_with fail
        clear g15
        have hE := EQ5.out
        rw [HF3.out] at hE
        have EQ5 := Lib.hid hE
        clear hE
        refine (shut_c NX FL 9 IP5.out.rd (fun e => FU.out (EQ5.out.trans (bind_bad e)))).mono ?_
        intro e w6 hp
        rcases hp.elimG with ⟨a6, st6, v6, H6, hr, rfl, le, hR, hv, hfr⟩ | ⟨p, why, hr, rfl, hfr⟩
        rotate_left
        · have EQp := Lib.hid (EQ5.out.trans (bind_bad hr))
          have FRp := Lib.hid (FR5.out.trans hfr.unloc)
          clear hfr hr hp
          go_wp2_with fail
          exact ⟨rfl, Post.stop EQp.out FRp.out⟩
        obtain rfl : v6 = .tuple #[] := hv
        have IP6 := Lib.hid (IP5.out.call hR le hfr)
        have FR6 := Lib.hid (FR5.out.trans hfr.unloc)
        have LE6 := Lib.hid (LE5.out.trans le)
        have EQ6 := Lib.hid (EQ5.out.trans (bind_ok hr))
        clear hR hfr le hr hp
        go_wp2_with fail
        refine (must_c NX FL 10 IP6.out.rd (fun e => FU.out (EQ6.out.trans (bind_bad e)))).mono ?_
        intro e w7 hp
        rcases hp.elimG with ⟨a7, st7, v7, H7, hr, rfl, le, hR, hv, hfr⟩ | ⟨p, why, hr, rfl, hfr⟩
        rotate_left
        · have EQp := Lib.hid (EQ6.out.trans (bind_bad hr))
          have FRp := Lib.hid (FR6.out.trans hfr.unloc)
          clear hfr hr hp
          go_wp2_with fail
          exact ⟨rfl, Post.stop EQp.out FRp.out⟩
        obtain rfl : v7 = .tuple #[] := hv
        have IP7 := Lib.hid (IP6.out.call hR le hfr)
        have FR7 := Lib.hid (FR6.out.trans hfr.unloc)
        have LE7 := Lib.hid (LE6.out.trans le)
        have EQ7 := Lib.hid (EQ6.out.trans (bind_ok hr))
        clear hR hfr le hr hp
        go_wp2_with fail
        go_end0
        exact Post.ok (EQ7.out.trans rfl) ⟨H7, x4, LE7.out, ⟨_, IP7.out⟩, rfl, rfl⟩ FR7.out
end
end Go.Proofs.YtkaeceedofmhbaaGreatDoor
