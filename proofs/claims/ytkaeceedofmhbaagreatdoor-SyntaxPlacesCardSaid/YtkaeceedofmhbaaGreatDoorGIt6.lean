/-
  syntax: region.
  Printed by gen/it.py and a script beside it.
-/
import Derived.Test.YtkaeceedofmhbaaGreatDoorGIt5
import Derived.Deep.RegionLaw
import Derived.Deep.DeepCutAuto
namespace Go.Proofs.YtkaeceedofmhbaaGreatDoor
open Go.RowKit Bk
attribute [local go_sem ↓] Go.wp_at_zero Go.wp_at_succ

set_option linter.unusedSimpArgs false
section
variable {X : Nat → Prop} {H : Frozen} {w : World} {r : Nat} {sv : Value} {src : Bytes} {st : St} {b : Nat} {x : ItemV}

set_option maxRecDepth 100000 in
set_option maxHeartbeats 4000000 in
theorem region_c (n : Nat) (h : ItOK X H w r sv src st b x) (hf : region src n x st ≠ .bad .fuel) :
    Calls Tryz.prog 114 #[.pointer (some ⟨r, 0, none⟩), .pointer (some ⟨b, 0, none⟩)] w (Post X w (region src n x st) (GoodI iU X H r sv src b)) := by
  obtain ⟨T, hT⟩ : ∃ T, T = region src n x st := ⟨_, rfl⟩
  rw [← hT]
  have FU := Lib.hid (show T ≠ .bad .fuel by rw [hT]; exact hf)
  have EQ0 := Lib.hid hT
  have NX := Lib.hid next_c
  have FL := Lib.hid fail_c
  obtain ⟨s0, h0⟩ := h
  have IP0 := Lib.hid h0
  obtain ⟨w0, hw0⟩ : ∃ w0, w0 = w := ⟨_, rfl⟩
  obtain ⟨x0, hx0⟩ : ∃ x0, x0 = x := ⟨_, rfl⟩
  obtain ⟨st0, hst0⟩ : ∃ st0, st0 = st := ⟨_, rfl⟩
  obtain ⟨H0, hH0⟩ : ∃ H0, H0 = H := ⟨_, rfl⟩
  rw [← hx0, ← hw0, ← hst0, ← hH0] at IP0
  have FR0 := Lib.hid (show Fr X w w0 by rw [hw0]; exact Fr.refl X w)
  have LE0 := Lib.hid (show Le H H0 by rw [hH0]; exact Le.refl H)
  rw [← hst0, ← hx0] at EQ0
  rw [show Calls Tryz.prog 114 #[.pointer (some ⟨r, 0, none⟩), .pointer (some ⟨b, 0, none⟩)] w = Calls Tryz.prog 114 #[.pointer (some ⟨r, 0, none⟩), .pointer (some ⟨b, 0, none⟩)] w0 by rw [hw0]]
  clear hf hT h0 hw0 hx0 hst0 hH0
  go_enter Tryz.func114, Tryz.ntmps114
  go_wp2_with fail
  refine (ref_c n IP0.out.rd (fun e => FU.out (EQ0.out.trans (bind_bad e)))).mono ?_
  intro e w1 hp
  rcases hp.elimG with ⟨a1, st1, v1, H1, hr, rfl, le, hR, hv, hfr⟩ | ⟨p, why, hr, rfl, hfr⟩
  rotate_left
  · have EQp := Lib.hid (EQ0.out.trans (bind_bad hr))
    have FRp := Lib.hid (FR0.out.trans hfr.unloc)
    clear hfr hr hp
    go_wp2_with fail
    exact ⟨rfl, Post.stop EQp.out FRp.out⟩
  obtain ⟨i1, rfl, hi1⟩ := hv
  have IP1 := Lib.hid (IP0.out.call hR le hfr)
  have FR1 := Lib.hid (FR0.out.trans hfr.unloc)
  have LE1 := Lib.hid (LE0.out.trans le)
  have EQ1 := Lib.hid (EQ0.out.trans (bind_ok hr))
  clear hR hfr le hr hp
  obtain ⟨ia1, il1, ic1, hsl⟩ := FInts.slice hi1
  subst hsl
  have g0 : w1.cell? ⟨b, 2, none⟩ = some (str x0.name.word) := cell_of_blk IP1.out.blk 2
  have g1 : w1.cell? ⟨b, 3, none⟩ = some (.int .i64 x0.name.at_) := cell_of_blk IP1.out.blk 3
  have g2 : w1.cell? ⟨b, 4, none⟩ = some s0.nv := cell_of_blk IP1.out.blk 4
  have q0 := free_of_blk IP1.out.blk 2
  have q1 := free_of_blk IP1.out.blk 3
  have q2 := free_of_blk IP1.out.blk 4
  obtain ⟨hI, hfr⟩ := IP1.out.put_name hi1
  have IP2 := Lib.hid hI
  have FR2 := Lib.hid (FR1.out.trans hfr)
  have LE2 := Lib.hid LE1.out
  have EQ2 := Lib.hid EQ1.out
  obtain ⟨w2, hw⟩ : ∃ w2, w2 = ((w1.setCell ⟨b, 2, none⟩ (.string ⟨a1.word.toArray⟩)).setCell ⟨b, 3, none⟩ (.int .i64 a1.at_)).setCell ⟨b, 4, none⟩ (.slice ia1 il1 ic1) := ⟨_, rfl⟩
  have hw' : w2 = ((w1.setCell ⟨b, 2, none⟩ (str a1.word)).setCell ⟨b, 3, none⟩ (.int .i64 a1.at_)).setCell ⟨b, 4, none⟩ (.slice ia1 il1 ic1) := hw
  rw [← hw'] at IP2 FR2
  clear hw'
  obtain ⟨x2, hx2⟩ : ∃ x2, x2 = { x0 with name := a1 } := ⟨_, rfl⟩
  rw [← hx2] at IP2
  obtain ⟨s2, hs⟩ : ∃ s2, s2 = { s0 with nv := (.slice ia1 il1 ic1) } := ⟨_, rfl⟩
  rw [← hs] at IP2
  have HX2 := Lib.hid hx2
  clear hI hfr hs hx2
  go_wp2_with fail
  rw [← hw]
  clear hw g0 g1 g2 q0 q1 q2
  have hE := EQ2.out
  try dsimp only at hE
  rw [← HX2.out] at hE
  have EQ2 := Lib.hid hE
  clear hE
  refine (number_c n 40 ⟨_, IP2.out⟩ (fun e => FU.out (EQ2.out.trans (bind_bad e)))).mono ?_
  intro e w3 hp
  rcases hp.elimI with ⟨a3, st3, v3, H3, x3, hr, rfl, le, ⟨s3, hI⟩, hv, hfr⟩ | ⟨p, why, hr, rfl, hfr⟩
  rotate_left
  · have EQp := Lib.hid (EQ2.out.trans (bind_bad hr))
    have FRp := Lib.hid (FR2.out.trans hfr)
    clear hfr hr hp
    go_wp2_with fail
    exact ⟨rfl, Post.stop EQp.out FRp.out⟩
  obtain ⟨hv1, hv2⟩ := hv
  obtain rfl : a3 = x3 := hv1
  obtain rfl : v3 = .tuple #[] := hv2
  have IP3 := Lib.hid (hI)
  have FR3 := Lib.hid (FR2.out.trans hfr)
  have LE3 := Lib.hid (LE2.out.trans le)
  have EQ3 := Lib.hid (EQ2.out.trans (bind_ok hr))
  clear hI hfr le hr hp
  go_wp2_with fail
  refine (flag_c 42 1 ⟨_, IP3.out⟩ (by omega) (fun e => FU.out (EQ3.out.trans (bind_bad e)))).mono ?_
  intro e w4 hp
  rcases hp.elimI with ⟨a4, st4, v4, H4, x4, hr, rfl, le, ⟨s4, hI⟩, hv, hfr⟩ | ⟨p, why, hr, rfl, hfr⟩
  rotate_left
  · have EQp := Lib.hid (EQ3.out.trans (bind_bad hr))
    have FRp := Lib.hid (FR3.out.trans hfr)
    clear hfr hr hp
    go_wp2_with fail
    exact ⟨rfl, Post.stop EQp.out FRp.out⟩
  obtain ⟨hv1, hv2⟩ := hv
  obtain ⟨f4, y4⟩ := a4
  obtain rfl : y4 = x4 := hv1
  obtain rfl : v4 = .bool f4 := hv2
  have IP4 := Lib.hid (hI)
  have FR4 := Lib.hid (FR3.out.trans hfr)
  have LE4 := Lib.hid (LE3.out.trans le)
  have EQ4 := Lib.hid (EQ3.out.trans (bind_ok hr))
  clear hI hfr le hr hp
  go_upto_if 14 with (fail)
  obtain ⟨F4, hF, hE⟩ := ite_name EQ4.out
  have EQ4 := Lib.hid hE
  have HF4 := Lib.hid hF
  clear hE hF
  go_cut [] (fun wx => ∃ Hj xj stj, ItOK X Hj wx r sv src stj b xj ∧ Fr X w wx ∧ Le H Hj ∧ T = F4 xj stj)
  case first =>
    cases f4 with
    | false =>
      go_wp2_with fail
      go_meet
      exact ⟨H4, y4, _, ⟨_, IP4.out⟩, FR4.out, LE4.out, EQ4.out.trans (bind_ok rfl)⟩
    | true =>
      have hE := EQ4.out
      simp only [if_true, if_false, Bool.false_eq_true] at hE
      have EQ4 := Lib.hid hE
      clear hE
      go_upto_region 3 with (fail)
      have e2 : w4.cell? ⟨b, 15, none⟩ = some s4.ev := cell_of_blk IP4.out.blk 15
      have HEX := Lib.hid (expr_c n _ _ _ _ _ _ w4.drew 0 IP4.out.rd.drew (fun e => FU.out (EQ4.out.trans (bind_bad (more_bad e)))))
      obtain ⟨X1, hX1⟩ : ∃ X1, X1 = Loc X b s4.ev := ⟨_, rfl⟩
      cases hre : expr src n 0 st4 with
      | bad hb =>
        cases hb with
        | fuel => exact absurd (EQ4.out.trans (bind_bad (more_bad hre))) FU.out
        | stop p why =>
        have HEXP := Lib.hid (HEX.out.mono (R' := fun e w' => e = .panicked [{ v := haltV p why, recovered := false }] ∧ Fr X w w') (fun e w' hp => by
          rw [hre] at hp
          exact ⟨hp.1, FR4.out.trans ((Fr.drewOn X w4).trans hp.2.unloc)⟩))
        have EQp := Lib.hid (EQ4.out.trans (bind_bad (more_bad hre)))
        clear hre HEX
        refine wp_region_any (by kernel_rfl) ?_
        try (change wpAny _ _ _ _ _ _ _ (World.drew _))
        refine wpAny_take (i := 0) (v := ?_) rfl (by kernel_rfl) (by kernel_rfl) (by kernel_rfl) (fun _ _ _ h => h) (Or.inl ⟨by rfl, by intro w; go_simp; with_reducible rfl⟩) ?_
        refine wpAny_take (i := 1) (v := ?_) rfl (by kernel_rfl) (by kernel_rfl) (by kernel_rfl) (fun _ _ _ h => h) (Or.inl ⟨by rfl, by intro w; go_simp; with_reducible rfl⟩) ?_
        refine wpAny_take (i := 2) (v := ?_) rfl (by kernel_rfl) (by kernel_rfl) (by kernel_rfl) (fun _ _ _ h => h) (Or.inl ⟨by rfl, by intro w; go_simp; with_reducible rfl⟩) ?_
        refine wpAny_take (i := 3) (v := ?_) rfl (by kernel_rfl) (by kernel_rfl) (by kernel_rfl) (fun _ _ _ h => h) (Or.inl ⟨by rfl, by intro w; go_simp; with_reducible rfl⟩) ?_
        refine wpAny_take (i := 5) (v := ?_) rfl (by kernel_rfl) (by kernel_rfl) (by kernel_rfl) (fun _ _ _ h => h) (Or.inl ⟨by rfl, by intro w; go_simp; with_reducible rfl⟩) ?_
        refine wpAny_ready (rs := [4, 6]) (by kernel_rfl) (by simp) ?_
        refine AllReady.cons rfl (fun K hK => ?_) (AllReady.cons rfl (fun K hK => ?_) AllReady.nil)
        · go_simp
          refine hK _ _ ?_
          clear hK K
          refine wpAny_ready (rs := [6]) (by kernel_rfl) (by simp) ?_
          refine AllReady.cons rfl (fun K hK => ?_) AllReady.nil
          · go_simp
            go_at_call 110
            refine HEXP.out.mono ?_
            rintro e wJ ⟨rfl, FRp⟩
            exact ⟨rfl, Post.stop EQp.out FRp⟩
        · go_simp
          go_at_call 110
          refine HEXP.out.mono ?_
          rintro e wJ ⟨rfl, FRp⟩
          exact ⟨rfl, Post.stop EQp.out FRp⟩
      | ok a5 st5 =>
        have hl : y4.e.length < most := Decidable.byContradiction fun hn => FU.out (EQ4.out.trans (bind_bad (more_few hre hn)))
        have hl' : y4.e.length < 1073741824 := hl
        have EQ5 := Lib.hid (EQ4.out.trans (bind_ok (more_ok hre hl)))
        have HEX2 := Lib.hid (HEX.out.mono (R' := fun e w' => ∃ HJ, e = .returned (.int .i64 a5) ∧ Le H4 HJ ∧ RdOK (Loc X b s4.ev) HJ w' r sv src st5 ∧ Fr (Loc X b s4.ev) w4.drew w') (fun e w' hp => by
          rw [hre] at hp
          obtain ⟨v, HJ, h1, h2, h3, h4, h5⟩ := Post.okG hp
          obtain rfl : v = .int .i64 a5 := h4
          exact ⟨HJ, h1, h2, h3, h5⟩))
        obtain ⟨i0, hi0, hz0, hz1, hz2⟩ := info_parts info3
        have hlb : b < w4.heap.size := IP4.out.lt
        clear hre HEX hl
        go_region_law (first
          | (go_simp; go_at_call 110; refine HEX2.out.mono ?_; rintro e wJ ⟨HJ, rfl, hleJ, hRJ, hfrJ⟩; have e2' : wJ.cell? ⟨b, 15, none⟩ = some s4.ev := (World.cell?_of_block (w := w4) (a := ⟨b, 15, none⟩) (hfrJ.block b (.inr (.inl rfl)))).trans e2; have hlJ : b < wJ.heap.size := Nat.lt_of_lt_of_le hlb hfrJ.size; have e2'' : (wJ.alloc (Obj.cells #[.int .i64 a5] 3)).cell? ⟨b, 15, none⟩ = some s4.ev := (World.cell?_of_block (w := wJ) (a := ⟨b, 15, none⟩) (heap_alloc_old wJ _ hlJ)).trans e2')
          | (refine step_append_lies _ (by rfl) _ _ _ (by rfl) 0 3 i0 _ 1 8 Tryz.underlying22 hi0 hz0 hz1 hz2 rfl (by omega) s4.ev y4.e.length (ints y4.e) (by rfl) (((IP4.out.drew.call hRJ hleJ hfrJ).erow).alloc _)
              ⟨wJ.heap.size, 0, none⟩ 1 1 [.int .i64 a5] (by rfl) (by rfl) (World.news_of_block (cs := #[.int .i64 a5]) (t := 3) (fr := (0, 0)) (heap_alloc_new wJ _)) (by simp [Value.oneCell'])
              (by omega) (by unfold maxLen; omega) (by omega) (by simp) (wJ.heap.size + 1) (by simp) ?_; intro gg cap wG hownG hgrow hat hltG;
              have g2 : wG.frozen? ⟨b, 15, none⟩ = false := (World.frozen?_of_block (w := wJ) (a := ⟨b, 15, none⟩) (grown_block hgrow (IP4.out.drew.call hRJ hleJ hfrJ).lt (IP4.out.drew.call hRJ hleJ hfrJ).eb)).trans (free_of_blk (IP4.out.drew.call hRJ hleJ hfrJ).blk 15);
              have k2 : wG.cell? ⟨b, 15, none⟩ = some s4.ev := (World.cell?_of_block (w := wJ) (a := ⟨b, 15, none⟩) (grown_block hgrow (IP4.out.drew.call hRJ hleJ hfrJ).lt (IP4.out.drew.call hRJ hleJ hfrJ).eb)).trans e2'))
        all_goals
          have IPJ := (IP4.out.drew.call hRJ hleJ hfrJ).alloc (.cells #[.int .i64 a5] 3)
          obtain ⟨IPG, f6⟩ := IPJ.grow (k := a5) hgrow hownG (by
            rcases hat with e | e
            · exact .inl (by rw [e]; rfl)
            · exact .inr ⟨gg, by simp; omega, rfl⟩)
          have f7 := (((Fr.drewOn X w4).trans hfrJ.unloc).trans ((Fr.refl X wJ).alloc (IP4.out.drew.call hRJ hleJ hfrJ).xlt (.cells #[.int .i64 a5] 3))).trans f6
          go_wp2_with fail
          go_meet
          exact ⟨HJ, _, _, ⟨_, IPG⟩, FR4.out.trans f7, LE4.out.trans hleJ, EQ5.out⟩
  case rest =>
    obtain ⟨H5, x5, st5, ⟨s5, hI⟩, hfr, hle, hE⟩ := hcut
    obtain ⟨w5, hw⟩ : ∃ w5, w5 = wc := ⟨_, rfl⟩
    rw [← hw] at hI hfr ⊢
    rw [HF4.out] at hE
    have IP5 := Lib.hid hI
    have FR5 := Lib.hid hfr
    have LE5 := Lib.hid hle
    have EQ5 := Lib.hid hE
    clear hI hfr hle hE hw
    go_wp2_with fail
    refine (flag_c 45 2 ⟨_, IP5.out⟩ (by omega) (fun e => FU.out (EQ5.out.trans (bind_bad e)))).mono ?_
    intro e w6 hp
    rcases hp.elimI with ⟨a6, st6, v6, H6, x6, hr, rfl, le, ⟨s6, hI⟩, hv, hfr⟩ | ⟨p, why, hr, rfl, hfr⟩
    rotate_left
    · have EQp := Lib.hid (EQ5.out.trans (bind_bad hr))
      have FRp := Lib.hid (FR5.out.trans hfr)
      clear hfr hr hp
      go_wp2_with fail
      exact ⟨rfl, Post.stop EQp.out FRp.out⟩
    obtain ⟨hv1, hv2⟩ := hv
    obtain ⟨f6, y6⟩ := a6
    obtain rfl : y6 = x6 := hv1
    obtain rfl : v6 = .bool f6 := hv2
    have IP6 := Lib.hid (hI)
    have FR6 := Lib.hid (FR5.out.trans hfr)
    have LE6 := Lib.hid (LE5.out.trans le)
    have EQ6 := Lib.hid (EQ5.out.trans (bind_ok hr))
    clear hI hfr le hr hp
    go_wp2_with fail
    refine (flag_c 46 4 ⟨_, IP6.out⟩ (by omega) (fun e => FU.out (EQ6.out.trans (bind_bad e)))).mono ?_
    intro e w7 hp
    rcases hp.elimI with ⟨a7, st7, v7, H7, x7, hr, rfl, le, ⟨s7, hI⟩, hv, hfr⟩ | ⟨p, why, hr, rfl, hfr⟩
    rotate_left
    · have EQp := Lib.hid (EQ6.out.trans (bind_bad hr))
      have FRp := Lib.hid (FR6.out.trans hfr)
      clear hfr hr hp
      go_wp2_with fail
      exact ⟨rfl, Post.stop EQp.out FRp.out⟩
    obtain ⟨hv1, hv2⟩ := hv
    obtain ⟨f7, y7⟩ := a7
    obtain rfl : y7 = x7 := hv1
    obtain rfl : v7 = .bool f7 := hv2
    have IP7 := Lib.hid (hI)
    have FR7 := Lib.hid (FR6.out.trans hfr)
    have LE7 := Lib.hid (LE6.out.trans le)
    have EQ7 := Lib.hid (EQ6.out.trans (bind_ok hr))
    clear hI hfr le hr hp
    go_wp2_with fail
    refine (take_c NX 47 IP7.out.rd (fun e => FU.out (EQ7.out.trans (bind_bad e)))).mono ?_
    intro e w8 hp
    rcases hp.elimG with ⟨a8, st8, v8, H8, hr, rfl, le, hR, hv, hfr⟩ | ⟨p, why, hr, rfl, hfr⟩
    rotate_left
    · have EQp := Lib.hid (EQ7.out.trans (bind_bad hr))
      have FRp := Lib.hid (FR7.out.trans hfr.unloc)
      clear hfr hr hp
      go_wp2_with fail
      exact ⟨rfl, Post.stop EQp.out FRp.out⟩
    obtain rfl : v8 = .bool a8 := hv
    have IP8 := Lib.hid (IP7.out.call hR le hfr)
    have FR8 := Lib.hid (FR7.out.trans hfr.unloc)
    have LE8 := Lib.hid (LE7.out.trans le)
    have EQ8 := Lib.hid (EQ7.out.trans (bind_ok hr))
    clear hR hfr le hr hp
    go_upto_if 33 with (fail)
    obtain ⟨F8, hF, hE⟩ := ite_name EQ8.out
    have EQ8 := Lib.hid hE
    have HF8 := Lib.hid hF
    clear hE hF
    go_cut [] (fun wx => ∃ Hj xj stj, ItOK X Hj wx r sv src stj b xj ∧ Fr X w wx ∧ Le H Hj ∧ T = F8 xj stj)
    case first =>
      cases a8 with
      | false =>
        go_wp2_with fail
        go_meet
        exact ⟨H8, y7, _, ⟨_, IP8.out⟩, FR8.out, LE8.out, EQ8.out.trans (bind_ok rfl)⟩
      | true =>
        go_wp2_with fail
        have hE := EQ8.out
        simp only [if_true, if_false, Bool.false_eq_true] at hE
        have EQ8 := Lib.hid hE
        clear hE
        have EQ8 := Lib.hid (EQ8.out.trans (bind_flat _ _ _ _))
        refine (see_g 3 IP8.out.rd (fun e => FU.out (EQ8.out.trans (bind_bad e)))).mono ?_
        intro e w9 hp
        rcases hp.elimG with ⟨a9, st9, v9, H9, hr, rfl, le, hR, hv, hfr⟩ | ⟨p, why, hr, rfl, hfr⟩
        rotate_left
        · have EQp := Lib.hid (EQ8.out.trans (bind_bad hr))
          have FRp := Lib.hid (FR8.out.trans hfr.unloc)
          clear hfr hr hp
          go_wp2_with fail
          exact ⟨rfl, Post.stop EQp.out FRp.out⟩
        obtain rfl : v9 = .bool a9 := hv
        have IP9 := Lib.hid (IP8.out.call hR le hfr)
        have FR9 := Lib.hid (FR8.out.trans hfr.unloc)
        have LE9 := Lib.hid (LE8.out.trans le)
        have EQ9 := Lib.hid (EQ8.out.trans (bind_ok hr))
        clear hR hfr le hr hp
        go_upto_if 35 with (fail)
        cases a9 with
        | false =>
          have hE := EQ9.out
          simp only [if_true, if_false, Bool.false_eq_true] at hE
          have EQ9 := Lib.hid hE
          clear hE
          have g0 : w9.cell? ⟨b, 16, none⟩ = some (.int .i64 y7.flags) := cell_of_blk IP9.out.blk 16
          have q0 := free_of_blk IP9.out.blk 16
          obtain ⟨hI, hfr⟩ := IP9.out.put_flags (orF y7.flags 8) (orF_fits IP9.out.fl (by omega))
          have IP10 := Lib.hid hI
          have FR10 := Lib.hid (FR9.out.trans hfr)
          have LE10 := Lib.hid LE9.out
          have EQ10 := Lib.hid EQ9.out
          obtain ⟨w10, hw⟩ : ∃ w10, w10 = w9.setCell ⟨b, 16, none⟩ (.int .i64 (orF y7.flags 8)) := ⟨_, rfl⟩
          rw [← hw] at IP10 FR10
          obtain ⟨x10, hx10⟩ : ∃ x10, x10 = { y7 with flags := orF y7.flags 8 } := ⟨_, rfl⟩
          rw [← hx10] at IP10
          have HX10 := Lib.hid hx10
          clear hI hfr hx10
          go_upto_region 12 with (fail)
          rw [bits_orF IP9.out.fl (by omega)]
          rw [← hw]
          clear hw g0 q0
          have hE := EQ10.out
          try dsimp only at hE
          rw [← HX10.out] at hE
          have EQ10 := Lib.hid hE
          clear hE
          go_upto_region 12 with (fail)
          have e2 : w10.cell? ⟨b, 15, none⟩ = some s7.ev := cell_of_blk IP10.out.blk 15
          have HEX := Lib.hid (expr_c n _ _ _ _ _ _ w10.drew 0 IP10.out.rd.drew (fun e => FU.out (EQ10.out.trans (bind_bad (more_bad e)))))
          obtain ⟨X1, hX1⟩ : ∃ X1, X1 = Loc X b s7.ev := ⟨_, rfl⟩
          cases hre : expr src n 0 st9 with
          | bad hb =>
            cases hb with
            | fuel => exact absurd (EQ10.out.trans (bind_bad (more_bad hre))) FU.out
            | stop p why =>
            have HEXP := Lib.hid (HEX.out.mono (R' := fun e w' => e = .panicked [{ v := haltV p why, recovered := false }] ∧ Fr X w w') (fun e w' hp => by
              rw [hre] at hp
              exact ⟨hp.1, FR10.out.trans ((Fr.drewOn X w10).trans hp.2.unloc)⟩))
            have EQp := Lib.hid (EQ10.out.trans (bind_bad (more_bad hre)))
            clear hre HEX
            refine wp_region_any (by kernel_rfl) ?_
            try (change wpAny _ _ _ _ _ _ _ (World.drew _))
            refine wpAny_take (i := 0) (v := ?_) rfl (by kernel_rfl) (by kernel_rfl) (by kernel_rfl) (fun _ _ _ h => h) (Or.inl ⟨by rfl, by intro w; go_simp; with_reducible rfl⟩) ?_
            refine wpAny_take (i := 1) (v := ?_) rfl (by kernel_rfl) (by kernel_rfl) (by kernel_rfl) (fun _ _ _ h => h) (Or.inl ⟨by rfl, by intro w; go_simp; with_reducible rfl⟩) ?_
            refine wpAny_take (i := 2) (v := ?_) rfl (by kernel_rfl) (by kernel_rfl) (by kernel_rfl) (fun _ _ _ h => h) (Or.inl ⟨by rfl, by intro w; go_simp; with_reducible rfl⟩) ?_
            refine wpAny_take (i := 3) (v := ?_) rfl (by kernel_rfl) (by kernel_rfl) (by kernel_rfl) (fun _ _ _ h => h) (Or.inl ⟨by rfl, by intro w; go_simp; with_reducible rfl⟩) ?_
            refine wpAny_take (i := 5) (v := ?_) rfl (by kernel_rfl) (by kernel_rfl) (by kernel_rfl) (fun _ _ _ h => h) (Or.inl ⟨by rfl, by intro w; go_simp; with_reducible rfl⟩) ?_
            refine wpAny_ready (rs := [4, 6]) (by kernel_rfl) (by simp) ?_
            refine AllReady.cons rfl (fun K hK => ?_) (AllReady.cons rfl (fun K hK => ?_) AllReady.nil)
            · go_simp
              refine hK _ _ ?_
              clear hK K
              refine wpAny_ready (rs := [6]) (by kernel_rfl) (by simp) ?_
              refine AllReady.cons rfl (fun K hK => ?_) AllReady.nil
              · go_simp
                go_at_call 110
                refine HEXP.out.mono ?_
                rintro e wJ ⟨rfl, FRp⟩
                exact ⟨rfl, Post.stop EQp.out FRp⟩
            · go_simp
              go_at_call 110
              refine HEXP.out.mono ?_
              rintro e wJ ⟨rfl, FRp⟩
              exact ⟨rfl, Post.stop EQp.out FRp⟩
          | ok a11 st11 =>
            have hl : x10.e.length < most := Decidable.byContradiction fun hn => FU.out (EQ10.out.trans (bind_bad (more_few hre hn)))
            have hl' : x10.e.length < 1073741824 := hl
            have EQ11 := Lib.hid (EQ10.out.trans (bind_ok (more_ok hre hl)))
            have HEX2 := Lib.hid (HEX.out.mono (R' := fun e w' => ∃ HJ, e = .returned (.int .i64 a11) ∧ Le H9 HJ ∧ RdOK (Loc X b s7.ev) HJ w' r sv src st11 ∧ Fr (Loc X b s7.ev) w10.drew w') (fun e w' hp => by
              rw [hre] at hp
              obtain ⟨v, HJ, h1, h2, h3, h4, h5⟩ := Post.okG hp
              obtain rfl : v = .int .i64 a11 := h4
              exact ⟨HJ, h1, h2, h3, h5⟩))
            obtain ⟨i0, hi0, hz0, hz1, hz2⟩ := info_parts info3
            have hlb : b < w10.heap.size := IP10.out.lt
            clear hre HEX hl
            go_region_law (first
              | (go_simp; go_at_call 110; refine HEX2.out.mono ?_; rintro e wJ ⟨HJ, rfl, hleJ, hRJ, hfrJ⟩; have e2' : wJ.cell? ⟨b, 15, none⟩ = some s7.ev := (World.cell?_of_block (w := w10) (a := ⟨b, 15, none⟩) (hfrJ.block b (.inr (.inl rfl)))).trans e2; have hlJ : b < wJ.heap.size := Nat.lt_of_lt_of_le hlb hfrJ.size; have e2'' : (wJ.alloc (Obj.cells #[.int .i64 a11] 3)).cell? ⟨b, 15, none⟩ = some s7.ev := (World.cell?_of_block (w := wJ) (a := ⟨b, 15, none⟩) (heap_alloc_old wJ _ hlJ)).trans e2')
              | (refine step_append_lies _ (by rfl) _ _ _ (by rfl) 0 3 i0 _ 1 8 Tryz.underlying22 hi0 hz0 hz1 hz2 rfl (by omega) s7.ev x10.e.length (ints x10.e) (by rfl) (((IP10.out.drew.call hRJ hleJ hfrJ).erow).alloc _)
                  ⟨wJ.heap.size, 0, none⟩ 1 1 [.int .i64 a11] (by rfl) (by rfl) (World.news_of_block (cs := #[.int .i64 a11]) (t := 3) (fr := (0, 0)) (heap_alloc_new wJ _)) (by simp [Value.oneCell'])
                  (by omega) (by unfold maxLen; omega) (by omega) (by simp) (wJ.heap.size + 1) (by simp) ?_; intro gg cap wG hownG hgrow hat hltG;
                  have g2 : wG.frozen? ⟨b, 15, none⟩ = false := (World.frozen?_of_block (w := wJ) (a := ⟨b, 15, none⟩) (grown_block hgrow (IP10.out.drew.call hRJ hleJ hfrJ).lt (IP10.out.drew.call hRJ hleJ hfrJ).eb)).trans (free_of_blk (IP10.out.drew.call hRJ hleJ hfrJ).blk 15);
                  have k2 : wG.cell? ⟨b, 15, none⟩ = some s7.ev := (World.cell?_of_block (w := wJ) (a := ⟨b, 15, none⟩) (grown_block hgrow (IP10.out.drew.call hRJ hleJ hfrJ).lt (IP10.out.drew.call hRJ hleJ hfrJ).eb)).trans e2'))
            all_goals
              have IPJ := (IP10.out.drew.call hRJ hleJ hfrJ).alloc (.cells #[.int .i64 a11] 3)
              obtain ⟨IPG, f6⟩ := IPJ.grow (k := a11) hgrow hownG (by
                rcases hat with e | e
                · exact .inl (by rw [e]; rfl)
                · exact .inr ⟨gg, by simp; omega, rfl⟩)
              have f7 := (((Fr.drewOn X w10).trans hfrJ.unloc).trans ((Fr.refl X wJ).alloc (IP10.out.drew.call hRJ hleJ hfrJ).xlt (.cells #[.int .i64 a11] 3))).trans f6
              go_wp2_with fail
              go_meet
              exact ⟨HJ, _, _, ⟨_, IPG⟩, FR10.out.trans f7, LE10.out.trans hleJ, EQ11.out⟩
        | true =>
          have hE := EQ9.out
          simp only [if_true, if_false, Bool.false_eq_true] at hE
          have EQ9 := Lib.hid hE
          clear hE
          have g0 : w9.cell? ⟨b, 16, none⟩ = some (.int .i64 y7.flags) := cell_of_blk IP9.out.blk 16
          have q0 := free_of_blk IP9.out.blk 16
          obtain ⟨hI, hfr⟩ := IP9.out.put_flags (orF y7.flags 16) (orF_fits IP9.out.fl (by omega))
          have IP10 := Lib.hid hI
          have FR10 := Lib.hid (FR9.out.trans hfr)
          have LE10 := Lib.hid LE9.out
          have EQ10 := Lib.hid EQ9.out
          obtain ⟨w10, hw⟩ : ∃ w10, w10 = w9.setCell ⟨b, 16, none⟩ (.int .i64 (orF y7.flags 16)) := ⟨_, rfl⟩
          rw [← hw] at IP10 FR10
          obtain ⟨x10, hx10⟩ : ∃ x10, x10 = { y7 with flags := orF y7.flags 16 } := ⟨_, rfl⟩
          rw [← hx10] at IP10
          have HX10 := Lib.hid hx10
          clear hI hfr hx10
          go_upto_region 9 with (fail)
          rw [bits_orF IP9.out.fl (by omega)]
          rw [← hw]
          clear hw g0 q0
          have c5 := IP10.out.rd.c5
          have g0 : w10.cell? ⟨b, 18, none⟩ = some (str x10.text) := cell_of_blk IP10.out.blk 18
          have q0 := free_of_blk IP10.out.blk 18
          obtain ⟨hI, hfr⟩ := IP10.out.put_text st9.tok.s
          have IP11 := Lib.hid hI
          have FR11 := Lib.hid (FR10.out.trans hfr)
          have LE11 := Lib.hid LE10.out
          have EQ11 := Lib.hid EQ10.out
          obtain ⟨w11, hw⟩ : ∃ w11, w11 = w10.setCell ⟨b, 18, none⟩ (str st9.tok.s) := ⟨_, rfl⟩
          rw [← hw] at IP11 FR11
          obtain ⟨x11, hx11⟩ : ∃ x11, x11 = { x10 with text := st9.tok.s } := ⟨_, rfl⟩
          rw [← hx11] at IP11
          have HX11 := Lib.hid hx11
          clear hI hfr hx11
          go_wp2_with fail
          rw [← hw]
          clear hw g0 q0
          clear c5
          have EQ11 := Lib.hid (EQ11.out.trans (bind_flat _ _ _ _))
          refine (NX.out _ _ _ _ _ _ _ IP11.out.rd).mono ?_
          intro e w12 hp
          rcases hp.elimG with ⟨a12, st12, v12, H12, hr, rfl, le, hR, hv, hfr⟩ | ⟨p, why, hr, rfl, hfr⟩
          rotate_left
          · have EQp := Lib.hid (EQ11.out.trans (bind_bad hr))
            have FRp := Lib.hid (FR11.out.trans hfr.unloc)
            clear hfr hr hp
            go_wp2_with fail
            exact ⟨rfl, Post.stop EQp.out FRp.out⟩
          obtain rfl : v12 = .tuple #[] := hv
          have IP12 := Lib.hid (IP11.out.call hR le hfr)
          have FR12 := Lib.hid (FR11.out.trans hfr.unloc)
          have LE12 := Lib.hid (LE11.out.trans le)
          have EQ12 := Lib.hid (EQ11.out.trans (bind_ok hr))
          clear hR hfr le hr hp
          go_wp2_with fail
          skip
          go_meet
          exact ⟨H12, x11, _, ⟨_, IP12.out⟩, FR12.out, LE12.out, by rw [HX11.out, HX10.out]; exact EQ12.out.trans (bind_ok rfl)⟩
    case rest =>
      obtain ⟨H13, x13, st13, ⟨s13, hI⟩, hfr, hle, hE⟩ := hcut
      obtain ⟨w13, hw⟩ : ∃ w13, w13 = wc := ⟨_, rfl⟩
      rw [← hw] at hI hfr ⊢
      rw [HF8.out] at hE
      have IP13 := Lib.hid hI
      have FR13 := Lib.hid hfr
      have LE13 := Lib.hid hle
      have EQ13 := Lib.hid hE
      clear hI hfr hle hE hw
      go_wp2_with fail
      refine (must_c NX FL 10 IP13.out.rd (fun e => FU.out (EQ13.out.trans (bind_bad e)))).mono ?_
      intro e w14 hp
      rcases hp.elimG with ⟨a14, st14, v14, H14, hr, rfl, le, hR, hv, hfr⟩ | ⟨p, why, hr, rfl, hfr⟩
      rotate_left
      · have EQp := Lib.hid (EQ13.out.trans (bind_bad hr))
        have FRp := Lib.hid (FR13.out.trans hfr.unloc)
        clear hfr hr hp
        go_wp2_with fail
        exact ⟨rfl, Post.stop EQp.out FRp.out⟩
      obtain rfl : v14 = .tuple #[] := hv
      have IP14 := Lib.hid (IP13.out.call hR le hfr)
      have FR14 := Lib.hid (FR13.out.trans hfr.unloc)
      have LE14 := Lib.hid (LE13.out.trans le)
      have EQ14 := Lib.hid (EQ13.out.trans (bind_ok hr))
      clear hR hfr le hr hp
      go_wp2_with fail
      go_end0
      exact Post.ok (EQ14.out.trans rfl) ⟨H14, x13, LE14.out, ⟨_, IP14.out⟩, rfl, rfl⟩ FR14.out
end
end Go.Proofs.YtkaeceedofmhbaaGreatDoor
