/-
  syntax: number, ends, flag.
  Printed by gen/it.py and a script beside it.
-/
import Derived.Test.YtkaeceedofmhbaaGreatDoorGIt2
import Derived.Deep.RegionLaw
import Derived.Deep.DeepCutAuto
namespace Go.Proofs.YtkaeceedofmhbaaGreatDoor
open Go.RowKit Bk
attribute [local go_sem ↓] Go.wp_at_zero Go.wp_at_succ

set_option linter.unusedSimpArgs false
section
variable {X : Nat → Prop} {H : Frozen} {w : World} {r : Nat} {sv : Value} {src : Bytes} {st : St} {b : Nat} {x : ItemV}

set_option maxRecDepth 100000 in
set_option maxHeartbeats 4000000 in
theorem number_c (n : Nat) (k : Int) (h : ItOK X H w r sv src st b x) (hf : number src n x k st ≠ .bad .fuel) :
    Calls Tryz.prog 150 #[.pointer (some ⟨r, 0, none⟩), .pointer (some ⟨b, 0, none⟩), .int .i64 k] w (Post X w (number src n x k st) (GoodI iU X H r sv src b)) := by
  obtain ⟨T, hT⟩ : ∃ T, T = number src n x k st := ⟨_, rfl⟩
  rw [← hT]
  have FU := Lib.hid (show T ≠ .bad .fuel by rw [hT]; exact hf)
  have EQ0 := Lib.hid hT
  have NX := Lib.hid next_c
  have FL := Lib.hid fail_c
  obtain ⟨s0, h0⟩ := h
  have IP0 := Lib.hid h0
  obtain ⟨w0, hw0⟩ : ∃ w0, w0 = w := ⟨_, rfl⟩
  obtain ⟨x0, hx0⟩ : ∃ x0, x0 = x := ⟨_, rfl⟩
  obtain ⟨st0, hst0⟩ : ∃ st0, st0 = st := ⟨_, rfl⟩
  obtain ⟨H0, hH0⟩ : ∃ H0, H0 = H := ⟨_, rfl⟩
  rw [← hx0, ← hw0, ← hst0, ← hH0] at IP0
  have FR0 := Lib.hid (show Fr X w w0 by rw [hw0]; exact Fr.refl X w)
  have LE0 := Lib.hid (show Le H H0 by rw [hH0]; exact Le.refl H)
  rw [← hst0, ← hx0] at EQ0
  rw [show Calls Tryz.prog 150 #[.pointer (some ⟨r, 0, none⟩), .pointer (some ⟨b, 0, none⟩), .int .i64 k] w = Calls Tryz.prog 150 #[.pointer (some ⟨r, 0, none⟩), .pointer (some ⟨b, 0, none⟩), .int .i64 k] w0 by rw [hw0]]
  clear hf hT h0 hw0 hx0 hst0 hH0
  go_enter Tryz.func150, Tryz.ntmps150
  go_wp2_with fail
  refine (must_c NX FL k IP0.out.rd (fun e => FU.out (EQ0.out.trans (bind_bad e)))).mono ?_
  intro e w1 hp
  rcases hp.elimG with ⟨a1, st1, v1, H1, hr, rfl, le, hR, hv, hfr⟩ | ⟨p, why, hr, rfl, hfr⟩
  rotate_left
  · have EQp := Lib.hid (EQ0.out.trans (bind_bad hr))
    have FRp := Lib.hid (FR0.out.trans hfr.unloc)
    clear hfr hr hp
    go_wp2_with fail
    exact ⟨rfl, Post.stop EQp.out FRp.out⟩
  obtain rfl : v1 = .tuple #[] := hv
  have IP1 := Lib.hid (IP0.out.call hR le hfr)
  have FR1 := Lib.hid (FR0.out.trans hfr.unloc)
  have LE1 := Lib.hid (LE0.out.trans le)
  have EQ1 := Lib.hid (EQ0.out.trans (bind_ok hr))
  clear hR hfr le hr hp
  go_upto_region 1 with (fail)
  have e2 : w1.cell? ⟨b, 15, none⟩ = some s0.ev := cell_of_blk IP1.out.blk 15
  have HEX := Lib.hid (expr_c n _ _ _ _ _ _ w1.drew 0 IP1.out.rd.drew (fun e => FU.out (EQ1.out.trans (more_bad e))))
  obtain ⟨X1, hX1⟩ : ∃ X1, X1 = Loc X b s0.ev := ⟨_, rfl⟩
  cases hre : expr src n 0 st1 with
  | bad hb =>
    cases hb with
    | fuel => exact absurd (EQ1.out.trans (more_bad hre)) FU.out
    | stop p why =>
    have HEXP := Lib.hid (HEX.out.mono (R' := fun e w' => e = .panicked [{ v := haltV p why, recovered := false }] ∧ Fr X w w') (fun e w' hp => by
      rw [hre] at hp
      exact ⟨hp.1, FR1.out.trans ((Fr.drewOn X w1).trans hp.2.unloc)⟩))
    have EQp := Lib.hid (EQ1.out.trans (more_bad hre))
    clear hre HEX
    refine wp_region_any (by kernel_rfl) ?_
    try (change wpAny _ _ _ _ _ _ _ (World.drew _))
    refine wpAny_take (i := 0) (v := ?_) rfl (by kernel_rfl) (by kernel_rfl) (by kernel_rfl) (fun _ _ _ h => h) (Or.inl ⟨by rfl, by intro w; go_simp; with_reducible rfl⟩) ?_
    refine wpAny_take (i := 1) (v := ?_) rfl (by kernel_rfl) (by kernel_rfl) (by kernel_rfl) (fun _ _ _ h => h) (Or.inl ⟨by rfl, by intro w; go_simp; with_reducible rfl⟩) ?_
    refine wpAny_take (i := 2) (v := ?_) rfl (by kernel_rfl) (by kernel_rfl) (by kernel_rfl) (fun _ _ _ h => h) (Or.inl ⟨by rfl, by intro w; go_simp; with_reducible rfl⟩) ?_
    refine wpAny_take (i := 3) (v := ?_) rfl (by kernel_rfl) (by kernel_rfl) (by kernel_rfl) (fun _ _ _ h => h) (Or.inl ⟨by rfl, by intro w; go_simp; with_reducible rfl⟩) ?_
    refine wpAny_take (i := 5) (v := ?_) rfl (by kernel_rfl) (by kernel_rfl) (by kernel_rfl) (fun _ _ _ h => h) (Or.inl ⟨by rfl, by intro w; go_simp; with_reducible rfl⟩) ?_
    refine wpAny_ready (rs := [4, 6]) (by kernel_rfl) (by simp) ?_
    refine AllReady.cons rfl (fun K hK => ?_) (AllReady.cons rfl (fun K hK => ?_) AllReady.nil)
    · go_simp
      refine hK _ _ ?_
      clear hK K
      refine wpAny_ready (rs := [6]) (by kernel_rfl) (by simp) ?_
      refine AllReady.cons rfl (fun K hK => ?_) AllReady.nil
      · go_simp
        go_at_call 110
        refine HEXP.out.mono ?_
        rintro e wJ ⟨rfl, FRp⟩
        exact ⟨rfl, Post.stop EQp.out FRp⟩
    · go_simp
      go_at_call 110
      refine HEXP.out.mono ?_
      rintro e wJ ⟨rfl, FRp⟩
      exact ⟨rfl, Post.stop EQp.out FRp⟩
  | ok a2 st2 =>
    have hl : x0.e.length < most := Decidable.byContradiction fun hn => FU.out (EQ1.out.trans (more_few hre hn))
    have hl' : x0.e.length < 1073741824 := hl
    have EQ2 := Lib.hid (EQ1.out.trans (more_ok hre hl))
    have HEX2 := Lib.hid (HEX.out.mono (R' := fun e w' => ∃ HJ, e = .returned (.int .i64 a2) ∧ Le H1 HJ ∧ RdOK (Loc X b s0.ev) HJ w' r sv src st2 ∧ Fr (Loc X b s0.ev) w1.drew w') (fun e w' hp => by
      rw [hre] at hp
      obtain ⟨v, HJ, h1, h2, h3, h4, h5⟩ := Post.okG hp
      obtain rfl : v = .int .i64 a2 := h4
      exact ⟨HJ, h1, h2, h3, h5⟩))
    obtain ⟨i0, hi0, hz0, hz1, hz2⟩ := info_parts info3
    have hlb : b < w1.heap.size := IP1.out.lt
    clear hre HEX hl
    go_region_law (first
      | (go_simp; go_at_call 110; refine HEX2.out.mono ?_; rintro e wJ ⟨HJ, rfl, hleJ, hRJ, hfrJ⟩; have e2' : wJ.cell? ⟨b, 15, none⟩ = some s0.ev := (World.cell?_of_block (w := w1) (a := ⟨b, 15, none⟩) (hfrJ.block b (.inr (.inl rfl)))).trans e2; have hlJ : b < wJ.heap.size := Nat.lt_of_lt_of_le hlb hfrJ.size; have e2'' : (wJ.alloc (Obj.cells #[.int .i64 a2] 3)).cell? ⟨b, 15, none⟩ = some s0.ev := (World.cell?_of_block (w := wJ) (a := ⟨b, 15, none⟩) (heap_alloc_old wJ _ hlJ)).trans e2')
      | (refine step_append_lies _ (by rfl) _ _ _ (by rfl) 0 3 i0 _ 1 8 Tryz.underlying22 hi0 hz0 hz1 hz2 rfl (by omega) s0.ev x0.e.length (ints x0.e) (by rfl) (((IP1.out.drew.call hRJ hleJ hfrJ).erow).alloc _)
          ⟨wJ.heap.size, 0, none⟩ 1 1 [.int .i64 a2] (by rfl) (by rfl) (World.news_of_block (cs := #[.int .i64 a2]) (t := 3) (fr := (0, 0)) (heap_alloc_new wJ _)) (by simp [Value.oneCell'])
          (by omega) (by unfold maxLen; omega) (by omega) (by simp) (wJ.heap.size + 1) (by simp) ?_; intro gg cap wG hownG hgrow hat hltG;
          have g2 : wG.frozen? ⟨b, 15, none⟩ = false := (World.frozen?_of_block (w := wJ) (a := ⟨b, 15, none⟩) (grown_block hgrow (IP1.out.drew.call hRJ hleJ hfrJ).lt (IP1.out.drew.call hRJ hleJ hfrJ).eb)).trans (free_of_blk (IP1.out.drew.call hRJ hleJ hfrJ).blk 15);
          have k2 : wG.cell? ⟨b, 15, none⟩ = some s0.ev := (World.cell?_of_block (w := wJ) (a := ⟨b, 15, none⟩) (grown_block hgrow (IP1.out.drew.call hRJ hleJ hfrJ).lt (IP1.out.drew.call hRJ hleJ hfrJ).eb)).trans e2'))
    all_goals
      have IPJ := (IP1.out.drew.call hRJ hleJ hfrJ).alloc (.cells #[.int .i64 a2] 3)
      obtain ⟨IPG, f6⟩ := IPJ.grow (k := a2) hgrow hownG (by
        rcases hat with e | e
        · exact .inl (by rw [e]; rfl)
        · exact .inr ⟨gg, by simp; omega, rfl⟩)
      have f7 := (((Fr.drewOn X w1).trans hfrJ.unloc).trans ((Fr.refl X wJ).alloc (IP1.out.drew.call hRJ hleJ hfrJ).xlt (.cells #[.int .i64 a2] 3))).trans f6
      go_wp2_with fail
      go_end0
      exact Post.ok (EQ2.out.trans rfl) ⟨HJ, _, LE1.out.trans hleJ, ⟨_, IPG⟩, rfl, rfl⟩ (FR1.out.trans f7)

set_option maxRecDepth 100000 in
set_option maxHeartbeats 4000000 in
theorem ends_c (n : Nat) (h : ItOK X H w r sv src st b x) (hf : ends src n x st ≠ .bad .fuel) :
    Calls Tryz.prog 155 #[.pointer (some ⟨r, 0, none⟩), .pointer (some ⟨b, 0, none⟩)] w (Post X w (ends src n x st) (GoodI iU X H r sv src b)) := by
  obtain ⟨T, hT⟩ : ∃ T, T = ends src n x st := ⟨_, rfl⟩
  rw [← hT]
  have FU := Lib.hid (show T ≠ .bad .fuel by rw [hT]; exact hf)
  have EQ0 := Lib.hid hT
  have NX := Lib.hid next_c
  have FL := Lib.hid fail_c
  obtain ⟨s0, h0⟩ := h
  have IP0 := Lib.hid h0
  obtain ⟨w0, hw0⟩ : ∃ w0, w0 = w := ⟨_, rfl⟩
  obtain ⟨x0, hx0⟩ : ∃ x0, x0 = x := ⟨_, rfl⟩
  obtain ⟨st0, hst0⟩ : ∃ st0, st0 = st := ⟨_, rfl⟩
  obtain ⟨H0, hH0⟩ : ∃ H0, H0 = H := ⟨_, rfl⟩
  rw [← hx0, ← hw0, ← hst0, ← hH0] at IP0
  have FR0 := Lib.hid (show Fr X w w0 by rw [hw0]; exact Fr.refl X w)
  have LE0 := Lib.hid (show Le H H0 by rw [hH0]; exact Le.refl H)
  rw [← hst0, ← hx0] at EQ0
  rw [show Calls Tryz.prog 155 #[.pointer (some ⟨r, 0, none⟩), .pointer (some ⟨b, 0, none⟩)] w = Calls Tryz.prog 155 #[.pointer (some ⟨r, 0, none⟩), .pointer (some ⟨b, 0, none⟩)] w0 by rw [hw0]]
  clear hf hT h0 hw0 hx0 hst0 hH0
  go_enter Tryz.func155, Tryz.ntmps155
  go_wp2_with fail
  refine (ref_c n IP0.out.rd (fun e => FU.out (EQ0.out.trans (bind_bad e)))).mono ?_
  intro e w1 hp
  rcases hp.elimG with ⟨a1, st1, v1, H1, hr, rfl, le, hR, hv, hfr⟩ | ⟨p, why, hr, rfl, hfr⟩
  rotate_left
  · have EQp := Lib.hid (EQ0.out.trans (bind_bad hr))
    have FRp := Lib.hid (FR0.out.trans hfr.unloc)
    clear hfr hr hp
    go_wp2_with fail
    exact ⟨rfl, Post.stop EQp.out FRp.out⟩
  obtain ⟨i1, rfl, hi1⟩ := hv
  have IP1 := Lib.hid (IP0.out.call hR le hfr)
  have FR1 := Lib.hid (FR0.out.trans hfr.unloc)
  have LE1 := Lib.hid (LE0.out.trans le)
  have EQ1 := Lib.hid (EQ0.out.trans (bind_ok hr))
  clear hR hfr le hr hp
  obtain ⟨ia1, il1, ic1, hsl⟩ := FInts.slice hi1
  subst hsl
  have g0 : w1.cell? ⟨b, 2, none⟩ = some (str x0.name.word) := cell_of_blk IP1.out.blk 2
  have g1 : w1.cell? ⟨b, 3, none⟩ = some (.int .i64 x0.name.at_) := cell_of_blk IP1.out.blk 3
  have g2 : w1.cell? ⟨b, 4, none⟩ = some s0.nv := cell_of_blk IP1.out.blk 4
  have q0 := free_of_blk IP1.out.blk 2
  have q1 := free_of_blk IP1.out.blk 3
  have q2 := free_of_blk IP1.out.blk 4
  obtain ⟨hI, hfr⟩ := IP1.out.put_name hi1
  have IP2 := Lib.hid hI
  have FR2 := Lib.hid (FR1.out.trans hfr)
  have LE2 := Lib.hid LE1.out
  have EQ2 := Lib.hid EQ1.out
  obtain ⟨w2, hw⟩ : ∃ w2, w2 = ((w1.setCell ⟨b, 2, none⟩ (.string ⟨a1.word.toArray⟩)).setCell ⟨b, 3, none⟩ (.int .i64 a1.at_)).setCell ⟨b, 4, none⟩ (.slice ia1 il1 ic1) := ⟨_, rfl⟩
  have hw' : w2 = ((w1.setCell ⟨b, 2, none⟩ (str a1.word)).setCell ⟨b, 3, none⟩ (.int .i64 a1.at_)).setCell ⟨b, 4, none⟩ (.slice ia1 il1 ic1) := hw
  rw [← hw'] at IP2 FR2
  clear hw'
  obtain ⟨x2, hx2⟩ : ∃ x2, x2 = { x0 with name := a1 } := ⟨_, rfl⟩
  rw [← hx2] at IP2
  obtain ⟨s2, hs⟩ : ∃ s2, s2 = { s0 with nv := (.slice ia1 il1 ic1) } := ⟨_, rfl⟩
  rw [← hs] at IP2
  have HX2 := Lib.hid hx2
  clear hI hfr hs hx2
  go_wp2_with fail
  rw [← hw]
  clear hw g0 g1 g2 q0 q1 q2
  refine (must_c NX FL 60 IP2.out.rd (fun e => FU.out (EQ2.out.trans (bind_bad e)))).mono ?_
  intro e w3 hp
  rcases hp.elimG with ⟨a3, st3, v3, H3, hr, rfl, le, hR, hv, hfr⟩ | ⟨p, why, hr, rfl, hfr⟩
  rotate_left
  · have EQp := Lib.hid (EQ2.out.trans (bind_bad hr))
    have FRp := Lib.hid (FR2.out.trans hfr.unloc)
    clear hfr hr hp
    go_wp2_with fail
    exact ⟨rfl, Post.stop EQp.out FRp.out⟩
  obtain rfl : v3 = .tuple #[] := hv
  have IP3 := Lib.hid (IP2.out.call hR le hfr)
  have FR3 := Lib.hid (FR2.out.trans hfr.unloc)
  have LE3 := Lib.hid (LE2.out.trans le)
  have EQ3 := Lib.hid (EQ2.out.trans (bind_ok hr))
  clear hR hfr le hr hp
  go_wp2_with fail
  refine (ref_c n IP3.out.rd (fun e => FU.out (EQ3.out.trans (bind_bad e)))).mono ?_
  intro e w4 hp
  rcases hp.elimG with ⟨a4, st4, v4, H4, hr, rfl, le, hR, hv, hfr⟩ | ⟨p, why, hr, rfl, hfr⟩
  rotate_left
  · have EQp := Lib.hid (EQ3.out.trans (bind_bad hr))
    have FRp := Lib.hid (FR3.out.trans hfr.unloc)
    clear hfr hr hp
    go_wp2_with fail
    exact ⟨rfl, Post.stop EQp.out FRp.out⟩
  obtain ⟨i4, rfl, hi4⟩ := hv
  have IP4 := Lib.hid (IP3.out.call hR le hfr)
  have FR4 := Lib.hid (FR3.out.trans hfr.unloc)
  have LE4 := Lib.hid (LE3.out.trans le)
  have EQ4 := Lib.hid (EQ3.out.trans (bind_ok hr))
  clear hR hfr le hr hp
  obtain ⟨ia4, il4, ic4, hsl⟩ := FInts.slice hi4
  subst hsl
  have g0 : w4.cell? ⟨b, 5, none⟩ = some (str x2.frm.word) := cell_of_blk IP4.out.blk 5
  have g1 : w4.cell? ⟨b, 6, none⟩ = some (.int .i64 x2.frm.at_) := cell_of_blk IP4.out.blk 6
  have g2 : w4.cell? ⟨b, 7, none⟩ = some s2.fv := cell_of_blk IP4.out.blk 7
  have q0 := free_of_blk IP4.out.blk 5
  have q1 := free_of_blk IP4.out.blk 6
  have q2 := free_of_blk IP4.out.blk 7
  obtain ⟨hI, hfr⟩ := IP4.out.put_frm hi4
  have IP5 := Lib.hid hI
  have FR5 := Lib.hid (FR4.out.trans hfr)
  have LE5 := Lib.hid LE4.out
  have EQ5 := Lib.hid EQ4.out
  obtain ⟨w5, hw⟩ : ∃ w5, w5 = ((w4.setCell ⟨b, 5, none⟩ (.string ⟨a4.word.toArray⟩)).setCell ⟨b, 6, none⟩ (.int .i64 a4.at_)).setCell ⟨b, 7, none⟩ (.slice ia4 il4 ic4) := ⟨_, rfl⟩
  have hw' : w5 = ((w4.setCell ⟨b, 5, none⟩ (str a4.word)).setCell ⟨b, 6, none⟩ (.int .i64 a4.at_)).setCell ⟨b, 7, none⟩ (.slice ia4 il4 ic4) := hw
  rw [← hw'] at IP5 FR5
  clear hw'
  obtain ⟨x5, hx5⟩ : ∃ x5, x5 = { x2 with frm := a4 } := ⟨_, rfl⟩
  rw [← hx5] at IP5
  obtain ⟨s5, hs⟩ : ∃ s5, s5 = { s2 with fv := (.slice ia4 il4 ic4) } := ⟨_, rfl⟩
  rw [← hs] at IP5
  have HX5 := Lib.hid hx5
  clear hI hfr hs hx5
  go_wp2_with fail
  rw [← hw]
  clear hw g0 g1 g2 q0 q1 q2
  refine (must_c NX FL 61 IP5.out.rd (fun e => FU.out (EQ5.out.trans (bind_bad e)))).mono ?_
  intro e w6 hp
  rcases hp.elimG with ⟨a6, st6, v6, H6, hr, rfl, le, hR, hv, hfr⟩ | ⟨p, why, hr, rfl, hfr⟩
  rotate_left
  · have EQp := Lib.hid (EQ5.out.trans (bind_bad hr))
    have FRp := Lib.hid (FR5.out.trans hfr.unloc)
    clear hfr hr hp
    go_wp2_with fail
    exact ⟨rfl, Post.stop EQp.out FRp.out⟩
  obtain rfl : v6 = .tuple #[] := hv
  have IP6 := Lib.hid (IP5.out.call hR le hfr)
  have FR6 := Lib.hid (FR5.out.trans hfr.unloc)
  have LE6 := Lib.hid (LE5.out.trans le)
  have EQ6 := Lib.hid (EQ5.out.trans (bind_ok hr))
  clear hR hfr le hr hp
  go_wp2_with fail
  refine (ref_c n IP6.out.rd (fun e => FU.out (EQ6.out.trans (bind_bad e)))).mono ?_
  intro e w7 hp
  rcases hp.elimG with ⟨a7, st7, v7, H7, hr, rfl, le, hR, hv, hfr⟩ | ⟨p, why, hr, rfl, hfr⟩
  rotate_left
  · have EQp := Lib.hid (EQ6.out.trans (bind_bad hr))
    have FRp := Lib.hid (FR6.out.trans hfr.unloc)
    clear hfr hr hp
    go_wp2_with fail
    exact ⟨rfl, Post.stop EQp.out FRp.out⟩
  obtain ⟨i7, rfl, hi7⟩ := hv
  have IP7 := Lib.hid (IP6.out.call hR le hfr)
  have FR7 := Lib.hid (FR6.out.trans hfr.unloc)
  have LE7 := Lib.hid (LE6.out.trans le)
  have EQ7 := Lib.hid (EQ6.out.trans (bind_ok hr))
  clear hR hfr le hr hp
  obtain ⟨ia7, il7, ic7, hsl⟩ := FInts.slice hi7
  subst hsl
  have g0 : w7.cell? ⟨b, 8, none⟩ = some (str x5.to_.word) := cell_of_blk IP7.out.blk 8
  have g1 : w7.cell? ⟨b, 9, none⟩ = some (.int .i64 x5.to_.at_) := cell_of_blk IP7.out.blk 9
  have g2 : w7.cell? ⟨b, 10, none⟩ = some s5.tv := cell_of_blk IP7.out.blk 10
  have q0 := free_of_blk IP7.out.blk 8
  have q1 := free_of_blk IP7.out.blk 9
  have q2 := free_of_blk IP7.out.blk 10
  obtain ⟨hI, hfr⟩ := IP7.out.put_to_ hi7
  have IP8 := Lib.hid hI
  have FR8 := Lib.hid (FR7.out.trans hfr)
  have LE8 := Lib.hid LE7.out
  have EQ8 := Lib.hid EQ7.out
  obtain ⟨w8, hw⟩ : ∃ w8, w8 = ((w7.setCell ⟨b, 8, none⟩ (.string ⟨a7.word.toArray⟩)).setCell ⟨b, 9, none⟩ (.int .i64 a7.at_)).setCell ⟨b, 10, none⟩ (.slice ia7 il7 ic7) := ⟨_, rfl⟩
  have hw' : w8 = ((w7.setCell ⟨b, 8, none⟩ (str a7.word)).setCell ⟨b, 9, none⟩ (.int .i64 a7.at_)).setCell ⟨b, 10, none⟩ (.slice ia7 il7 ic7) := hw
  rw [← hw'] at IP8 FR8
  clear hw'
  obtain ⟨x8, hx8⟩ : ∃ x8, x8 = { x5 with to_ := a7 } := ⟨_, rfl⟩
  rw [← hx8] at IP8
  obtain ⟨s8, hs⟩ : ∃ s8, s8 = { s5 with tv := (.slice ia7 il7 ic7) } := ⟨_, rfl⟩
  rw [← hs] at IP8
  have HX8 := Lib.hid hx8
  clear hI hfr hs hx8
  go_wp2_with fail
  rw [← hw]
  clear hw g0 g1 g2 q0 q1 q2
  go_end0
  exact Post.ok (EQ8.out.trans rfl) ⟨H7, x8, LE8.out, ⟨_, IP8.out⟩, by first | rfl | simp only [HX8.out, HX5.out, HX2.out], rfl⟩ FR8.out

set_option maxRecDepth 100000 in
set_option maxHeartbeats 4000000 in
theorem flag_c (k f : Int) (h : ItOK X H w r sv src st b x) (hk : 0 ≤ f ∧ f < 9223372036854775808) (hf : flag src x k f st ≠ .bad .fuel) :
    Calls Tryz.prog 152 #[.pointer (some ⟨r, 0, none⟩), .pointer (some ⟨b, 0, none⟩), .int .i64 k, .int .i64 f] w (Post X w (flag src x k f st) (GoodI iB X H r sv src b)) := by
  obtain ⟨T, hT⟩ : ∃ T, T = flag src x k f st := ⟨_, rfl⟩
  rw [← hT]
  have FU := Lib.hid (show T ≠ .bad .fuel by rw [hT]; exact hf)
  have EQ0 := Lib.hid hT
  have NX := Lib.hid next_c
  have FL := Lib.hid fail_c
  obtain ⟨s0, h0⟩ := h
  have IP0 := Lib.hid h0
  obtain ⟨w0, hw0⟩ : ∃ w0, w0 = w := ⟨_, rfl⟩
  obtain ⟨x0, hx0⟩ : ∃ x0, x0 = x := ⟨_, rfl⟩
  obtain ⟨st0, hst0⟩ : ∃ st0, st0 = st := ⟨_, rfl⟩
  obtain ⟨H0, hH0⟩ : ∃ H0, H0 = H := ⟨_, rfl⟩
  rw [← hx0, ← hw0, ← hst0, ← hH0] at IP0
  have FR0 := Lib.hid (show Fr X w w0 by rw [hw0]; exact Fr.refl X w)
  have LE0 := Lib.hid (show Le H H0 by rw [hH0]; exact Le.refl H)
  rw [← hst0, ← hx0] at EQ0
  rw [show Calls Tryz.prog 152 #[.pointer (some ⟨r, 0, none⟩), .pointer (some ⟨b, 0, none⟩), .int .i64 k, .int .i64 f] w = Calls Tryz.prog 152 #[.pointer (some ⟨r, 0, none⟩), .pointer (some ⟨b, 0, none⟩), .int .i64 k, .int .i64 f] w0 by rw [hw0]]
  clear hf hT h0 hw0 hx0 hst0 hH0
  go_enter Tryz.func152, Tryz.ntmps152
  go_wp2_with fail
  refine (take_c NX k IP0.out.rd (fun e => FU.out (EQ0.out.trans (bind_bad e)))).mono ?_
  intro e w1 hp
  rcases hp.elimG with ⟨a1, st1, v1, H1, hr, rfl, le, hR, hv, hfr⟩ | ⟨p, why, hr, rfl, hfr⟩
  rotate_left
  · have EQp := Lib.hid (EQ0.out.trans (bind_bad hr))
    have FRp := Lib.hid (FR0.out.trans hfr.unloc)
    clear hfr hr hp
    go_wp2_with fail
    exact ⟨rfl, Post.stop EQp.out FRp.out⟩
  obtain rfl : v1 = .bool a1 := hv
  have IP1 := Lib.hid (IP0.out.call hR le hfr)
  have FR1 := Lib.hid (FR0.out.trans hfr.unloc)
  have LE1 := Lib.hid (LE0.out.trans le)
  have EQ1 := Lib.hid (EQ0.out.trans (bind_ok hr))
  clear hR hfr le hr hp
  cases a1 with
  | false =>
    go_wp2_with fail
    go_ret
    exact Post.ok (EQ1.out.trans rfl) ⟨H1, x0, LE1.out, ⟨_, IP1.out⟩, rfl, rfl⟩ FR1.out
  | true =>
    have g0 : w1.cell? ⟨b, 16, none⟩ = some (.int .i64 x0.flags) := cell_of_blk IP1.out.blk 16
    have q0 := free_of_blk IP1.out.blk 16
    go_wp2_with fail
    rw [bits_orF IP1.out.fl hk]
    go_ret
    obtain ⟨hI, hfr⟩ := IP1.out.put_flags _ (orF_fits IP1.out.fl hk)
    exact Post.ok (EQ1.out.trans rfl) ⟨H1, _, LE1.out, ⟨_, hI⟩, rfl, rfl⟩ (FR1.out.trans hfr)
end
end Go.Proofs.YtkaeceedofmhbaaGreatDoor
