/-
  syntax: runs, idle, needs, ram.
  Printed by gen/it.py and a script beside it.
-/
import Derived.Test.YtkaeceedofmhbaaGreatDoorGIt4
import Derived.Deep.RegionLaw
import Derived.Deep.DeepCutAuto
namespace Go.Proofs.YtkaeceedofmhbaaGreatDoor
open Go.RowKit Bk
attribute [local go_sem ↓] Go.wp_at_zero Go.wp_at_succ

set_option linter.unusedSimpArgs false
section
variable {X : Nat → Prop} {H : Frozen} {w : World} {r : Nat} {sv : Value} {src : Bytes} {st : St} {b : Nat} {x : ItemV}

set_option maxRecDepth 100000 in
set_option maxHeartbeats 4000000 in
theorem runs_c (n : Nat) (h : ItOK X H w r sv src st b x) (hf : runs src n x st ≠ .bad .fuel) :
    Calls Tryz.prog 196 #[.pointer (some ⟨r, 0, none⟩), .pointer (some ⟨b, 0, none⟩)] w (Post X w (runs src n x st) (GoodI iU X H r sv src b)) := by
  obtain ⟨T, hT⟩ : ∃ T, T = runs src n x st := ⟨_, rfl⟩
  rw [← hT]
  have FU := Lib.hid (show T ≠ .bad .fuel by rw [hT]; exact hf)
  have EQ0 := Lib.hid hT
  have NX := Lib.hid next_c
  have FL := Lib.hid fail_c
  obtain ⟨s0, h0⟩ := h
  have IP0 := Lib.hid h0
  obtain ⟨w0, hw0⟩ : ∃ w0, w0 = w := ⟨_, rfl⟩
  obtain ⟨x0, hx0⟩ : ∃ x0, x0 = x := ⟨_, rfl⟩
  obtain ⟨st0, hst0⟩ : ∃ st0, st0 = st := ⟨_, rfl⟩
  obtain ⟨H0, hH0⟩ : ∃ H0, H0 = H := ⟨_, rfl⟩
  rw [← hx0, ← hw0, ← hst0, ← hH0] at IP0
  have FR0 := Lib.hid (show Fr X w w0 by rw [hw0]; exact Fr.refl X w)
  have LE0 := Lib.hid (show Le H H0 by rw [hH0]; exact Le.refl H)
  rw [← hst0, ← hx0] at EQ0
  rw [show Calls Tryz.prog 196 #[.pointer (some ⟨r, 0, none⟩), .pointer (some ⟨b, 0, none⟩)] w = Calls Tryz.prog 196 #[.pointer (some ⟨r, 0, none⟩), .pointer (some ⟨b, 0, none⟩)] w0 by rw [hw0]]
  clear hf hT h0 hw0 hx0 hst0 hH0
  go_enter Tryz.func196, Tryz.ntmps196
  go_wp2_with fail
  refine (ref_c n IP0.out.rd (fun e => FU.out (EQ0.out.trans (bind_bad e)))).mono ?_
  intro e w1 hp
  rcases hp.elimG with ⟨a1, st1, v1, H1, hr, rfl, le, hR, hv, hfr⟩ | ⟨p, why, hr, rfl, hfr⟩
  rotate_left
  · have EQp := Lib.hid (EQ0.out.trans (bind_bad hr))
    have FRp := Lib.hid (FR0.out.trans hfr.unloc)
    clear hfr hr hp
    go_wp2_with fail
    exact ⟨rfl, Post.stop EQp.out FRp.out⟩
  obtain ⟨i1, rfl, hi1⟩ := hv
  have IP1 := Lib.hid (IP0.out.call hR le hfr)
  have FR1 := Lib.hid (FR0.out.trans hfr.unloc)
  have LE1 := Lib.hid (LE0.out.trans le)
  have EQ1 := Lib.hid (EQ0.out.trans (bind_ok hr))
  clear hR hfr le hr hp
  obtain ⟨ia1, il1, ic1, hsl⟩ := FInts.slice hi1
  subst hsl
  have g0 : w1.cell? ⟨b, 2, none⟩ = some (str x0.name.word) := cell_of_blk IP1.out.blk 2
  have g1 : w1.cell? ⟨b, 3, none⟩ = some (.int .i64 x0.name.at_) := cell_of_blk IP1.out.blk 3
  have g2 : w1.cell? ⟨b, 4, none⟩ = some s0.nv := cell_of_blk IP1.out.blk 4
  have q0 := free_of_blk IP1.out.blk 2
  have q1 := free_of_blk IP1.out.blk 3
  have q2 := free_of_blk IP1.out.blk 4
  obtain ⟨hI, hfr⟩ := IP1.out.put_name hi1
  have IP2 := Lib.hid hI
  have FR2 := Lib.hid (FR1.out.trans hfr)
  have LE2 := Lib.hid LE1.out
  have EQ2 := Lib.hid EQ1.out
  obtain ⟨w2, hw⟩ : ∃ w2, w2 = ((w1.setCell ⟨b, 2, none⟩ (.string ⟨a1.word.toArray⟩)).setCell ⟨b, 3, none⟩ (.int .i64 a1.at_)).setCell ⟨b, 4, none⟩ (.slice ia1 il1 ic1) := ⟨_, rfl⟩
  have hw' : w2 = ((w1.setCell ⟨b, 2, none⟩ (str a1.word)).setCell ⟨b, 3, none⟩ (.int .i64 a1.at_)).setCell ⟨b, 4, none⟩ (.slice ia1 il1 ic1) := hw
  rw [← hw'] at IP2 FR2
  clear hw'
  obtain ⟨x2, hx2⟩ : ∃ x2, x2 = { x0 with name := a1 } := ⟨_, rfl⟩
  rw [← hx2] at IP2
  obtain ⟨s2, hs⟩ : ∃ s2, s2 = { s0 with nv := (.slice ia1 il1 ic1) } := ⟨_, rfl⟩
  rw [← hs] at IP2
  have HX2 := Lib.hid hx2
  clear hI hfr hs hx2
  go_wp2_with fail
  rw [← hw]
  clear hw g0 g1 g2 q0 q1 q2
  have hE := EQ2.out
  try dsimp only at hE
  rw [← HX2.out] at hE
  have EQ2 := Lib.hid hE
  clear hE
  go_upto_region 1 with (fail)
  have e2 : w2.cell? ⟨b, 15, none⟩ = some s2.ev := cell_of_blk IP2.out.blk 15
  have HEX := Lib.hid (expr_c n _ _ _ _ _ _ w2.drew 0 IP2.out.rd.drew (fun e => FU.out (EQ2.out.trans (bind_bad (more_bad e)))))
  obtain ⟨X1, hX1⟩ : ∃ X1, X1 = Loc X b s2.ev := ⟨_, rfl⟩
  cases hre : expr src n 0 st1 with
  | bad hb =>
    cases hb with
    | fuel => exact absurd (EQ2.out.trans (bind_bad (more_bad hre))) FU.out
    | stop p why =>
    have HEXP := Lib.hid (HEX.out.mono (R' := fun e w' => e = .panicked [{ v := haltV p why, recovered := false }] ∧ Fr X w w') (fun e w' hp => by
      rw [hre] at hp
      exact ⟨hp.1, FR2.out.trans ((Fr.drewOn X w2).trans hp.2.unloc)⟩))
    have EQp := Lib.hid (EQ2.out.trans (bind_bad (more_bad hre)))
    clear hre HEX
    refine wp_region_any (by kernel_rfl) ?_
    try (change wpAny _ _ _ _ _ _ _ (World.drew _))
    refine wpAny_take (i := 0) (v := ?_) rfl (by kernel_rfl) (by kernel_rfl) (by kernel_rfl) (fun _ _ _ h => h) (Or.inl ⟨by rfl, by intro w; go_simp; with_reducible rfl⟩) ?_
    refine wpAny_take (i := 1) (v := ?_) rfl (by kernel_rfl) (by kernel_rfl) (by kernel_rfl) (fun _ _ _ h => h) (Or.inl ⟨by rfl, by intro w; go_simp; with_reducible rfl⟩) ?_
    refine wpAny_take (i := 2) (v := ?_) rfl (by kernel_rfl) (by kernel_rfl) (by kernel_rfl) (fun _ _ _ h => h) (Or.inl ⟨by rfl, by intro w; go_simp; with_reducible rfl⟩) ?_
    refine wpAny_take (i := 3) (v := ?_) rfl (by kernel_rfl) (by kernel_rfl) (by kernel_rfl) (fun _ _ _ h => h) (Or.inl ⟨by rfl, by intro w; go_simp; with_reducible rfl⟩) ?_
    refine wpAny_take (i := 5) (v := ?_) rfl (by kernel_rfl) (by kernel_rfl) (by kernel_rfl) (fun _ _ _ h => h) (Or.inl ⟨by rfl, by intro w; go_simp; with_reducible rfl⟩) ?_
    refine wpAny_ready (rs := [4, 6]) (by kernel_rfl) (by simp) ?_
    refine AllReady.cons rfl (fun K hK => ?_) (AllReady.cons rfl (fun K hK => ?_) AllReady.nil)
    · go_simp
      refine hK _ _ ?_
      clear hK K
      refine wpAny_ready (rs := [6]) (by kernel_rfl) (by simp) ?_
      refine AllReady.cons rfl (fun K hK => ?_) AllReady.nil
      · go_simp
        go_at_call 110
        refine HEXP.out.mono ?_
        rintro e wJ ⟨rfl, FRp⟩
        exact ⟨rfl, Post.stop EQp.out FRp⟩
    · go_simp
      go_at_call 110
      refine HEXP.out.mono ?_
      rintro e wJ ⟨rfl, FRp⟩
      exact ⟨rfl, Post.stop EQp.out FRp⟩
  | ok a3 st3 =>
    have hl : x2.e.length < most := Decidable.byContradiction fun hn => FU.out (EQ2.out.trans (bind_bad (more_few hre hn)))
    have hl' : x2.e.length < 1073741824 := hl
    have EQ3 := Lib.hid (EQ2.out.trans (bind_ok (more_ok hre hl)))
    have HEX2 := Lib.hid (HEX.out.mono (R' := fun e w' => ∃ HJ, e = .returned (.int .i64 a3) ∧ Le H1 HJ ∧ RdOK (Loc X b s2.ev) HJ w' r sv src st3 ∧ Fr (Loc X b s2.ev) w2.drew w') (fun e w' hp => by
      rw [hre] at hp
      obtain ⟨v, HJ, h1, h2, h3, h4, h5⟩ := Post.okG hp
      obtain rfl : v = .int .i64 a3 := h4
      exact ⟨HJ, h1, h2, h3, h5⟩))
    obtain ⟨i0, hi0, hz0, hz1, hz2⟩ := info_parts info3
    have hlb : b < w2.heap.size := IP2.out.lt
    clear hre HEX hl
    go_cut [] (fun wx => ∃ HJ sJ, ItP X HJ wx r sv src st3 b { x2 with e := x2.e ++ [a3] } sJ ∧ Fr X w2 wx ∧ Le H1 HJ)
    case first =>
      go_region_law (first
        | (go_simp; go_at_call 110; refine HEX2.out.mono ?_; rintro e wJ ⟨HJ, rfl, hleJ, hRJ, hfrJ⟩; have e2' : wJ.cell? ⟨b, 15, none⟩ = some s2.ev := (World.cell?_of_block (w := w2) (a := ⟨b, 15, none⟩) (hfrJ.block b (.inr (.inl rfl)))).trans e2; have hlJ : b < wJ.heap.size := Nat.lt_of_lt_of_le hlb hfrJ.size; have e2'' : (wJ.alloc (Obj.cells #[.int .i64 a3] 3)).cell? ⟨b, 15, none⟩ = some s2.ev := (World.cell?_of_block (w := wJ) (a := ⟨b, 15, none⟩) (heap_alloc_old wJ _ hlJ)).trans e2')
        | (refine step_append_lies _ (by rfl) _ _ _ (by rfl) 0 3 i0 _ 1 8 Tryz.underlying22 hi0 hz0 hz1 hz2 rfl (by omega) s2.ev x2.e.length (ints x2.e) (by rfl) (((IP2.out.drew.call hRJ hleJ hfrJ).erow).alloc _)
            ⟨wJ.heap.size, 0, none⟩ 1 1 [.int .i64 a3] (by rfl) (by rfl) (World.news_of_block (cs := #[.int .i64 a3]) (t := 3) (fr := (0, 0)) (heap_alloc_new wJ _)) (by simp [Value.oneCell'])
            (by omega) (by unfold maxLen; omega) (by omega) (by simp) (wJ.heap.size + 1) (by simp) ?_; intro gg cap wG hownG hgrow hat hltG;
            have g2 : wG.frozen? ⟨b, 15, none⟩ = false := (World.frozen?_of_block (w := wJ) (a := ⟨b, 15, none⟩) (grown_block hgrow (IP2.out.drew.call hRJ hleJ hfrJ).lt (IP2.out.drew.call hRJ hleJ hfrJ).eb)).trans (free_of_blk (IP2.out.drew.call hRJ hleJ hfrJ).blk 15);
            have k2 : wG.cell? ⟨b, 15, none⟩ = some s2.ev := (World.cell?_of_block (w := wJ) (a := ⟨b, 15, none⟩) (grown_block hgrow (IP2.out.drew.call hRJ hleJ hfrJ).lt (IP2.out.drew.call hRJ hleJ hfrJ).eb)).trans e2'))
      all_goals
        have IPJ := (IP2.out.drew.call hRJ hleJ hfrJ).alloc (.cells #[.int .i64 a3] 3)
        obtain ⟨IPG, f6⟩ := IPJ.grow (k := a3) hgrow hownG (by
          rcases hat with e | e
          · exact .inl (by rw [e]; rfl)
          · exact .inr ⟨gg, by simp; omega, rfl⟩)
        have f7 := (((Fr.drewOn X w2).trans hfrJ.unloc).trans ((Fr.refl X wJ).alloc (IP2.out.drew.call hRJ hleJ hfrJ).xlt (.cells #[.int .i64 a3] 3))).trans f6
        go_wp2_with fail
        go_meet
        exact ⟨HJ, _, IPG, f7, hleJ⟩
    case rest =>
      obtain ⟨H3, s3, hI, hfr, hle⟩ := hcut
      obtain ⟨w3, hw⟩ : ∃ w3, w3 = wc := ⟨_, rfl⟩
      rw [← hw] at hI hfr ⊢
      obtain ⟨x3, hx3⟩ : ∃ x3, x3 = { x2 with e := x2.e ++ [a3] } := ⟨_, rfl⟩
      rw [← hx3] at hI
      have hE := EQ3.out
      try dsimp only at hE
      rw [← hx3] at hE
      have EQ3 := Lib.hid hE
      clear hE
      have IP3 := Lib.hid hI
      have FR3 := Lib.hid (FR2.out.trans hfr)
      have LE3 := Lib.hid (LE2.out.trans hle)
      clear hI hfr hle hw e2 hl' hi0 hz0 hz1 hz2 hlb HEX2
      go_wp2_with fail
      refine (must_c NX FL 10 IP3.out.rd (fun e => FU.out (EQ3.out.trans (bind_bad e)))).mono ?_
      intro e w4 hp
      rcases hp.elimG with ⟨a4, st4, v4, H4, hr, rfl, le, hR, hv, hfr⟩ | ⟨p, why, hr, rfl, hfr⟩
      rotate_left
      · have EQp := Lib.hid (EQ3.out.trans (bind_bad hr))
        have FRp := Lib.hid (FR3.out.trans hfr.unloc)
        clear hfr hr hp
        go_wp2_with fail
        exact ⟨rfl, Post.stop EQp.out FRp.out⟩
      obtain rfl : v4 = .tuple #[] := hv
      have IP4 := Lib.hid (IP3.out.call hR le hfr)
      have FR4 := Lib.hid (FR3.out.trans hfr.unloc)
      have LE4 := Lib.hid (LE3.out.trans le)
      have EQ4 := Lib.hid (EQ3.out.trans (bind_ok hr))
      clear hR hfr le hr hp
      go_wp2_with fail
      go_end0
      exact Post.ok (EQ4.out.trans rfl) ⟨H4, x3, LE4.out, ⟨_, IP4.out⟩, by first | rfl | simp only [HX2.out], rfl⟩ FR4.out

set_option maxRecDepth 100000 in
set_option maxHeartbeats 4000000 in
theorem idle_c (n : Nat) (h : ItOK X H w r sv src st b x) (hf : idle src n x st ≠ .bad .fuel) :
    Calls Tryz.prog 197 #[.pointer (some ⟨r, 0, none⟩), .pointer (some ⟨b, 0, none⟩)] w (Post X w (idle src n x st) (GoodI iU X H r sv src b)) := by
  obtain ⟨T, hT⟩ : ∃ T, T = idle src n x st := ⟨_, rfl⟩
  rw [← hT]
  have FU := Lib.hid (show T ≠ .bad .fuel by rw [hT]; exact hf)
  have EQ0 := Lib.hid hT
  have NX := Lib.hid next_c
  have FL := Lib.hid fail_c
  obtain ⟨s0, h0⟩ := h
  have IP0 := Lib.hid h0
  obtain ⟨w0, hw0⟩ : ∃ w0, w0 = w := ⟨_, rfl⟩
  obtain ⟨x0, hx0⟩ : ∃ x0, x0 = x := ⟨_, rfl⟩
  obtain ⟨st0, hst0⟩ : ∃ st0, st0 = st := ⟨_, rfl⟩
  obtain ⟨H0, hH0⟩ : ∃ H0, H0 = H := ⟨_, rfl⟩
  rw [← hx0, ← hw0, ← hst0, ← hH0] at IP0
  have FR0 := Lib.hid (show Fr X w w0 by rw [hw0]; exact Fr.refl X w)
  have LE0 := Lib.hid (show Le H H0 by rw [hH0]; exact Le.refl H)
  rw [← hst0, ← hx0] at EQ0
  rw [show Calls Tryz.prog 197 #[.pointer (some ⟨r, 0, none⟩), .pointer (some ⟨b, 0, none⟩)] w = Calls Tryz.prog 197 #[.pointer (some ⟨r, 0, none⟩), .pointer (some ⟨b, 0, none⟩)] w0 by rw [hw0]]
  clear hf hT h0 hw0 hx0 hst0 hH0
  go_enter Tryz.func197, Tryz.ntmps197
  go_wp2_with fail
  go_upto_region 0 with (fail)
  have e2 : w0.cell? ⟨b, 15, none⟩ = some s0.ev := cell_of_blk IP0.out.blk 15
  have HEX := Lib.hid (expr_c n _ _ _ _ _ _ w0.drew 0 IP0.out.rd.drew (fun e => FU.out (EQ0.out.trans (bind_bad (more_bad e)))))
  obtain ⟨X1, hX1⟩ : ∃ X1, X1 = Loc X b s0.ev := ⟨_, rfl⟩
  cases hre : expr src n 0 st0 with
  | bad hb =>
    cases hb with
    | fuel => exact absurd (EQ0.out.trans (bind_bad (more_bad hre))) FU.out
    | stop p why =>
    have HEXP := Lib.hid (HEX.out.mono (R' := fun e w' => e = .panicked [{ v := haltV p why, recovered := false }] ∧ Fr X w w') (fun e w' hp => by
      rw [hre] at hp
      exact ⟨hp.1, FR0.out.trans ((Fr.drewOn X w0).trans hp.2.unloc)⟩))
    have EQp := Lib.hid (EQ0.out.trans (bind_bad (more_bad hre)))
    clear hre HEX
    refine wp_region_any (by kernel_rfl) ?_
    try (change wpAny _ _ _ _ _ _ _ (World.drew _))
    refine wpAny_take (i := 0) (v := ?_) rfl (by kernel_rfl) (by kernel_rfl) (by kernel_rfl) (fun _ _ _ h => h) (Or.inl ⟨by rfl, by intro w; go_simp; with_reducible rfl⟩) ?_
    refine wpAny_take (i := 1) (v := ?_) rfl (by kernel_rfl) (by kernel_rfl) (by kernel_rfl) (fun _ _ _ h => h) (Or.inl ⟨by rfl, by intro w; go_simp; with_reducible rfl⟩) ?_
    refine wpAny_take (i := 2) (v := ?_) rfl (by kernel_rfl) (by kernel_rfl) (by kernel_rfl) (fun _ _ _ h => h) (Or.inl ⟨by rfl, by intro w; go_simp; with_reducible rfl⟩) ?_
    refine wpAny_take (i := 3) (v := ?_) rfl (by kernel_rfl) (by kernel_rfl) (by kernel_rfl) (fun _ _ _ h => h) (Or.inl ⟨by rfl, by intro w; go_simp; with_reducible rfl⟩) ?_
    refine wpAny_take (i := 5) (v := ?_) rfl (by kernel_rfl) (by kernel_rfl) (by kernel_rfl) (fun _ _ _ h => h) (Or.inl ⟨by rfl, by intro w; go_simp; with_reducible rfl⟩) ?_
    refine wpAny_ready (rs := [4, 6]) (by kernel_rfl) (by simp) ?_
    refine AllReady.cons rfl (fun K hK => ?_) (AllReady.cons rfl (fun K hK => ?_) AllReady.nil)
    · go_simp
      refine hK _ _ ?_
      clear hK K
      refine wpAny_ready (rs := [6]) (by kernel_rfl) (by simp) ?_
      refine AllReady.cons rfl (fun K hK => ?_) AllReady.nil
      · go_simp
        go_at_call 110
        refine HEXP.out.mono ?_
        rintro e wJ ⟨rfl, FRp⟩
        exact ⟨rfl, Post.stop EQp.out FRp⟩
    · go_simp
      go_at_call 110
      refine HEXP.out.mono ?_
      rintro e wJ ⟨rfl, FRp⟩
      exact ⟨rfl, Post.stop EQp.out FRp⟩
  | ok a1 st1 =>
    have hl : x0.e.length < most := Decidable.byContradiction fun hn => FU.out (EQ0.out.trans (bind_bad (more_few hre hn)))
    have hl' : x0.e.length < 1073741824 := hl
    have EQ1 := Lib.hid (EQ0.out.trans (bind_ok (more_ok hre hl)))
    have HEX2 := Lib.hid (HEX.out.mono (R' := fun e w' => ∃ HJ, e = .returned (.int .i64 a1) ∧ Le H0 HJ ∧ RdOK (Loc X b s0.ev) HJ w' r sv src st1 ∧ Fr (Loc X b s0.ev) w0.drew w') (fun e w' hp => by
      rw [hre] at hp
      obtain ⟨v, HJ, h1, h2, h3, h4, h5⟩ := Post.okG hp
      obtain rfl : v = .int .i64 a1 := h4
      exact ⟨HJ, h1, h2, h3, h5⟩))
    obtain ⟨i0, hi0, hz0, hz1, hz2⟩ := info_parts info3
    have hlb : b < w0.heap.size := IP0.out.lt
    clear hre HEX hl
    go_cut [] (fun wx => ∃ HJ sJ, ItP X HJ wx r sv src st1 b { x0 with e := x0.e ++ [a1] } sJ ∧ Fr X w0 wx ∧ Le H0 HJ)
    case first =>
      go_region_law (first
        | (go_simp; go_at_call 110; refine HEX2.out.mono ?_; rintro e wJ ⟨HJ, rfl, hleJ, hRJ, hfrJ⟩; have e2' : wJ.cell? ⟨b, 15, none⟩ = some s0.ev := (World.cell?_of_block (w := w0) (a := ⟨b, 15, none⟩) (hfrJ.block b (.inr (.inl rfl)))).trans e2; have hlJ : b < wJ.heap.size := Nat.lt_of_lt_of_le hlb hfrJ.size; have e2'' : (wJ.alloc (Obj.cells #[.int .i64 a1] 3)).cell? ⟨b, 15, none⟩ = some s0.ev := (World.cell?_of_block (w := wJ) (a := ⟨b, 15, none⟩) (heap_alloc_old wJ _ hlJ)).trans e2')
        | (refine step_append_lies _ (by rfl) _ _ _ (by rfl) 0 3 i0 _ 1 8 Tryz.underlying22 hi0 hz0 hz1 hz2 rfl (by omega) s0.ev x0.e.length (ints x0.e) (by rfl) (((IP0.out.drew.call hRJ hleJ hfrJ).erow).alloc _)
            ⟨wJ.heap.size, 0, none⟩ 1 1 [.int .i64 a1] (by rfl) (by rfl) (World.news_of_block (cs := #[.int .i64 a1]) (t := 3) (fr := (0, 0)) (heap_alloc_new wJ _)) (by simp [Value.oneCell'])
            (by omega) (by unfold maxLen; omega) (by omega) (by simp) (wJ.heap.size + 1) (by simp) ?_; intro gg cap wG hownG hgrow hat hltG;
            have g2 : wG.frozen? ⟨b, 15, none⟩ = false := (World.frozen?_of_block (w := wJ) (a := ⟨b, 15, none⟩) (grown_block hgrow (IP0.out.drew.call hRJ hleJ hfrJ).lt (IP0.out.drew.call hRJ hleJ hfrJ).eb)).trans (free_of_blk (IP0.out.drew.call hRJ hleJ hfrJ).blk 15);
            have k2 : wG.cell? ⟨b, 15, none⟩ = some s0.ev := (World.cell?_of_block (w := wJ) (a := ⟨b, 15, none⟩) (grown_block hgrow (IP0.out.drew.call hRJ hleJ hfrJ).lt (IP0.out.drew.call hRJ hleJ hfrJ).eb)).trans e2'))
      all_goals
        have IPJ := (IP0.out.drew.call hRJ hleJ hfrJ).alloc (.cells #[.int .i64 a1] 3)
        obtain ⟨IPG, f6⟩ := IPJ.grow (k := a1) hgrow hownG (by
          rcases hat with e | e
          · exact .inl (by rw [e]; rfl)
          · exact .inr ⟨gg, by simp; omega, rfl⟩)
        have f7 := (((Fr.drewOn X w0).trans hfrJ.unloc).trans ((Fr.refl X wJ).alloc (IP0.out.drew.call hRJ hleJ hfrJ).xlt (.cells #[.int .i64 a1] 3))).trans f6
        go_wp2_with fail
        go_meet
        exact ⟨HJ, _, IPG, f7, hleJ⟩
    case rest =>
      obtain ⟨H1, s1, hI, hfr, hle⟩ := hcut
      obtain ⟨w1, hw⟩ : ∃ w1, w1 = wc := ⟨_, rfl⟩
      rw [← hw] at hI hfr ⊢
      obtain ⟨x1, hx1⟩ : ∃ x1, x1 = { x0 with e := x0.e ++ [a1] } := ⟨_, rfl⟩
      rw [← hx1] at hI
      have hE := EQ1.out
      try dsimp only at hE
      rw [← hx1] at hE
      have EQ1 := Lib.hid hE
      clear hE
      have IP1 := Lib.hid hI
      have FR1 := Lib.hid (FR0.out.trans hfr)
      have LE1 := Lib.hid (LE0.out.trans hle)
      clear hI hfr hle hw e2 hl' hi0 hz0 hz1 hz2 hlb HEX2
      go_wp2_with fail
      refine (must_c NX FL 10 IP1.out.rd (fun e => FU.out (EQ1.out.trans (bind_bad e)))).mono ?_
      intro e w2 hp
      rcases hp.elimG with ⟨a2, st2, v2, H2, hr, rfl, le, hR, hv, hfr⟩ | ⟨p, why, hr, rfl, hfr⟩
      rotate_left
      · have EQp := Lib.hid (EQ1.out.trans (bind_bad hr))
        have FRp := Lib.hid (FR1.out.trans hfr.unloc)
        clear hfr hr hp
        go_wp2_with fail
        exact ⟨rfl, Post.stop EQp.out FRp.out⟩
      obtain rfl : v2 = .tuple #[] := hv
      have IP2 := Lib.hid (IP1.out.call hR le hfr)
      have FR2 := Lib.hid (FR1.out.trans hfr.unloc)
      have LE2 := Lib.hid (LE1.out.trans le)
      have EQ2 := Lib.hid (EQ1.out.trans (bind_ok hr))
      clear hR hfr le hr hp
      go_wp2_with fail
      go_end0
      exact Post.ok (EQ2.out.trans rfl) ⟨H2, x1, LE2.out, ⟨_, IP2.out⟩, rfl, rfl⟩ FR2.out

set_option maxRecDepth 100000 in
set_option maxHeartbeats 4000000 in
theorem needs_c (n : Nat) (h : ItOK X H w r sv src st b x) (hf : needs src n x st ≠ .bad .fuel) :
    Calls Tryz.prog 195 #[.pointer (some ⟨r, 0, none⟩), .pointer (some ⟨b, 0, none⟩)] w (Post X w (needs src n x st) (GoodI iU X H r sv src b)) := by
  obtain ⟨T, hT⟩ : ∃ T, T = needs src n x st := ⟨_, rfl⟩
  rw [← hT]
  have FU := Lib.hid (show T ≠ .bad .fuel by rw [hT]; exact hf)
  have EQ0 := Lib.hid hT
  have NX := Lib.hid next_c
  have FL := Lib.hid fail_c
  obtain ⟨s0, h0⟩ := h
  have IP0 := Lib.hid h0
  obtain ⟨w0, hw0⟩ : ∃ w0, w0 = w := ⟨_, rfl⟩
  obtain ⟨x0, hx0⟩ : ∃ x0, x0 = x := ⟨_, rfl⟩
  obtain ⟨st0, hst0⟩ : ∃ st0, st0 = st := ⟨_, rfl⟩
  obtain ⟨H0, hH0⟩ : ∃ H0, H0 = H := ⟨_, rfl⟩
  rw [← hx0, ← hw0, ← hst0, ← hH0] at IP0
  have FR0 := Lib.hid (show Fr X w w0 by rw [hw0]; exact Fr.refl X w)
  have LE0 := Lib.hid (show Le H H0 by rw [hH0]; exact Le.refl H)
  rw [← hst0, ← hx0] at EQ0
  rw [show Calls Tryz.prog 195 #[.pointer (some ⟨r, 0, none⟩), .pointer (some ⟨b, 0, none⟩)] w = Calls Tryz.prog 195 #[.pointer (some ⟨r, 0, none⟩), .pointer (some ⟨b, 0, none⟩)] w0 by rw [hw0]]
  clear hf hT h0 hw0 hx0 hst0 hH0
  go_enter Tryz.func195, Tryz.ntmps195
  go_wp2_with fail
  refine (ref_c n IP0.out.rd (fun e => FU.out (EQ0.out.trans (bind_bad e)))).mono ?_
  intro e w1 hp
  rcases hp.elimG with ⟨a1, st1, v1, H1, hr, rfl, le, hR, hv, hfr⟩ | ⟨p, why, hr, rfl, hfr⟩
  rotate_left
  · have EQp := Lib.hid (EQ0.out.trans (bind_bad hr))
    have FRp := Lib.hid (FR0.out.trans hfr.unloc)
    clear hfr hr hp
    go_wp2_with fail
    exact ⟨rfl, Post.stop EQp.out FRp.out⟩
  obtain ⟨i1, rfl, hi1⟩ := hv
  have IP1 := Lib.hid (IP0.out.call hR le hfr)
  have FR1 := Lib.hid (FR0.out.trans hfr.unloc)
  have LE1 := Lib.hid (LE0.out.trans le)
  have EQ1 := Lib.hid (EQ0.out.trans (bind_ok hr))
  clear hR hfr le hr hp
  obtain ⟨ia1, il1, ic1, hsl⟩ := FInts.slice hi1
  subst hsl
  have g0 : w1.cell? ⟨b, 2, none⟩ = some (str x0.name.word) := cell_of_blk IP1.out.blk 2
  have g1 : w1.cell? ⟨b, 3, none⟩ = some (.int .i64 x0.name.at_) := cell_of_blk IP1.out.blk 3
  have g2 : w1.cell? ⟨b, 4, none⟩ = some s0.nv := cell_of_blk IP1.out.blk 4
  have q0 := free_of_blk IP1.out.blk 2
  have q1 := free_of_blk IP1.out.blk 3
  have q2 := free_of_blk IP1.out.blk 4
  obtain ⟨hI, hfr⟩ := IP1.out.put_name hi1
  have IP2 := Lib.hid hI
  have FR2 := Lib.hid (FR1.out.trans hfr)
  have LE2 := Lib.hid LE1.out
  have EQ2 := Lib.hid EQ1.out
  obtain ⟨w2, hw⟩ : ∃ w2, w2 = ((w1.setCell ⟨b, 2, none⟩ (.string ⟨a1.word.toArray⟩)).setCell ⟨b, 3, none⟩ (.int .i64 a1.at_)).setCell ⟨b, 4, none⟩ (.slice ia1 il1 ic1) := ⟨_, rfl⟩
  have hw' : w2 = ((w1.setCell ⟨b, 2, none⟩ (str a1.word)).setCell ⟨b, 3, none⟩ (.int .i64 a1.at_)).setCell ⟨b, 4, none⟩ (.slice ia1 il1 ic1) := hw
  rw [← hw'] at IP2 FR2
  clear hw'
  obtain ⟨x2, hx2⟩ : ∃ x2, x2 = { x0 with name := a1 } := ⟨_, rfl⟩
  rw [← hx2] at IP2
  obtain ⟨s2, hs⟩ : ∃ s2, s2 = { s0 with nv := (.slice ia1 il1 ic1) } := ⟨_, rfl⟩
  rw [← hs] at IP2
  have HX2 := Lib.hid hx2
  clear hI hfr hs hx2
  go_wp2_with fail
  rw [← hw]
  clear hw g0 g1 g2 q0 q1 q2
  have hE := EQ2.out
  try dsimp only at hE
  rw [← HX2.out] at hE
  have EQ2 := Lib.hid hE
  clear hE
  go_upto_region 1 with (fail)
  have e2 : w2.cell? ⟨b, 15, none⟩ = some s2.ev := cell_of_blk IP2.out.blk 15
  have HEX := Lib.hid (expr_c n _ _ _ _ _ _ w2.drew 0 IP2.out.rd.drew (fun e => FU.out (EQ2.out.trans (bind_bad (more_bad e)))))
  obtain ⟨X1, hX1⟩ : ∃ X1, X1 = Loc X b s2.ev := ⟨_, rfl⟩
  cases hre : expr src n 0 st1 with
  | bad hb =>
    cases hb with
    | fuel => exact absurd (EQ2.out.trans (bind_bad (more_bad hre))) FU.out
    | stop p why =>
    have HEXP := Lib.hid (HEX.out.mono (R' := fun e w' => e = .panicked [{ v := haltV p why, recovered := false }] ∧ Fr X w w') (fun e w' hp => by
      rw [hre] at hp
      exact ⟨hp.1, FR2.out.trans ((Fr.drewOn X w2).trans hp.2.unloc)⟩))
    have EQp := Lib.hid (EQ2.out.trans (bind_bad (more_bad hre)))
    clear hre HEX
    refine wp_region_any (by kernel_rfl) ?_
    try (change wpAny _ _ _ _ _ _ _ (World.drew _))
    refine wpAny_take (i := 0) (v := ?_) rfl (by kernel_rfl) (by kernel_rfl) (by kernel_rfl) (fun _ _ _ h => h) (Or.inl ⟨by rfl, by intro w; go_simp; with_reducible rfl⟩) ?_
    refine wpAny_take (i := 1) (v := ?_) rfl (by kernel_rfl) (by kernel_rfl) (by kernel_rfl) (fun _ _ _ h => h) (Or.inl ⟨by rfl, by intro w; go_simp; with_reducible rfl⟩) ?_
    refine wpAny_take (i := 2) (v := ?_) rfl (by kernel_rfl) (by kernel_rfl) (by kernel_rfl) (fun _ _ _ h => h) (Or.inl ⟨by rfl, by intro w; go_simp; with_reducible rfl⟩) ?_
    refine wpAny_take (i := 3) (v := ?_) rfl (by kernel_rfl) (by kernel_rfl) (by kernel_rfl) (fun _ _ _ h => h) (Or.inl ⟨by rfl, by intro w; go_simp; with_reducible rfl⟩) ?_
    refine wpAny_take (i := 5) (v := ?_) rfl (by kernel_rfl) (by kernel_rfl) (by kernel_rfl) (fun _ _ _ h => h) (Or.inl ⟨by rfl, by intro w; go_simp; with_reducible rfl⟩) ?_
    refine wpAny_ready (rs := [4, 6]) (by kernel_rfl) (by simp) ?_
    refine AllReady.cons rfl (fun K hK => ?_) (AllReady.cons rfl (fun K hK => ?_) AllReady.nil)
    · go_simp
      refine hK _ _ ?_
      clear hK K
      refine wpAny_ready (rs := [6]) (by kernel_rfl) (by simp) ?_
      refine AllReady.cons rfl (fun K hK => ?_) AllReady.nil
      · go_simp
        go_at_call 110
        refine HEXP.out.mono ?_
        rintro e wJ ⟨rfl, FRp⟩
        exact ⟨rfl, Post.stop EQp.out FRp⟩
    · go_simp
      go_at_call 110
      refine HEXP.out.mono ?_
      rintro e wJ ⟨rfl, FRp⟩
      exact ⟨rfl, Post.stop EQp.out FRp⟩
  | ok a3 st3 =>
    have hl : x2.e.length < most := Decidable.byContradiction fun hn => FU.out (EQ2.out.trans (bind_bad (more_few hre hn)))
    have hl' : x2.e.length < 1073741824 := hl
    have EQ3 := Lib.hid (EQ2.out.trans (bind_ok (more_ok hre hl)))
    have HEX2 := Lib.hid (HEX.out.mono (R' := fun e w' => ∃ HJ, e = .returned (.int .i64 a3) ∧ Le H1 HJ ∧ RdOK (Loc X b s2.ev) HJ w' r sv src st3 ∧ Fr (Loc X b s2.ev) w2.drew w') (fun e w' hp => by
      rw [hre] at hp
      obtain ⟨v, HJ, h1, h2, h3, h4, h5⟩ := Post.okG hp
      obtain rfl : v = .int .i64 a3 := h4
      exact ⟨HJ, h1, h2, h3, h5⟩))
    obtain ⟨i0, hi0, hz0, hz1, hz2⟩ := info_parts info3
    have hlb : b < w2.heap.size := IP2.out.lt
    clear hre HEX hl
    go_cut [] (fun wx => ∃ HJ sJ, ItP X HJ wx r sv src st3 b { x2 with e := x2.e ++ [a3] } sJ ∧ Fr X w2 wx ∧ Le H1 HJ)
    case first =>
      go_region_law (first
        | (go_simp; go_at_call 110; refine HEX2.out.mono ?_; rintro e wJ ⟨HJ, rfl, hleJ, hRJ, hfrJ⟩; have e2' : wJ.cell? ⟨b, 15, none⟩ = some s2.ev := (World.cell?_of_block (w := w2) (a := ⟨b, 15, none⟩) (hfrJ.block b (.inr (.inl rfl)))).trans e2; have hlJ : b < wJ.heap.size := Nat.lt_of_lt_of_le hlb hfrJ.size; have e2'' : (wJ.alloc (Obj.cells #[.int .i64 a3] 3)).cell? ⟨b, 15, none⟩ = some s2.ev := (World.cell?_of_block (w := wJ) (a := ⟨b, 15, none⟩) (heap_alloc_old wJ _ hlJ)).trans e2')
        | (refine step_append_lies _ (by rfl) _ _ _ (by rfl) 0 3 i0 _ 1 8 Tryz.underlying22 hi0 hz0 hz1 hz2 rfl (by omega) s2.ev x2.e.length (ints x2.e) (by rfl) (((IP2.out.drew.call hRJ hleJ hfrJ).erow).alloc _)
            ⟨wJ.heap.size, 0, none⟩ 1 1 [.int .i64 a3] (by rfl) (by rfl) (World.news_of_block (cs := #[.int .i64 a3]) (t := 3) (fr := (0, 0)) (heap_alloc_new wJ _)) (by simp [Value.oneCell'])
            (by omega) (by unfold maxLen; omega) (by omega) (by simp) (wJ.heap.size + 1) (by simp) ?_; intro gg cap wG hownG hgrow hat hltG;
            have g2 : wG.frozen? ⟨b, 15, none⟩ = false := (World.frozen?_of_block (w := wJ) (a := ⟨b, 15, none⟩) (grown_block hgrow (IP2.out.drew.call hRJ hleJ hfrJ).lt (IP2.out.drew.call hRJ hleJ hfrJ).eb)).trans (free_of_blk (IP2.out.drew.call hRJ hleJ hfrJ).blk 15);
            have k2 : wG.cell? ⟨b, 15, none⟩ = some s2.ev := (World.cell?_of_block (w := wJ) (a := ⟨b, 15, none⟩) (grown_block hgrow (IP2.out.drew.call hRJ hleJ hfrJ).lt (IP2.out.drew.call hRJ hleJ hfrJ).eb)).trans e2'))
      all_goals
        have IPJ := (IP2.out.drew.call hRJ hleJ hfrJ).alloc (.cells #[.int .i64 a3] 3)
        obtain ⟨IPG, f6⟩ := IPJ.grow (k := a3) hgrow hownG (by
          rcases hat with e | e
          · exact .inl (by rw [e]; rfl)
          · exact .inr ⟨gg, by simp; omega, rfl⟩)
        have f7 := (((Fr.drewOn X w2).trans hfrJ.unloc).trans ((Fr.refl X wJ).alloc (IP2.out.drew.call hRJ hleJ hfrJ).xlt (.cells #[.int .i64 a3] 3))).trans f6
        go_wp2_with fail
        go_meet
        exact ⟨HJ, _, IPG, f7, hleJ⟩
    case rest =>
      obtain ⟨H3, s3, hI, hfr, hle⟩ := hcut
      obtain ⟨w3, hw⟩ : ∃ w3, w3 = wc := ⟨_, rfl⟩
      rw [← hw] at hI hfr ⊢
      obtain ⟨x3, hx3⟩ : ∃ x3, x3 = { x2 with e := x2.e ++ [a3] } := ⟨_, rfl⟩
      rw [← hx3] at hI
      have hE := EQ3.out
      try dsimp only at hE
      rw [← hx3] at hE
      have EQ3 := Lib.hid hE
      clear hE
      have IP3 := Lib.hid hI
      have FR3 := Lib.hid (FR2.out.trans hfr)
      have LE3 := Lib.hid (LE2.out.trans hle)
      clear hI hfr hle hw e2 hl' hi0 hz0 hz1 hz2 hlb HEX2
      go_wp2_with fail
      refine (number_c n 72 ⟨_, IP3.out⟩ (fun e => FU.out (EQ3.out.trans (bind_bad e)))).mono ?_
      intro e w4 hp
      rcases hp.elimI with ⟨a4, st4, v4, H4, x4, hr, rfl, le, ⟨s4, hI⟩, hv, hfr⟩ | ⟨p, why, hr, rfl, hfr⟩
      rotate_left
      · have EQp := Lib.hid (EQ3.out.trans (bind_bad hr))
        have FRp := Lib.hid (FR3.out.trans hfr)
        clear hfr hr hp
        go_wp2_with fail
        exact ⟨rfl, Post.stop EQp.out FRp.out⟩
      obtain ⟨hv1, hv2⟩ := hv
      obtain rfl : a4 = x4 := hv1
      obtain rfl : v4 = .tuple #[] := hv2
      have IP4 := Lib.hid (hI)
      have FR4 := Lib.hid (FR3.out.trans hfr)
      have LE4 := Lib.hid (LE3.out.trans le)
      have EQ4 := Lib.hid (EQ3.out.trans (bind_ok hr))
      clear hI hfr le hr hp
      go_wp2_with fail
      refine (must_c NX FL 10 IP4.out.rd (fun e => FU.out (EQ4.out.trans (bind_bad e)))).mono ?_
      intro e w5 hp
      rcases hp.elimG with ⟨a5, st5, v5, H5, hr, rfl, le, hR, hv, hfr⟩ | ⟨p, why, hr, rfl, hfr⟩
      rotate_left
      · have EQp := Lib.hid (EQ4.out.trans (bind_bad hr))
        have FRp := Lib.hid (FR4.out.trans hfr.unloc)
        clear hfr hr hp
        go_wp2_with fail
        exact ⟨rfl, Post.stop EQp.out FRp.out⟩
      obtain rfl : v5 = .tuple #[] := hv
      have IP5 := Lib.hid (IP4.out.call hR le hfr)
      have FR5 := Lib.hid (FR4.out.trans hfr.unloc)
      have LE5 := Lib.hid (LE4.out.trans le)
      have EQ5 := Lib.hid (EQ4.out.trans (bind_ok hr))
      clear hR hfr le hr hp
      go_wp2_with fail
      go_end0
      exact Post.ok (EQ5.out.trans rfl) ⟨H5, a4, LE5.out, ⟨_, IP5.out⟩, by first | rfl | simp only [HX2.out], rfl⟩ FR5.out

set_option maxRecDepth 100000 in
set_option maxHeartbeats 4000000 in
theorem ram_c (n : Nat) (h : ItOK X H w r sv src st b x) (hf : ram src n x st ≠ .bad .fuel) :
    Calls Tryz.prog 112 #[.pointer (some ⟨r, 0, none⟩), .pointer (some ⟨b, 0, none⟩)] w (Post X w (ram src n x st) (GoodI iU X H r sv src b)) := by
  obtain ⟨T, hT⟩ : ∃ T, T = ram src n x st := ⟨_, rfl⟩
  rw [← hT]
  have FU := Lib.hid (show T ≠ .bad .fuel by rw [hT]; exact hf)
  have EQ0 := Lib.hid hT
  have NX := Lib.hid next_c
  have FL := Lib.hid fail_c
  obtain ⟨s0, h0⟩ := h
  have IP0 := Lib.hid h0
  obtain ⟨w0, hw0⟩ : ∃ w0, w0 = w := ⟨_, rfl⟩
  obtain ⟨x0, hx0⟩ : ∃ x0, x0 = x := ⟨_, rfl⟩
  obtain ⟨st0, hst0⟩ : ∃ st0, st0 = st := ⟨_, rfl⟩
  obtain ⟨H0, hH0⟩ : ∃ H0, H0 = H := ⟨_, rfl⟩
  rw [← hx0, ← hw0, ← hst0, ← hH0] at IP0
  have FR0 := Lib.hid (show Fr X w w0 by rw [hw0]; exact Fr.refl X w)
  have LE0 := Lib.hid (show Le H H0 by rw [hH0]; exact Le.refl H)
  rw [← hst0, ← hx0] at EQ0
  rw [show Calls Tryz.prog 112 #[.pointer (some ⟨r, 0, none⟩), .pointer (some ⟨b, 0, none⟩)] w = Calls Tryz.prog 112 #[.pointer (some ⟨r, 0, none⟩), .pointer (some ⟨b, 0, none⟩)] w0 by rw [hw0]]
  clear hf hT h0 hw0 hx0 hst0 hH0
  go_enter Tryz.func112, Tryz.ntmps112
  go_wp2_with fail
  go_upto_region 0 with (fail)
  have e2 : w0.cell? ⟨b, 15, none⟩ = some s0.ev := cell_of_blk IP0.out.blk 15
  have HEX := Lib.hid (expr_c n _ _ _ _ _ _ w0.drew 0 IP0.out.rd.drew (fun e => FU.out (EQ0.out.trans (bind_bad (more_bad e)))))
  obtain ⟨X1, hX1⟩ : ∃ X1, X1 = Loc X b s0.ev := ⟨_, rfl⟩
  cases hre : expr src n 0 st0 with
  | bad hb =>
    cases hb with
    | fuel => exact absurd (EQ0.out.trans (bind_bad (more_bad hre))) FU.out
    | stop p why =>
    have HEXP := Lib.hid (HEX.out.mono (R' := fun e w' => e = .panicked [{ v := haltV p why, recovered := false }] ∧ Fr X w w') (fun e w' hp => by
      rw [hre] at hp
      exact ⟨hp.1, FR0.out.trans ((Fr.drewOn X w0).trans hp.2.unloc)⟩))
    have EQp := Lib.hid (EQ0.out.trans (bind_bad (more_bad hre)))
    clear hre HEX
    refine wp_region_any (by kernel_rfl) ?_
    try (change wpAny _ _ _ _ _ _ _ (World.drew _))
    refine wpAny_take (i := 0) (v := ?_) rfl (by kernel_rfl) (by kernel_rfl) (by kernel_rfl) (fun _ _ _ h => h) (Or.inl ⟨by rfl, by intro w; go_simp; with_reducible rfl⟩) ?_
    refine wpAny_take (i := 1) (v := ?_) rfl (by kernel_rfl) (by kernel_rfl) (by kernel_rfl) (fun _ _ _ h => h) (Or.inl ⟨by rfl, by intro w; go_simp; with_reducible rfl⟩) ?_
    refine wpAny_take (i := 2) (v := ?_) rfl (by kernel_rfl) (by kernel_rfl) (by kernel_rfl) (fun _ _ _ h => h) (Or.inl ⟨by rfl, by intro w; go_simp; with_reducible rfl⟩) ?_
    refine wpAny_take (i := 3) (v := ?_) rfl (by kernel_rfl) (by kernel_rfl) (by kernel_rfl) (fun _ _ _ h => h) (Or.inl ⟨by rfl, by intro w; go_simp; with_reducible rfl⟩) ?_
    refine wpAny_take (i := 5) (v := ?_) rfl (by kernel_rfl) (by kernel_rfl) (by kernel_rfl) (fun _ _ _ h => h) (Or.inl ⟨by rfl, by intro w; go_simp; with_reducible rfl⟩) ?_
    refine wpAny_ready (rs := [4, 6]) (by kernel_rfl) (by simp) ?_
    refine AllReady.cons rfl (fun K hK => ?_) (AllReady.cons rfl (fun K hK => ?_) AllReady.nil)
    · go_simp
      refine hK _ _ ?_
      clear hK K
      refine wpAny_ready (rs := [6]) (by kernel_rfl) (by simp) ?_
      refine AllReady.cons rfl (fun K hK => ?_) AllReady.nil
      · go_simp
        go_at_call 110
        refine HEXP.out.mono ?_
        rintro e wJ ⟨rfl, FRp⟩
        exact ⟨rfl, Post.stop EQp.out FRp⟩
    · go_simp
      go_at_call 110
      refine HEXP.out.mono ?_
      rintro e wJ ⟨rfl, FRp⟩
      exact ⟨rfl, Post.stop EQp.out FRp⟩
  | ok a1 st1 =>
    have hl : x0.e.length < most := Decidable.byContradiction fun hn => FU.out (EQ0.out.trans (bind_bad (more_few hre hn)))
    have hl' : x0.e.length < 1073741824 := hl
    have EQ1 := Lib.hid (EQ0.out.trans (bind_ok (more_ok hre hl)))
    have HEX2 := Lib.hid (HEX.out.mono (R' := fun e w' => ∃ HJ, e = .returned (.int .i64 a1) ∧ Le H0 HJ ∧ RdOK (Loc X b s0.ev) HJ w' r sv src st1 ∧ Fr (Loc X b s0.ev) w0.drew w') (fun e w' hp => by
      rw [hre] at hp
      obtain ⟨v, HJ, h1, h2, h3, h4, h5⟩ := Post.okG hp
      obtain rfl : v = .int .i64 a1 := h4
      exact ⟨HJ, h1, h2, h3, h5⟩))
    obtain ⟨i0, hi0, hz0, hz1, hz2⟩ := info_parts info3
    have hlb : b < w0.heap.size := IP0.out.lt
    clear hre HEX hl
    go_cut [] (fun wx => ∃ HJ sJ, ItP X HJ wx r sv src st1 b { x0 with e := x0.e ++ [a1] } sJ ∧ Fr X w0 wx ∧ Le H0 HJ)
    case first =>
      go_region_law (first
        | (go_simp; go_at_call 110; refine HEX2.out.mono ?_; rintro e wJ ⟨HJ, rfl, hleJ, hRJ, hfrJ⟩; have e2' : wJ.cell? ⟨b, 15, none⟩ = some s0.ev := (World.cell?_of_block (w := w0) (a := ⟨b, 15, none⟩) (hfrJ.block b (.inr (.inl rfl)))).trans e2; have hlJ : b < wJ.heap.size := Nat.lt_of_lt_of_le hlb hfrJ.size; have e2'' : (wJ.alloc (Obj.cells #[.int .i64 a1] 3)).cell? ⟨b, 15, none⟩ = some s0.ev := (World.cell?_of_block (w := wJ) (a := ⟨b, 15, none⟩) (heap_alloc_old wJ _ hlJ)).trans e2')
        | (refine step_append_lies _ (by rfl) _ _ _ (by rfl) 0 3 i0 _ 1 8 Tryz.underlying22 hi0 hz0 hz1 hz2 rfl (by omega) s0.ev x0.e.length (ints x0.e) (by rfl) (((IP0.out.drew.call hRJ hleJ hfrJ).erow).alloc _)
            ⟨wJ.heap.size, 0, none⟩ 1 1 [.int .i64 a1] (by rfl) (by rfl) (World.news_of_block (cs := #[.int .i64 a1]) (t := 3) (fr := (0, 0)) (heap_alloc_new wJ _)) (by simp [Value.oneCell'])
            (by omega) (by unfold maxLen; omega) (by omega) (by simp) (wJ.heap.size + 1) (by simp) ?_; intro gg cap wG hownG hgrow hat hltG;
            have g2 : wG.frozen? ⟨b, 15, none⟩ = false := (World.frozen?_of_block (w := wJ) (a := ⟨b, 15, none⟩) (grown_block hgrow (IP0.out.drew.call hRJ hleJ hfrJ).lt (IP0.out.drew.call hRJ hleJ hfrJ).eb)).trans (free_of_blk (IP0.out.drew.call hRJ hleJ hfrJ).blk 15);
            have k2 : wG.cell? ⟨b, 15, none⟩ = some s0.ev := (World.cell?_of_block (w := wJ) (a := ⟨b, 15, none⟩) (grown_block hgrow (IP0.out.drew.call hRJ hleJ hfrJ).lt (IP0.out.drew.call hRJ hleJ hfrJ).eb)).trans e2'))
      all_goals
        have IPJ := (IP0.out.drew.call hRJ hleJ hfrJ).alloc (.cells #[.int .i64 a1] 3)
        obtain ⟨IPG, f6⟩ := IPJ.grow (k := a1) hgrow hownG (by
          rcases hat with e | e
          · exact .inl (by rw [e]; rfl)
          · exact .inr ⟨gg, by simp; omega, rfl⟩)
        have f7 := (((Fr.drewOn X w0).trans hfrJ.unloc).trans ((Fr.refl X wJ).alloc (IP0.out.drew.call hRJ hleJ hfrJ).xlt (.cells #[.int .i64 a1] 3))).trans f6
        go_wp2_with fail
        go_meet
        exact ⟨HJ, _, IPG, f7, hleJ⟩
    case rest =>
      obtain ⟨H1, s1, hI, hfr, hle⟩ := hcut
      obtain ⟨w1, hw⟩ : ∃ w1, w1 = wc := ⟨_, rfl⟩
      rw [← hw] at hI hfr ⊢
      obtain ⟨x1, hx1⟩ : ∃ x1, x1 = { x0 with e := x0.e ++ [a1] } := ⟨_, rfl⟩
      rw [← hx1] at hI
      have hE := EQ1.out
      try dsimp only at hE
      rw [← hx1] at hE
      have EQ1 := Lib.hid hE
      clear hE
      have IP1 := Lib.hid hI
      have FR1 := Lib.hid (FR0.out.trans hfr)
      have LE1 := Lib.hid (LE0.out.trans hle)
      clear hI hfr hle hw e2 hl' hi0 hz0 hz1 hz2 hlb HEX2
      go_wp2_with fail
      refine (number_c n 40 ⟨_, IP1.out⟩ (fun e => FU.out (EQ1.out.trans (bind_bad e)))).mono ?_
      intro e w2 hp
      rcases hp.elimI with ⟨a2, st2, v2, H2, x2, hr, rfl, le, ⟨s2, hI⟩, hv, hfr⟩ | ⟨p, why, hr, rfl, hfr⟩
      rotate_left
      · have EQp := Lib.hid (EQ1.out.trans (bind_bad hr))
        have FRp := Lib.hid (FR1.out.trans hfr)
        clear hfr hr hp
        go_wp2_with fail
        exact ⟨rfl, Post.stop EQp.out FRp.out⟩
      obtain ⟨hv1, hv2⟩ := hv
      obtain rfl : a2 = x2 := hv1
      obtain rfl : v2 = .tuple #[] := hv2
      have IP2 := Lib.hid (hI)
      have FR2 := Lib.hid (FR1.out.trans hfr)
      have LE2 := Lib.hid (LE1.out.trans le)
      have EQ2 := Lib.hid (EQ1.out.trans (bind_ok hr))
      clear hI hfr le hr hp
      go_wp2_with fail
      refine (must_c NX FL 10 IP2.out.rd (fun e => FU.out (EQ2.out.trans (bind_bad e)))).mono ?_
      intro e w3 hp
      rcases hp.elimG with ⟨a3, st3, v3, H3, hr, rfl, le, hR, hv, hfr⟩ | ⟨p, why, hr, rfl, hfr⟩
      rotate_left
      · have EQp := Lib.hid (EQ2.out.trans (bind_bad hr))
        have FRp := Lib.hid (FR2.out.trans hfr.unloc)
        clear hfr hr hp
        go_wp2_with fail
        exact ⟨rfl, Post.stop EQp.out FRp.out⟩
      obtain rfl : v3 = .tuple #[] := hv
      have IP3 := Lib.hid (IP2.out.call hR le hfr)
      have FR3 := Lib.hid (FR2.out.trans hfr.unloc)
      have LE3 := Lib.hid (LE2.out.trans le)
      have EQ3 := Lib.hid (EQ2.out.trans (bind_ok hr))
      clear hR hfr le hr hp
      go_wp2_with fail
      go_end0
      exact Post.ok (EQ3.out.trans rfl) ⟨H3, a2, LE3.out, ⟨_, IP3.out⟩, rfl, rfl⟩ FR3.out
end
end Go.Proofs.YtkaeceedofmhbaaGreatDoor
