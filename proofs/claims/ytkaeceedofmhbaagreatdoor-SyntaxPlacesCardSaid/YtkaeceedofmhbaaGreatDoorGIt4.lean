/-
  syntax: irq, queue, forbid, sample, pick, mapping.
  Printed by gen/it.py and a script beside it.
-/
import Derived.Test.YtkaeceedofmhbaaGreatDoorGIt3
import Derived.Deep.RegionLaw
import Derived.Deep.DeepCutAuto
namespace Go.Proofs.YtkaeceedofmhbaaGreatDoor
open Go.RowKit Bk
attribute [local go_sem ↓] Go.wp_at_zero Go.wp_at_succ

set_option linter.unusedSimpArgs false
section
variable {X : Nat → Prop} {H : Frozen} {w : World} {r : Nat} {sv : Value} {src : Bytes} {st : St} {b : Nat} {x : ItemV}

set_option maxRecDepth 100000 in
set_option maxHeartbeats 4000000 in
theorem irq_c (n : Nat) (h : ItOK X H w r sv src st b x) (hf : irq src n x st ≠ .bad .fuel) :
    Calls Tryz.prog 117 #[.pointer (some ⟨r, 0, none⟩), .pointer (some ⟨b, 0, none⟩)] w (Post X w (irq src n x st) (GoodI iU X H r sv src b)) := by
  obtain ⟨T, hT⟩ : ∃ T, T = irq src n x st := ⟨_, rfl⟩
  rw [← hT]
  have FU := Lib.hid (show T ≠ .bad .fuel by rw [hT]; exact hf)
  have EQ0 := Lib.hid hT
  have NX := Lib.hid next_c
  have FL := Lib.hid fail_c
  obtain ⟨s0, h0⟩ := h
  have IP0 := Lib.hid h0
  obtain ⟨w0, hw0⟩ : ∃ w0, w0 = w := ⟨_, rfl⟩
  obtain ⟨x0, hx0⟩ : ∃ x0, x0 = x := ⟨_, rfl⟩
  obtain ⟨st0, hst0⟩ : ∃ st0, st0 = st := ⟨_, rfl⟩
  obtain ⟨H0, hH0⟩ : ∃ H0, H0 = H := ⟨_, rfl⟩
  rw [← hx0, ← hw0, ← hst0, ← hH0] at IP0
  have FR0 := Lib.hid (show Fr X w w0 by rw [hw0]; exact Fr.refl X w)
  have LE0 := Lib.hid (show Le H H0 by rw [hH0]; exact Le.refl H)
  rw [← hst0, ← hx0] at EQ0
  rw [show Calls Tryz.prog 117 #[.pointer (some ⟨r, 0, none⟩), .pointer (some ⟨b, 0, none⟩)] w = Calls Tryz.prog 117 #[.pointer (some ⟨r, 0, none⟩), .pointer (some ⟨b, 0, none⟩)] w0 by rw [hw0]]
  clear hf hT h0 hw0 hx0 hst0 hH0
  go_enter Tryz.func117, Tryz.ntmps117
  go_wp2_with fail
  refine (ends_c n ⟨_, IP0.out⟩ (fun e => FU.out (EQ0.out.trans (bind_bad e)))).mono ?_
  intro e w1 hp
  rcases hp.elimI with ⟨a1, st1, v1, H1, x1, hr, rfl, le, ⟨s1, hI⟩, hv, hfr⟩ | ⟨p, why, hr, rfl, hfr⟩
  rotate_left
  · have EQp := Lib.hid (EQ0.out.trans (bind_bad hr))
    have FRp := Lib.hid (FR0.out.trans hfr)
    clear hfr hr hp
    go_wp2_with fail
    exact ⟨rfl, Post.stop EQp.out FRp.out⟩
  obtain ⟨hv1, hv2⟩ := hv
  obtain rfl : a1 = x1 := hv1
  obtain rfl : v1 = .tuple #[] := hv2
  have IP1 := Lib.hid (hI)
  have FR1 := Lib.hid (FR0.out.trans hfr)
  have LE1 := Lib.hid (LE0.out.trans le)
  have EQ1 := Lib.hid (EQ0.out.trans (bind_ok hr))
  clear hI hfr le hr hp
  go_wp2_with fail
  refine (number_c n 58 ⟨_, IP1.out⟩ (fun e => FU.out (EQ1.out.trans (bind_bad e)))).mono ?_
  intro e w2 hp
  rcases hp.elimI with ⟨a2, st2, v2, H2, x2, hr, rfl, le, ⟨s2, hI⟩, hv, hfr⟩ | ⟨p, why, hr, rfl, hfr⟩
  rotate_left
  · have EQp := Lib.hid (EQ1.out.trans (bind_bad hr))
    have FRp := Lib.hid (FR1.out.trans hfr)
    clear hfr hr hp
    go_wp2_with fail
    exact ⟨rfl, Post.stop EQp.out FRp.out⟩
  obtain ⟨hv1, hv2⟩ := hv
  obtain rfl : a2 = x2 := hv1
  obtain rfl : v2 = .tuple #[] := hv2
  have IP2 := Lib.hid (hI)
  have FR2 := Lib.hid (FR1.out.trans hfr)
  have LE2 := Lib.hid (LE1.out.trans le)
  have EQ2 := Lib.hid (EQ1.out.trans (bind_ok hr))
  clear hI hfr le hr hp
  go_wp2_with fail
  refine (flag_c 65 256 ⟨_, IP2.out⟩ (by omega) (fun e => FU.out (EQ2.out.trans (bind_bad e)))).mono ?_
  intro e w3 hp
  rcases hp.elimI with ⟨a3, st3, v3, H3, x3, hr, rfl, le, ⟨s3, hI⟩, hv, hfr⟩ | ⟨p, why, hr, rfl, hfr⟩
  rotate_left
  · have EQp := Lib.hid (EQ2.out.trans (bind_bad hr))
    have FRp := Lib.hid (FR2.out.trans hfr)
    clear hfr hr hp
    go_wp2_with fail
    exact ⟨rfl, Post.stop EQp.out FRp.out⟩
  obtain ⟨hv1, hv2⟩ := hv
  obtain ⟨f3, y3⟩ := a3
  obtain rfl : y3 = x3 := hv1
  obtain rfl : v3 = .bool f3 := hv2
  have IP3 := Lib.hid (hI)
  have FR3 := Lib.hid (FR2.out.trans hfr)
  have LE3 := Lib.hid (LE2.out.trans le)
  have EQ3 := Lib.hid (EQ2.out.trans (bind_ok hr))
  clear hI hfr le hr hp
  go_wp2_with fail
  refine (must_c NX FL 10 IP3.out.rd (fun e => FU.out (EQ3.out.trans (bind_bad e)))).mono ?_
  intro e w4 hp
  rcases hp.elimG with ⟨a4, st4, v4, H4, hr, rfl, le, hR, hv, hfr⟩ | ⟨p, why, hr, rfl, hfr⟩
  rotate_left
  · have EQp := Lib.hid (EQ3.out.trans (bind_bad hr))
    have FRp := Lib.hid (FR3.out.trans hfr.unloc)
    clear hfr hr hp
    go_wp2_with fail
    exact ⟨rfl, Post.stop EQp.out FRp.out⟩
  obtain rfl : v4 = .tuple #[] := hv
  have IP4 := Lib.hid (IP3.out.call hR le hfr)
  have FR4 := Lib.hid (FR3.out.trans hfr.unloc)
  have LE4 := Lib.hid (LE3.out.trans le)
  have EQ4 := Lib.hid (EQ3.out.trans (bind_ok hr))
  clear hR hfr le hr hp
  go_wp2_with fail
  go_end0
  exact Post.ok (EQ4.out.trans rfl) ⟨H4, y3, LE4.out, ⟨_, IP4.out⟩, rfl, rfl⟩ FR4.out

set_option maxRecDepth 100000 in
set_option maxHeartbeats 4000000 in
theorem queue_c (n : Nat) (h : ItOK X H w r sv src st b x) (hf : queue src n x st ≠ .bad .fuel) :
    Calls Tryz.prog 120 #[.pointer (some ⟨r, 0, none⟩), .pointer (some ⟨b, 0, none⟩)] w (Post X w (queue src n x st) (GoodI iU X H r sv src b)) := by
  obtain ⟨T, hT⟩ : ∃ T, T = queue src n x st := ⟨_, rfl⟩
  rw [← hT]
  have FU := Lib.hid (show T ≠ .bad .fuel by rw [hT]; exact hf)
  have EQ0 := Lib.hid hT
  have NX := Lib.hid next_c
  have FL := Lib.hid fail_c
  obtain ⟨s0, h0⟩ := h
  have IP0 := Lib.hid h0
  obtain ⟨w0, hw0⟩ : ∃ w0, w0 = w := ⟨_, rfl⟩
  obtain ⟨x0, hx0⟩ : ∃ x0, x0 = x := ⟨_, rfl⟩
  obtain ⟨st0, hst0⟩ : ∃ st0, st0 = st := ⟨_, rfl⟩
  obtain ⟨H0, hH0⟩ : ∃ H0, H0 = H := ⟨_, rfl⟩
  rw [← hx0, ← hw0, ← hst0, ← hH0] at IP0
  have FR0 := Lib.hid (show Fr X w w0 by rw [hw0]; exact Fr.refl X w)
  have LE0 := Lib.hid (show Le H H0 by rw [hH0]; exact Le.refl H)
  rw [← hst0, ← hx0] at EQ0
  rw [show Calls Tryz.prog 120 #[.pointer (some ⟨r, 0, none⟩), .pointer (some ⟨b, 0, none⟩)] w = Calls Tryz.prog 120 #[.pointer (some ⟨r, 0, none⟩), .pointer (some ⟨b, 0, none⟩)] w0 by rw [hw0]]
  clear hf hT h0 hw0 hx0 hst0 hH0
  go_enter Tryz.func120, Tryz.ntmps120
  go_wp2_with fail
  refine (ends_c n ⟨_, IP0.out⟩ (fun e => FU.out (EQ0.out.trans (bind_bad e)))).mono ?_
  intro e w1 hp
  rcases hp.elimI with ⟨a1, st1, v1, H1, x1, hr, rfl, le, ⟨s1, hI⟩, hv, hfr⟩ | ⟨p, why, hr, rfl, hfr⟩
  rotate_left
  · have EQp := Lib.hid (EQ0.out.trans (bind_bad hr))
    have FRp := Lib.hid (FR0.out.trans hfr)
    clear hfr hr hp
    go_wp2_with fail
    exact ⟨rfl, Post.stop EQp.out FRp.out⟩
  obtain ⟨hv1, hv2⟩ := hv
  obtain rfl : a1 = x1 := hv1
  obtain rfl : v1 = .tuple #[] := hv2
  have IP1 := Lib.hid (hI)
  have FR1 := Lib.hid (FR0.out.trans hfr)
  have LE1 := Lib.hid (LE0.out.trans le)
  have EQ1 := Lib.hid (EQ0.out.trans (bind_ok hr))
  clear hI hfr le hr hp
  go_wp2_with fail
  refine (number_c n 76 ⟨_, IP1.out⟩ (fun e => FU.out (EQ1.out.trans (bind_bad e)))).mono ?_
  intro e w2 hp
  rcases hp.elimI with ⟨a2, st2, v2, H2, x2, hr, rfl, le, ⟨s2, hI⟩, hv, hfr⟩ | ⟨p, why, hr, rfl, hfr⟩
  rotate_left
  · have EQp := Lib.hid (EQ1.out.trans (bind_bad hr))
    have FRp := Lib.hid (FR1.out.trans hfr)
    clear hfr hr hp
    go_wp2_with fail
    exact ⟨rfl, Post.stop EQp.out FRp.out⟩
  obtain ⟨hv1, hv2⟩ := hv
  obtain rfl : a2 = x2 := hv1
  obtain rfl : v2 = .tuple #[] := hv2
  have IP2 := Lib.hid (hI)
  have FR2 := Lib.hid (FR1.out.trans hfr)
  have LE2 := Lib.hid (LE1.out.trans le)
  have EQ2 := Lib.hid (EQ1.out.trans (bind_ok hr))
  clear hI hfr le hr hp
  go_wp2_with fail
  refine (flag_c 77 8192 ⟨_, IP2.out⟩ (by omega) (fun e => FU.out (EQ2.out.trans (bind_bad e)))).mono ?_
  intro e w3 hp
  rcases hp.elimI with ⟨a3, st3, v3, H3, x3, hr, rfl, le, ⟨s3, hI⟩, hv, hfr⟩ | ⟨p, why, hr, rfl, hfr⟩
  rotate_left
  · have EQp := Lib.hid (EQ2.out.trans (bind_bad hr))
    have FRp := Lib.hid (FR2.out.trans hfr)
    clear hfr hr hp
    go_wp2_with fail
    exact ⟨rfl, Post.stop EQp.out FRp.out⟩
  obtain ⟨hv1, hv2⟩ := hv
  obtain ⟨f3, y3⟩ := a3
  obtain rfl : y3 = x3 := hv1
  obtain rfl : v3 = .bool f3 := hv2
  have IP3 := Lib.hid (hI)
  have FR3 := Lib.hid (FR2.out.trans hfr)
  have LE3 := Lib.hid (LE2.out.trans le)
  have EQ3 := Lib.hid (EQ2.out.trans (bind_ok hr))
  clear hI hfr le hr hp
  go_wp2_with fail
  refine (must_c NX FL 10 IP3.out.rd (fun e => FU.out (EQ3.out.trans (bind_bad e)))).mono ?_
  intro e w4 hp
  rcases hp.elimG with ⟨a4, st4, v4, H4, hr, rfl, le, hR, hv, hfr⟩ | ⟨p, why, hr, rfl, hfr⟩
  rotate_left
  · have EQp := Lib.hid (EQ3.out.trans (bind_bad hr))
    have FRp := Lib.hid (FR3.out.trans hfr.unloc)
    clear hfr hr hp
    go_wp2_with fail
    exact ⟨rfl, Post.stop EQp.out FRp.out⟩
  obtain rfl : v4 = .tuple #[] := hv
  have IP4 := Lib.hid (IP3.out.call hR le hfr)
  have FR4 := Lib.hid (FR3.out.trans hfr.unloc)
  have LE4 := Lib.hid (LE3.out.trans le)
  have EQ4 := Lib.hid (EQ3.out.trans (bind_ok hr))
  clear hR hfr le hr hp
  go_wp2_with fail
  go_end0
  exact Post.ok (EQ4.out.trans rfl) ⟨H4, y3, LE4.out, ⟨_, IP4.out⟩, rfl, rfl⟩ FR4.out

set_option maxRecDepth 100000 in
set_option maxHeartbeats 4000000 in
theorem forbid_c (n : Nat) (h : ItOK X H w r sv src st b x) (hf : forbid src n x st ≠ .bad .fuel) :
    Calls Tryz.prog 122 #[.pointer (some ⟨r, 0, none⟩), .pointer (some ⟨b, 0, none⟩)] w (Post X w (forbid src n x st) (GoodI iU X H r sv src b)) := by
  obtain ⟨T, hT⟩ : ∃ T, T = forbid src n x st := ⟨_, rfl⟩
  rw [← hT]
  have FU := Lib.hid (show T ≠ .bad .fuel by rw [hT]; exact hf)
  have EQ0 := Lib.hid hT
  have NX := Lib.hid next_c
  have FL := Lib.hid fail_c
  obtain ⟨s0, h0⟩ := h
  have IP0 := Lib.hid h0
  obtain ⟨w0, hw0⟩ : ∃ w0, w0 = w := ⟨_, rfl⟩
  obtain ⟨x0, hx0⟩ : ∃ x0, x0 = x := ⟨_, rfl⟩
  obtain ⟨st0, hst0⟩ : ∃ st0, st0 = st := ⟨_, rfl⟩
  obtain ⟨H0, hH0⟩ : ∃ H0, H0 = H := ⟨_, rfl⟩
  rw [← hx0, ← hw0, ← hst0, ← hH0] at IP0
  have FR0 := Lib.hid (show Fr X w w0 by rw [hw0]; exact Fr.refl X w)
  have LE0 := Lib.hid (show Le H H0 by rw [hH0]; exact Le.refl H)
  rw [← hst0, ← hx0] at EQ0
  rw [show Calls Tryz.prog 122 #[.pointer (some ⟨r, 0, none⟩), .pointer (some ⟨b, 0, none⟩)] w = Calls Tryz.prog 122 #[.pointer (some ⟨r, 0, none⟩), .pointer (some ⟨b, 0, none⟩)] w0 by rw [hw0]]
  clear hf hT h0 hw0 hx0 hst0 hH0
  go_enter Tryz.func122, Tryz.ntmps122
  go_wp2_with fail
  refine (ref_c n IP0.out.rd (fun e => FU.out (EQ0.out.trans (bind_bad e)))).mono ?_
  intro e w1 hp
  rcases hp.elimG with ⟨a1, st1, v1, H1, hr, rfl, le, hR, hv, hfr⟩ | ⟨p, why, hr, rfl, hfr⟩
  rotate_left
  · have EQp := Lib.hid (EQ0.out.trans (bind_bad hr))
    have FRp := Lib.hid (FR0.out.trans hfr.unloc)
    clear hfr hr hp
    go_wp2_with fail
    exact ⟨rfl, Post.stop EQp.out FRp.out⟩
  obtain ⟨i1, rfl, hi1⟩ := hv
  have IP1 := Lib.hid (IP0.out.call hR le hfr)
  have FR1 := Lib.hid (FR0.out.trans hfr.unloc)
  have LE1 := Lib.hid (LE0.out.trans le)
  have EQ1 := Lib.hid (EQ0.out.trans (bind_ok hr))
  clear hR hfr le hr hp
  obtain ⟨ia1, il1, ic1, hsl⟩ := FInts.slice hi1
  subst hsl
  have g0 : w1.cell? ⟨b, 5, none⟩ = some (str x0.frm.word) := cell_of_blk IP1.out.blk 5
  have g1 : w1.cell? ⟨b, 6, none⟩ = some (.int .i64 x0.frm.at_) := cell_of_blk IP1.out.blk 6
  have g2 : w1.cell? ⟨b, 7, none⟩ = some s0.fv := cell_of_blk IP1.out.blk 7
  have q0 := free_of_blk IP1.out.blk 5
  have q1 := free_of_blk IP1.out.blk 6
  have q2 := free_of_blk IP1.out.blk 7
  obtain ⟨hI, hfr⟩ := IP1.out.put_frm hi1
  have IP2 := Lib.hid hI
  have FR2 := Lib.hid (FR1.out.trans hfr)
  have LE2 := Lib.hid LE1.out
  have EQ2 := Lib.hid EQ1.out
  obtain ⟨w2, hw⟩ : ∃ w2, w2 = ((w1.setCell ⟨b, 5, none⟩ (.string ⟨a1.word.toArray⟩)).setCell ⟨b, 6, none⟩ (.int .i64 a1.at_)).setCell ⟨b, 7, none⟩ (.slice ia1 il1 ic1) := ⟨_, rfl⟩
  have hw' : w2 = ((w1.setCell ⟨b, 5, none⟩ (str a1.word)).setCell ⟨b, 6, none⟩ (.int .i64 a1.at_)).setCell ⟨b, 7, none⟩ (.slice ia1 il1 ic1) := hw
  rw [← hw'] at IP2 FR2
  clear hw'
  obtain ⟨x2, hx2⟩ : ∃ x2, x2 = { x0 with frm := a1 } := ⟨_, rfl⟩
  rw [← hx2] at IP2
  obtain ⟨s2, hs⟩ : ∃ s2, s2 = { s0 with fv := (.slice ia1 il1 ic1) } := ⟨_, rfl⟩
  rw [← hs] at IP2
  have HX2 := Lib.hid hx2
  clear hI hfr hs hx2
  go_wp2_with fail
  rw [← hw]
  clear hw g0 g1 g2 q0 q1 q2
  refine (must_c NX FL 61 IP2.out.rd (fun e => FU.out (EQ2.out.trans (bind_bad e)))).mono ?_
  intro e w3 hp
  rcases hp.elimG with ⟨a3, st3, v3, H3, hr, rfl, le, hR, hv, hfr⟩ | ⟨p, why, hr, rfl, hfr⟩
  rotate_left
  · have EQp := Lib.hid (EQ2.out.trans (bind_bad hr))
    have FRp := Lib.hid (FR2.out.trans hfr.unloc)
    clear hfr hr hp
    go_wp2_with fail
    exact ⟨rfl, Post.stop EQp.out FRp.out⟩
  obtain rfl : v3 = .tuple #[] := hv
  have IP3 := Lib.hid (IP2.out.call hR le hfr)
  have FR3 := Lib.hid (FR2.out.trans hfr.unloc)
  have LE3 := Lib.hid (LE2.out.trans le)
  have EQ3 := Lib.hid (EQ2.out.trans (bind_ok hr))
  clear hR hfr le hr hp
  go_wp2_with fail
  refine (ref_c n IP3.out.rd (fun e => FU.out (EQ3.out.trans (bind_bad e)))).mono ?_
  intro e w4 hp
  rcases hp.elimG with ⟨a4, st4, v4, H4, hr, rfl, le, hR, hv, hfr⟩ | ⟨p, why, hr, rfl, hfr⟩
  rotate_left
  · have EQp := Lib.hid (EQ3.out.trans (bind_bad hr))
    have FRp := Lib.hid (FR3.out.trans hfr.unloc)
    clear hfr hr hp
    go_wp2_with fail
    exact ⟨rfl, Post.stop EQp.out FRp.out⟩
  obtain ⟨i4, rfl, hi4⟩ := hv
  have IP4 := Lib.hid (IP3.out.call hR le hfr)
  have FR4 := Lib.hid (FR3.out.trans hfr.unloc)
  have LE4 := Lib.hid (LE3.out.trans le)
  have EQ4 := Lib.hid (EQ3.out.trans (bind_ok hr))
  clear hR hfr le hr hp
  obtain ⟨ia4, il4, ic4, hsl⟩ := FInts.slice hi4
  subst hsl
  have g0 : w4.cell? ⟨b, 8, none⟩ = some (str x2.to_.word) := cell_of_blk IP4.out.blk 8
  have g1 : w4.cell? ⟨b, 9, none⟩ = some (.int .i64 x2.to_.at_) := cell_of_blk IP4.out.blk 9
  have g2 : w4.cell? ⟨b, 10, none⟩ = some s2.tv := cell_of_blk IP4.out.blk 10
  have q0 := free_of_blk IP4.out.blk 8
  have q1 := free_of_blk IP4.out.blk 9
  have q2 := free_of_blk IP4.out.blk 10
  obtain ⟨hI, hfr⟩ := IP4.out.put_to_ hi4
  have IP5 := Lib.hid hI
  have FR5 := Lib.hid (FR4.out.trans hfr)
  have LE5 := Lib.hid LE4.out
  have EQ5 := Lib.hid EQ4.out
  obtain ⟨w5, hw⟩ : ∃ w5, w5 = ((w4.setCell ⟨b, 8, none⟩ (.string ⟨a4.word.toArray⟩)).setCell ⟨b, 9, none⟩ (.int .i64 a4.at_)).setCell ⟨b, 10, none⟩ (.slice ia4 il4 ic4) := ⟨_, rfl⟩
  have hw' : w5 = ((w4.setCell ⟨b, 8, none⟩ (str a4.word)).setCell ⟨b, 9, none⟩ (.int .i64 a4.at_)).setCell ⟨b, 10, none⟩ (.slice ia4 il4 ic4) := hw
  rw [← hw'] at IP5 FR5
  clear hw'
  obtain ⟨x5, hx5⟩ : ∃ x5, x5 = { x2 with to_ := a4 } := ⟨_, rfl⟩
  rw [← hx5] at IP5
  obtain ⟨s5, hs⟩ : ∃ s5, s5 = { s2 with tv := (.slice ia4 il4 ic4) } := ⟨_, rfl⟩
  rw [← hs] at IP5
  have HX5 := Lib.hid hx5
  clear hI hfr hs hx5
  go_wp2_with fail
  rw [← hw]
  clear hw g0 g1 g2 q0 q1 q2
  refine (must_c NX FL 10 IP5.out.rd (fun e => FU.out (EQ5.out.trans (bind_bad e)))).mono ?_
  intro e w6 hp
  rcases hp.elimG with ⟨a6, st6, v6, H6, hr, rfl, le, hR, hv, hfr⟩ | ⟨p, why, hr, rfl, hfr⟩
  rotate_left
  · have EQp := Lib.hid (EQ5.out.trans (bind_bad hr))
    have FRp := Lib.hid (FR5.out.trans hfr.unloc)
    clear hfr hr hp
    go_wp2_with fail
    exact ⟨rfl, Post.stop EQp.out FRp.out⟩
  obtain rfl : v6 = .tuple #[] := hv
  have IP6 := Lib.hid (IP5.out.call hR le hfr)
  have FR6 := Lib.hid (FR5.out.trans hfr.unloc)
  have LE6 := Lib.hid (LE5.out.trans le)
  have EQ6 := Lib.hid (EQ5.out.trans (bind_ok hr))
  clear hR hfr le hr hp
  go_wp2_with fail
  go_end0
  exact Post.ok (EQ6.out.trans rfl) ⟨H6, x5, LE6.out, ⟨_, IP6.out⟩, by first | rfl | simp only [HX5.out, HX2.out], rfl⟩ FR6.out

set_option maxRecDepth 100000 in
set_option maxHeartbeats 4000000 in
theorem sample_c (n : Nat) (h : ItOK X H w r sv src st b x) (hf : sample src n x st ≠ .bad .fuel) :
    Calls Tryz.prog 121 #[.pointer (some ⟨r, 0, none⟩), .pointer (some ⟨b, 0, none⟩)] w (Post X w (sample src n x st) (GoodI iU X H r sv src b)) := by
  obtain ⟨T, hT⟩ : ∃ T, T = sample src n x st := ⟨_, rfl⟩
  rw [← hT]
  have FU := Lib.hid (show T ≠ .bad .fuel by rw [hT]; exact hf)
  have EQ0 := Lib.hid hT
  have NX := Lib.hid next_c
  have FL := Lib.hid fail_c
  obtain ⟨s0, h0⟩ := h
  have IP0 := Lib.hid h0
  obtain ⟨w0, hw0⟩ : ∃ w0, w0 = w := ⟨_, rfl⟩
  obtain ⟨x0, hx0⟩ : ∃ x0, x0 = x := ⟨_, rfl⟩
  obtain ⟨st0, hst0⟩ : ∃ st0, st0 = st := ⟨_, rfl⟩
  obtain ⟨H0, hH0⟩ : ∃ H0, H0 = H := ⟨_, rfl⟩
  rw [← hx0, ← hw0, ← hst0, ← hH0] at IP0
  have FR0 := Lib.hid (show Fr X w w0 by rw [hw0]; exact Fr.refl X w)
  have LE0 := Lib.hid (show Le H H0 by rw [hH0]; exact Le.refl H)
  rw [← hst0, ← hx0] at EQ0
  rw [show Calls Tryz.prog 121 #[.pointer (some ⟨r, 0, none⟩), .pointer (some ⟨b, 0, none⟩)] w = Calls Tryz.prog 121 #[.pointer (some ⟨r, 0, none⟩), .pointer (some ⟨b, 0, none⟩)] w0 by rw [hw0]]
  clear hf hT h0 hw0 hx0 hst0 hH0
  go_enter Tryz.func121, Tryz.ntmps121
  go_wp2_with fail
  refine (ends_c n ⟨_, IP0.out⟩ (fun e => FU.out (EQ0.out.trans (bind_bad e)))).mono ?_
  intro e w1 hp
  rcases hp.elimI with ⟨a1, st1, v1, H1, x1, hr, rfl, le, ⟨s1, hI⟩, hv, hfr⟩ | ⟨p, why, hr, rfl, hfr⟩
  rotate_left
  · have EQp := Lib.hid (EQ0.out.trans (bind_bad hr))
    have FRp := Lib.hid (FR0.out.trans hfr)
    clear hfr hr hp
    go_wp2_with fail
    exact ⟨rfl, Post.stop EQp.out FRp.out⟩
  obtain ⟨hv1, hv2⟩ := hv
  obtain rfl : a1 = x1 := hv1
  obtain rfl : v1 = .tuple #[] := hv2
  have IP1 := Lib.hid (hI)
  have FR1 := Lib.hid (FR0.out.trans hfr)
  have LE1 := Lib.hid (LE0.out.trans le)
  have EQ1 := Lib.hid (EQ0.out.trans (bind_ok hr))
  clear hI hfr le hr hp
  go_wp2_with fail
  refine (must_c NX FL 10 IP1.out.rd (fun e => FU.out (EQ1.out.trans (bind_bad e)))).mono ?_
  intro e w2 hp
  rcases hp.elimG with ⟨a2, st2, v2, H2, hr, rfl, le, hR, hv, hfr⟩ | ⟨p, why, hr, rfl, hfr⟩
  rotate_left
  · have EQp := Lib.hid (EQ1.out.trans (bind_bad hr))
    have FRp := Lib.hid (FR1.out.trans hfr.unloc)
    clear hfr hr hp
    go_wp2_with fail
    exact ⟨rfl, Post.stop EQp.out FRp.out⟩
  obtain rfl : v2 = .tuple #[] := hv
  have IP2 := Lib.hid (IP1.out.call hR le hfr)
  have FR2 := Lib.hid (FR1.out.trans hfr.unloc)
  have LE2 := Lib.hid (LE1.out.trans le)
  have EQ2 := Lib.hid (EQ1.out.trans (bind_ok hr))
  clear hR hfr le hr hp
  go_wp2_with fail
  go_end0
  exact Post.ok (EQ2.out.trans rfl) ⟨H2, a1, LE2.out, ⟨_, IP2.out⟩, rfl, rfl⟩ FR2.out

set_option maxRecDepth 100000 in
set_option maxHeartbeats 4000000 in
theorem pick_c (n : Nat) (h : ItOK X H w r sv src st b x) (hf : pick src n x st ≠ .bad .fuel) :
    Calls Tryz.prog 119 #[.pointer (some ⟨r, 0, none⟩), .pointer (some ⟨b, 0, none⟩)] w (Post X w (pick src n x st) (GoodI iU X H r sv src b)) := by
  obtain ⟨T, hT⟩ : ∃ T, T = pick src n x st := ⟨_, rfl⟩
  rw [← hT]
  have FU := Lib.hid (show T ≠ .bad .fuel by rw [hT]; exact hf)
  have EQ0 := Lib.hid hT
  have NX := Lib.hid next_c
  have FL := Lib.hid fail_c
  obtain ⟨s0, h0⟩ := h
  have IP0 := Lib.hid h0
  obtain ⟨w0, hw0⟩ : ∃ w0, w0 = w := ⟨_, rfl⟩
  obtain ⟨x0, hx0⟩ : ∃ x0, x0 = x := ⟨_, rfl⟩
  obtain ⟨st0, hst0⟩ : ∃ st0, st0 = st := ⟨_, rfl⟩
  obtain ⟨H0, hH0⟩ : ∃ H0, H0 = H := ⟨_, rfl⟩
  rw [← hx0, ← hw0, ← hst0, ← hH0] at IP0
  have FR0 := Lib.hid (show Fr X w w0 by rw [hw0]; exact Fr.refl X w)
  have LE0 := Lib.hid (show Le H H0 by rw [hH0]; exact Le.refl H)
  rw [← hst0, ← hx0] at EQ0
  rw [show Calls Tryz.prog 119 #[.pointer (some ⟨r, 0, none⟩), .pointer (some ⟨b, 0, none⟩)] w = Calls Tryz.prog 119 #[.pointer (some ⟨r, 0, none⟩), .pointer (some ⟨b, 0, none⟩)] w0 by rw [hw0]]
  clear hf hT h0 hw0 hx0 hst0 hH0
  go_enter Tryz.func119, Tryz.ntmps119
  go_wp2_with fail
  refine (ref_c n IP0.out.rd (fun e => FU.out (EQ0.out.trans (bind_bad e)))).mono ?_
  intro e w1 hp
  rcases hp.elimG with ⟨a1, st1, v1, H1, hr, rfl, le, hR, hv, hfr⟩ | ⟨p, why, hr, rfl, hfr⟩
  rotate_left
  · have EQp := Lib.hid (EQ0.out.trans (bind_bad hr))
    have FRp := Lib.hid (FR0.out.trans hfr.unloc)
    clear hfr hr hp
    go_wp2_with fail
    exact ⟨rfl, Post.stop EQp.out FRp.out⟩
  obtain ⟨i1, rfl, hi1⟩ := hv
  have IP1 := Lib.hid (IP0.out.call hR le hfr)
  have FR1 := Lib.hid (FR0.out.trans hfr.unloc)
  have LE1 := Lib.hid (LE0.out.trans le)
  have EQ1 := Lib.hid (EQ0.out.trans (bind_ok hr))
  clear hR hfr le hr hp
  obtain ⟨ia1, il1, ic1, hsl⟩ := FInts.slice hi1
  subst hsl
  have g0 : w1.cell? ⟨b, 2, none⟩ = some (str x0.name.word) := cell_of_blk IP1.out.blk 2
  have g1 : w1.cell? ⟨b, 3, none⟩ = some (.int .i64 x0.name.at_) := cell_of_blk IP1.out.blk 3
  have g2 : w1.cell? ⟨b, 4, none⟩ = some s0.nv := cell_of_blk IP1.out.blk 4
  have q0 := free_of_blk IP1.out.blk 2
  have q1 := free_of_blk IP1.out.blk 3
  have q2 := free_of_blk IP1.out.blk 4
  obtain ⟨hI, hfr⟩ := IP1.out.put_name hi1
  have IP2 := Lib.hid hI
  have FR2 := Lib.hid (FR1.out.trans hfr)
  have LE2 := Lib.hid LE1.out
  have EQ2 := Lib.hid EQ1.out
  obtain ⟨w2, hw⟩ : ∃ w2, w2 = ((w1.setCell ⟨b, 2, none⟩ (.string ⟨a1.word.toArray⟩)).setCell ⟨b, 3, none⟩ (.int .i64 a1.at_)).setCell ⟨b, 4, none⟩ (.slice ia1 il1 ic1) := ⟨_, rfl⟩
  have hw' : w2 = ((w1.setCell ⟨b, 2, none⟩ (str a1.word)).setCell ⟨b, 3, none⟩ (.int .i64 a1.at_)).setCell ⟨b, 4, none⟩ (.slice ia1 il1 ic1) := hw
  rw [← hw'] at IP2 FR2
  clear hw'
  obtain ⟨x2, hx2⟩ : ∃ x2, x2 = { x0 with name := a1 } := ⟨_, rfl⟩
  rw [← hx2] at IP2
  obtain ⟨s2, hs⟩ : ∃ s2, s2 = { s0 with nv := (.slice ia1 il1 ic1) } := ⟨_, rfl⟩
  rw [← hs] at IP2
  have HX2 := Lib.hid hx2
  clear hI hfr hs hx2
  go_wp2_with fail
  rw [← hw]
  clear hw g0 g1 g2 q0 q1 q2
  refine (must_c NX FL 10 IP2.out.rd (fun e => FU.out (EQ2.out.trans (bind_bad e)))).mono ?_
  intro e w3 hp
  rcases hp.elimG with ⟨a3, st3, v3, H3, hr, rfl, le, hR, hv, hfr⟩ | ⟨p, why, hr, rfl, hfr⟩
  rotate_left
  · have EQp := Lib.hid (EQ2.out.trans (bind_bad hr))
    have FRp := Lib.hid (FR2.out.trans hfr.unloc)
    clear hfr hr hp
    go_wp2_with fail
    exact ⟨rfl, Post.stop EQp.out FRp.out⟩
  obtain rfl : v3 = .tuple #[] := hv
  have IP3 := Lib.hid (IP2.out.call hR le hfr)
  have FR3 := Lib.hid (FR2.out.trans hfr.unloc)
  have LE3 := Lib.hid (LE2.out.trans le)
  have EQ3 := Lib.hid (EQ2.out.trans (bind_ok hr))
  clear hR hfr le hr hp
  go_wp2_with fail
  go_end0
  exact Post.ok (EQ3.out.trans rfl) ⟨H3, x2, LE3.out, ⟨_, IP3.out⟩, by first | rfl | simp only [HX2.out], rfl⟩ FR3.out

set_option maxRecDepth 100000 in
set_option maxHeartbeats 4000000 in
theorem mapping_c (n : Nat) (h : ItOK X H w r sv src st b x) (hf : mapping src n x st ≠ .bad .fuel) :
    Calls Tryz.prog 168 #[.pointer (some ⟨r, 0, none⟩), .pointer (some ⟨b, 0, none⟩)] w (Post X w (mapping src n x st) (GoodI iU X H r sv src b)) := by
  obtain ⟨T, hT⟩ : ∃ T, T = mapping src n x st := ⟨_, rfl⟩
  rw [← hT]
  have FU := Lib.hid (show T ≠ .bad .fuel by rw [hT]; exact hf)
  have EQ0 := Lib.hid hT
  have NX := Lib.hid next_c
  have FL := Lib.hid fail_c
  obtain ⟨s0, h0⟩ := h
  have IP0 := Lib.hid h0
  obtain ⟨w0, hw0⟩ : ∃ w0, w0 = w := ⟨_, rfl⟩
  obtain ⟨x0, hx0⟩ : ∃ x0, x0 = x := ⟨_, rfl⟩
  obtain ⟨st0, hst0⟩ : ∃ st0, st0 = st := ⟨_, rfl⟩
  obtain ⟨H0, hH0⟩ : ∃ H0, H0 = H := ⟨_, rfl⟩
  rw [← hx0, ← hw0, ← hst0, ← hH0] at IP0
  have FR0 := Lib.hid (show Fr X w w0 by rw [hw0]; exact Fr.refl X w)
  have LE0 := Lib.hid (show Le H H0 by rw [hH0]; exact Le.refl H)
  rw [← hst0, ← hx0] at EQ0
  rw [show Calls Tryz.prog 168 #[.pointer (some ⟨r, 0, none⟩), .pointer (some ⟨b, 0, none⟩)] w = Calls Tryz.prog 168 #[.pointer (some ⟨r, 0, none⟩), .pointer (some ⟨b, 0, none⟩)] w0 by rw [hw0]]
  clear hf hT h0 hw0 hx0 hst0 hH0
  go_enter Tryz.func168, Tryz.ntmps168
  go_wp2_with fail
  refine (ref_c n IP0.out.rd (fun e => FU.out (EQ0.out.trans (bind_bad e)))).mono ?_
  intro e w1 hp
  rcases hp.elimG with ⟨a1, st1, v1, H1, hr, rfl, le, hR, hv, hfr⟩ | ⟨p, why, hr, rfl, hfr⟩
  rotate_left
  · have EQp := Lib.hid (EQ0.out.trans (bind_bad hr))
    have FRp := Lib.hid (FR0.out.trans hfr.unloc)
    clear hfr hr hp
    go_wp2_with fail
    exact ⟨rfl, Post.stop EQp.out FRp.out⟩
  obtain ⟨i1, rfl, hi1⟩ := hv
  have IP1 := Lib.hid (IP0.out.call hR le hfr)
  have FR1 := Lib.hid (FR0.out.trans hfr.unloc)
  have LE1 := Lib.hid (LE0.out.trans le)
  have EQ1 := Lib.hid (EQ0.out.trans (bind_ok hr))
  clear hR hfr le hr hp
  obtain ⟨ia1, il1, ic1, hsl⟩ := FInts.slice hi1
  subst hsl
  have g0 : w1.cell? ⟨b, 2, none⟩ = some (str x0.name.word) := cell_of_blk IP1.out.blk 2
  have g1 : w1.cell? ⟨b, 3, none⟩ = some (.int .i64 x0.name.at_) := cell_of_blk IP1.out.blk 3
  have g2 : w1.cell? ⟨b, 4, none⟩ = some s0.nv := cell_of_blk IP1.out.blk 4
  have q0 := free_of_blk IP1.out.blk 2
  have q1 := free_of_blk IP1.out.blk 3
  have q2 := free_of_blk IP1.out.blk 4
  obtain ⟨hI, hfr⟩ := IP1.out.put_name hi1
  have IP2 := Lib.hid hI
  have FR2 := Lib.hid (FR1.out.trans hfr)
  have LE2 := Lib.hid LE1.out
  have EQ2 := Lib.hid EQ1.out
  obtain ⟨w2, hw⟩ : ∃ w2, w2 = ((w1.setCell ⟨b, 2, none⟩ (.string ⟨a1.word.toArray⟩)).setCell ⟨b, 3, none⟩ (.int .i64 a1.at_)).setCell ⟨b, 4, none⟩ (.slice ia1 il1 ic1) := ⟨_, rfl⟩
  have hw' : w2 = ((w1.setCell ⟨b, 2, none⟩ (str a1.word)).setCell ⟨b, 3, none⟩ (.int .i64 a1.at_)).setCell ⟨b, 4, none⟩ (.slice ia1 il1 ic1) := hw
  rw [← hw'] at IP2 FR2
  clear hw'
  obtain ⟨x2, hx2⟩ : ∃ x2, x2 = { x0 with name := a1 } := ⟨_, rfl⟩
  rw [← hx2] at IP2
  obtain ⟨s2, hs⟩ : ∃ s2, s2 = { s0 with nv := (.slice ia1 il1 ic1) } := ⟨_, rfl⟩
  rw [← hs] at IP2
  have HX2 := Lib.hid hx2
  clear hI hfr hs hx2
  go_wp2_with fail
  rw [← hw]
  clear hw g0 g1 g2 q0 q1 q2
  have hE := EQ2.out
  try dsimp only at hE
  rw [← HX2.out] at hE
  have EQ2 := Lib.hid hE
  clear hE
  refine (number_c n 42 ⟨_, IP2.out⟩ (fun e => FU.out (EQ2.out.trans (bind_bad e)))).mono ?_
  intro e w3 hp
  rcases hp.elimI with ⟨a3, st3, v3, H3, x3, hr, rfl, le, ⟨s3, hI⟩, hv, hfr⟩ | ⟨p, why, hr, rfl, hfr⟩
  rotate_left
  · have EQp := Lib.hid (EQ2.out.trans (bind_bad hr))
    have FRp := Lib.hid (FR2.out.trans hfr)
    clear hfr hr hp
    go_wp2_with fail
    exact ⟨rfl, Post.stop EQp.out FRp.out⟩
  obtain ⟨hv1, hv2⟩ := hv
  obtain rfl : a3 = x3 := hv1
  obtain rfl : v3 = .tuple #[] := hv2
  have IP3 := Lib.hid (hI)
  have FR3 := Lib.hid (FR2.out.trans hfr)
  have LE3 := Lib.hid (LE2.out.trans le)
  have EQ3 := Lib.hid (EQ2.out.trans (bind_ok hr))
  clear hI hfr le hr hp
  go_wp2_with fail
  refine (flag_c 52 32 ⟨_, IP3.out⟩ (by omega) (fun e => FU.out (EQ3.out.trans (bind_bad e)))).mono ?_
  intro e w4 hp
  rcases hp.elimI with ⟨a4, st4, v4, H4, x4, hr, rfl, le, ⟨s4, hI⟩, hv, hfr⟩ | ⟨p, why, hr, rfl, hfr⟩
  rotate_left
  · have EQp := Lib.hid (EQ3.out.trans (bind_bad hr))
    have FRp := Lib.hid (FR3.out.trans hfr)
    clear hfr hr hp
    go_wp2_with fail
    exact ⟨rfl, Post.stop EQp.out FRp.out⟩
  obtain ⟨hv1, hv2⟩ := hv
  obtain ⟨f4, y4⟩ := a4
  obtain rfl : y4 = x4 := hv1
  obtain rfl : v4 = .bool f4 := hv2
  have IP4 := Lib.hid (hI)
  have FR4 := Lib.hid (FR3.out.trans hfr)
  have LE4 := Lib.hid (LE3.out.trans le)
  have EQ4 := Lib.hid (EQ3.out.trans (bind_ok hr))
  clear hI hfr le hr hp
  go_wp2_with fail
  refine (flag_c 53 64 ⟨_, IP4.out⟩ (by omega) (fun e => FU.out (EQ4.out.trans (bind_bad e)))).mono ?_
  intro e w5 hp
  rcases hp.elimI with ⟨a5, st5, v5, H5, x5, hr, rfl, le, ⟨s5, hI⟩, hv, hfr⟩ | ⟨p, why, hr, rfl, hfr⟩
  rotate_left
  · have EQp := Lib.hid (EQ4.out.trans (bind_bad hr))
    have FRp := Lib.hid (FR4.out.trans hfr)
    clear hfr hr hp
    go_wp2_with fail
    exact ⟨rfl, Post.stop EQp.out FRp.out⟩
  obtain ⟨hv1, hv2⟩ := hv
  obtain ⟨f5, y5⟩ := a5
  obtain rfl : y5 = x5 := hv1
  obtain rfl : v5 = .bool f5 := hv2
  have IP5 := Lib.hid (hI)
  have FR5 := Lib.hid (FR4.out.trans hfr)
  have LE5 := Lib.hid (LE4.out.trans le)
  have EQ5 := Lib.hid (EQ4.out.trans (bind_ok hr))
  clear hI hfr le hr hp
  go_wp2_with fail
  refine (must_c NX FL 10 IP5.out.rd (fun e => FU.out (EQ5.out.trans (bind_bad e)))).mono ?_
  intro e w6 hp
  rcases hp.elimG with ⟨a6, st6, v6, H6, hr, rfl, le, hR, hv, hfr⟩ | ⟨p, why, hr, rfl, hfr⟩
  rotate_left
  · have EQp := Lib.hid (EQ5.out.trans (bind_bad hr))
    have FRp := Lib.hid (FR5.out.trans hfr.unloc)
    clear hfr hr hp
    go_wp2_with fail
    exact ⟨rfl, Post.stop EQp.out FRp.out⟩
  obtain rfl : v6 = .tuple #[] := hv
  have IP6 := Lib.hid (IP5.out.call hR le hfr)
  have FR6 := Lib.hid (FR5.out.trans hfr.unloc)
  have LE6 := Lib.hid (LE5.out.trans le)
  have EQ6 := Lib.hid (EQ5.out.trans (bind_ok hr))
  clear hR hfr le hr hp
  go_wp2_with fail
  go_end0
  exact Post.ok (EQ6.out.trans rfl) ⟨H6, y5, LE6.out, ⟨_, IP6.out⟩, by first | rfl | simp only [HX2.out], rfl⟩ FR6.out
end
end Go.Proofs.YtkaeceedofmhbaaGreatDoor
