/-
  syntax: inner.
  Printed by gen/blk5.py.
-/
import Derived.Test.YtkaeceedofmhbaaGreatDoorGBlk4
import Derived.Test.YtkaeceedofmhbaaGreatDoorGBlk6
import Derived.Deep.RegionLaw
import Derived.Deep.DeepCutAuto
namespace Go.Proofs.YtkaeceedofmhbaaGreatDoor
open Go.RowKit Bk
attribute [local go_sem ↓] Go.wp_at_zero Go.wp_at_succ

set_option linter.unusedSimpArgs false
section
variable {X : Nat → Prop} {H : Frozen} {w : World} {r : Nat} {sv : Value} {src : Bytes} {st : St} 

set_option maxRecDepth 100000 in
set_option maxHeartbeats 4000000 in
theorem inner_c (n : Nat) (u : Rule) (hb : BlockC n u) (h : RdOK X H w r sv src st) (hf : inner src (n + 1) u st ≠ .bad .fuel) :
    Calls Tryz.prog 76 #[.pointer (some ⟨r, 0, none⟩), .func (Fn.func (ruleFn u)) #[.pointer (some ⟨r, 0, none⟩)] #[]] w (Post X w (inner src (n + 1) u st) (Good rOpt X H r sv src)) := by
  obtain ⟨T, hT⟩ : ∃ T, T = inner src (n + 1) u st := ⟨_, rfl⟩
  rw [← hT]
  have FU := Lib.hid (show T ≠ .bad .fuel by rw [hT]; exact hf)
  have NX := Lib.hid next_c
  have FL := Lib.hid fail_c
  rw [inner] at hT
  have EQ0 := Lib.hid hT
  obtain ⟨fu, hfu⟩ : ∃ f, f = ruleFn u := ⟨_, rfl⟩
  have HB := Lib.hid (show ∀ (X : Nat → Prop) (H : Frozen) (r : Nat) (sv : Value) (src : Bytes) (st : St) (w : World), RdOK X H w r sv src st → block src n u st ≠ .bad .fuel →
    Calls Tryz.prog 27 #[.pointer (some ⟨r, 0, none⟩), .func (Fn.func fu) #[.pointer (some ⟨r, 0, none⟩)] #[]] w (Post X w (block src n u st) (Good rInts X H r sv src)) from by rw [hfu]; exact hb)
  rw [← hfu]
  obtain ⟨s0, _, h0, hfr0⟩ := ItP.start h (newItem H 0 0) rfl ⟨Int.le_refl 0, by show (0 : Int) < _; decide⟩
  obtain ⟨w0, hw0⟩ : ∃ w0, w0 = w.alloc (Obj.cells #[.int .i64 0, .int .i64 0, .string ⟨#[]⟩, .int .i64 0, .slice none 0 0, .string ⟨#[]⟩, .int .i64 0, .slice none 0 0, .string ⟨#[]⟩, .int .i64 0, .slice none 0 0, .string ⟨#[]⟩, .int .i64 0, .slice none 0 0, .slice none 0 0, .slice none 0 0, .int .i64 0, .int .i64 0, .string ⟨#[]⟩, .slice none 0 0, .slice none 0 0] 40) := ⟨_, rfl⟩
  obtain ⟨b, hb0⟩ : ∃ b, b = w.heap.size := ⟨_, rfl⟩
  obtain ⟨x0, hx0⟩ : ∃ x0 : ItemV, x0 = { kind := 0, pos := 0 } := ⟨_, rfl⟩
  have IP0 := Lib.hid (show ItP X H w0 r sv src st b x0 s0 by rw [hw0, hb0, hx0]; exact h0)
  have FR0 := Lib.hid (show Fr X w w0 by rw [hw0]; exact hfr0)
  have LE0 := Lib.hid (Le.refl H)
  have XE := Lib.hid (show x0.e = [] by rw [hx0])
  clear h hf hT hb h0 hfr0 hfu hx0
  go_enter Tryz.func76, Tryz.ntmps76
  go_wp2_with fail
  rw [← hw0, ← hb0]
  clear hw0 hb0
  refine (see_g 31 IP0.out.rd (fun e => FU.out (EQ0.out.trans (bind_bad e)))).mono ?_
  intro e w1 hp
  rcases hp.elimG with ⟨a1, st1, v1, H1, hr, rfl, le, hR, hv, hfr⟩ | ⟨p, why, hr, rfl, hfr⟩
  rotate_left
  · have EQp := Lib.hid (EQ0.out.trans (bind_bad hr))
    have FRp := Lib.hid (FR0.out.trans hfr.unloc)
    clear hfr hr hp
    go_wp2_with fail
    exact ⟨rfl, Post.stop EQp.out FRp.out⟩
  obtain rfl : v1 = .bool a1 := hv
  have IP1 := Lib.hid (IP0.out.call hR le hfr)
  have FR1 := Lib.hid (FR0.out.trans hfr.unloc)
  have LE1 := Lib.hid (LE0.out.trans le)
  have EQ1 := Lib.hid (EQ0.out.trans (bind_ok hr))
  clear hR hfr le hr hp
  cases a1 with
  | true =>
    go_wp2_with fail
    have hE := EQ1.out
    simp only [if_true, if_false, Bool.false_eq_true] at hE
    have EQ1 := Lib.hid hE
    clear hE
    refine (begin_c 1 IP1.out.rd (fun e => FU.out (EQ1.out.trans (bind_bad e)))).mono ?_
    intro e w2 hp
    rcases hp.elimG with ⟨a2, st2, v2, H2, hr, rfl, le, hR, hv, hfr⟩ | ⟨p, why, hr, rfl, hfr⟩
    rotate_left
    · have EQp := Lib.hid (EQ1.out.trans (bind_bad hr))
      have FRp := Lib.hid (FR1.out.trans hfr.unloc)
      clear hfr hr hp
      go_wp2_with fail
      exact ⟨rfl, Post.stop EQp.out FRp.out⟩
    obtain rfl : v2 = .int .i64 (a2 : Int) := hv
    have IP2 := Lib.hid (IP1.out.call hR le hfr)
    have FR2 := Lib.hid (FR1.out.trans hfr.unloc)
    have LE2 := Lib.hid (LE1.out.trans le)
    have EQ2 := Lib.hid (EQ1.out.trans (bind_ok hr))
    obtain ⟨hk, hit⟩ := begin_row hr
    have hkx : st2.items[a2]? = some { kind := 1, pos := st1.at_ } := by rw [hit, hk]; simp
    obtain ⟨g, cap, cs, c17, hx, hcl, hc⟩ := hR.item_at hkx
    obtain ⟨N, hN⟩ : ∃ N, N = st2.items.length := ⟨_, rfl⟩
    rw [← hN] at c17
    have hkN : a2 < N := by rw [hN, hit, hk]; simp
    have HK2 := Lib.hid (show a2 < st2.items.length by rw [← hN]; exact hkN)
    have HX := Lib.hid hx
    have HCL := Lib.hid hcl
    have HC := Lib.hid hc
    have HKX := Lib.hid hkx
    clear hN hx hcl hc hkx hk hit
    clear hR hfr le hr hp
    go_upto_region 6 with (fail)
    refine wp_region_lit ?_
    iterate 7
      refine wpList_step (fun K hK => ?_)
      go_simp
      refine hK _ _ ?_
      clear hK K
    refine wpList_step (fun K hK => ?_)
    refine step_load_cells (by rfl) _ _ (by rfl) g (a2 * 21) (by rfl) cs item_agg (by rw [HCL.out]; exact itemSize) HC.out ?_
    refine hK _ _ ?_
    clear hK K
    refine wpList_step (fun K hK => ?_)
    refine step_store_cells (by rfl) _ _ _ (by rfl) b 0 (by rfl) cs (by rfl) (by rw [HCL.out]; exact itemSize) ?_ ?_ HX.out.one ?_
    · intro j hj
      rw [HCL.out] at hj
      rw [Nat.zero_add, cell_of_blk IP2.out.blk j, List.getElem?_eq_getElem (by simpa [itemCells] using hj)]; rfl
    · intro j _
      exact free_of_blk IP2.out.blk _
    go_simp
    refine hK _ _ ?_
    clear hK K
    refine wpList_nil ?_
    obtain ⟨s3, hs, hI, hfr⟩ := ItP.lay (by have h := IP2.out.rd; rw [IP2.out.enil (by rw [XE.out])] at h; exact h) IP2.out.txt IP2.out.gx IP2.out.xlt IP2.out.xb IP2.out.blk rfl HX.out HCL.out rfl ⟨Int.le_refl 0, by show (0 : Int) < _; decide⟩
    have IP3 := Lib.hid hI
    have FR3 := Lib.hid (FR2.out.trans hfr)
    have LE3 := Lib.hid LE2.out
    obtain ⟨x3, hx⟩ : ∃ x3 : ItemV, x3 = { kind := 1, pos := st1.at_ } := ⟨_, rfl⟩
    rw [← hx] at IP3
    have HX3 := Lib.hid hx
    have XE3 := Lib.hid (show x3.e = [] by rw [hx])
    obtain ⟨w3, hw⟩ : ∃ w3, w3 = w2.setCells b 0 cs := ⟨_, rfl⟩
    rw [← hw] at IP3 FR3 ⊢
    have EQ3 := Lib.hid (EQ2.out.trans (bind_ok (show row a2 st2 = .ok x3 st2 by unfold row; rw [List.getD_eq_getElem?_getD, HKX.out, hx]; rfl)))
    have HK3 := Lib.hid HK2.out
    clear hs hI hfr hx hw
    go_wp2_with fail
    refine (rword_c NX FL IP3.out.rd).mono ?_
    intro e w4 hp
    rcases hp.elimG with ⟨a4, st4, v4, H4, hr, rfl, le, hR, hv, hfr⟩ | ⟨p, why, hr, rfl, hfr⟩
    rotate_left
    · have EQp := Lib.hid (EQ3.out.trans (bind_bad hr))
      have FRp := Lib.hid (FR3.out.trans hfr.unloc)
      clear hfr hr hp
      go_wp2_with fail
      exact ⟨rfl, Post.stop EQp.out FRp.out⟩
    obtain ⟨i4, rfl, hi4⟩ := hv
    have IP4 := Lib.hid (IP3.out.call hR le hfr)
    have FR4 := Lib.hid (FR3.out.trans hfr.unloc)
    have LE4 := Lib.hid (LE3.out.trans le)
    have EQ4 := Lib.hid (EQ3.out.trans (bind_ok hr))
    have HK4 := Lib.hid (Nat.lt_of_lt_of_le HK3.out (keep_word _ _ _ hr))
    clear hR hfr le hr hp
    obtain ⟨ia4, il4, ic4, hsl⟩ := FInts.slice hi4
    subst hsl
    have g0 : w4.cell? ⟨b, 2, none⟩ = some (str x3.name.word) := cell_of_blk IP4.out.blk 2
    have g1 : w4.cell? ⟨b, 3, none⟩ = some (.int .i64 x3.name.at_) := cell_of_blk IP4.out.blk 3
    have g2 : w4.cell? ⟨b, 4, none⟩ = some s3.nv := cell_of_blk IP4.out.blk 4
    have q0 := free_of_blk IP4.out.blk 2
    have q1 := free_of_blk IP4.out.blk 3
    have q2 := free_of_blk IP4.out.blk 4
    obtain ⟨hI, hfr⟩ := IP4.out.put_name hi4
    have IP5 := Lib.hid hI
    have FR5 := Lib.hid (FR4.out.trans hfr)
    have LE5 := Lib.hid LE4.out
    have EQ5 := Lib.hid EQ4.out
    obtain ⟨w5, hw⟩ : ∃ w5, w5 = ((w4.setCell ⟨b, 2, none⟩ (.string ⟨a4.word.toArray⟩)).setCell ⟨b, 3, none⟩ (.int .i64 a4.at_)).setCell ⟨b, 4, none⟩ (.slice ia4 il4 ic4) := ⟨_, rfl⟩
    have hw' : w5 = ((w4.setCell ⟨b, 2, none⟩ (str a4.word)).setCell ⟨b, 3, none⟩ (.int .i64 a4.at_)).setCell ⟨b, 4, none⟩ (.slice ia4 il4 ic4) := hw
    rw [← hw'] at IP5 FR5
    clear hw'
    obtain ⟨x5, hx5⟩ : ∃ x5, x5 = { x3 with name := a4 } := ⟨_, rfl⟩
    rw [← hx5] at IP5
    obtain ⟨s5, hs⟩ : ∃ s5, s5 = { s3 with nv := (.slice ia4 il4 ic4) } := ⟨_, rfl⟩
    rw [← hs] at IP5
    have HX5 := Lib.hid hx5
    clear hI hfr hs hx5
    go_wp2_with fail
    rw [← hw]
    clear hw g0 g1 g2 q0 q1 q2
    have HK5 := Lib.hid HK4.out
    refine (must_c NX FL 13 IP5.out.rd (fun e => FU.out (EQ5.out.trans (bind_bad e)))).mono ?_
    intro e w6 hp
    rcases hp.elimG with ⟨a6, st6, v6, H6, hr, rfl, le, hR, hv, hfr⟩ | ⟨p, why, hr, rfl, hfr⟩
    rotate_left
    · have EQp := Lib.hid (EQ5.out.trans (bind_bad hr))
      have FRp := Lib.hid (FR5.out.trans hfr.unloc)
      clear hfr hr hp
      go_wp2_with fail
      exact ⟨rfl, Post.stop EQp.out FRp.out⟩
    obtain rfl : v6 = .tuple #[] := hv
    have IP6 := Lib.hid (IP5.out.call hR le hfr)
    have FR6 := Lib.hid (FR5.out.trans hfr.unloc)
    have LE6 := Lib.hid (LE5.out.trans le)
    have EQ6 := Lib.hid (EQ5.out.trans (bind_ok hr))
    have HK6 := Lib.hid (Nat.lt_of_lt_of_le HK5.out (keep_must _ _ _ hr))
    clear hR hfr le hr hp
    go_wp2_with fail
    refine (expr_c n _ _ _ _ _ _ _ 0 IP6.out.rd (fun e => FU.out (EQ6.out.trans (bind_bad e)))).mono ?_
    intro e w7 hp
    rcases hp.elimG with ⟨a7, st7, v7, H7, hr, rfl, le, hR, hv, hfr⟩ | ⟨p, why, hr, rfl, hfr⟩
    rotate_left
    · have EQp := Lib.hid (EQ6.out.trans (bind_bad hr))
      have FRp := Lib.hid (FR6.out.trans hfr.unloc)
      clear hfr hr hp
      go_wp2_with fail
      exact ⟨rfl, Post.stop EQp.out FRp.out⟩
    obtain rfl : v7 = .int .i64 a7 := hv
    have IP7 := Lib.hid (IP6.out.call hR le hfr)
    have FR7 := Lib.hid (FR6.out.trans hfr.unloc)
    have LE7 := Lib.hid (LE6.out.trans le)
    have EQ7 := Lib.hid (EQ6.out.trans (bind_ok hr))
    have HK7 := Lib.hid (Nat.lt_of_lt_of_le HK6.out (keep_expr _ _ _ hr))
    clear hR hfr le hr hp
    have g0 : w7.cell? ⟨b, 15, none⟩ = some (s5.ev) := cell_of_blk IP7.out.blk 15
    have hlb : b < w7.heap.size := IP7.out.lt
    have g1 : (w7.alloc (.cells #[.int .i64 a7] 3)).cell? ⟨b, 15, none⟩ = some (s5.ev) := (World.cell?_of_block (w := w7) (a := ⟨b, 15, none⟩) (heap_alloc_old w7 _ hlb)).trans g0
    have q0 := (World.frozen?_of_block (w := w7) (a := ⟨b, 15, none⟩) (heap_alloc_old w7 (.cells #[.int .i64 a7] 3) hlb)).trans (free_of_blk IP7.out.blk 15)
    obtain ⟨hI, hfr⟩ := IP7.out.put_e (a := a7) (by rw [HX5.out, HX3.out])
    have IP8 := Lib.hid hI
    have FR8 := Lib.hid (FR7.out.trans hfr)
    have LE8 := Lib.hid LE7.out
    have EQ8 := Lib.hid EQ7.out
    obtain ⟨w8, hw⟩ : ∃ w8, w8 = (w7.alloc (.cells #[.int .i64 a7] 3)).setCell ⟨b, 15, none⟩ (.slice (some ⟨w7.heap.size, 0, none⟩) 1 1) := ⟨_, rfl⟩
    rw [← hw] at IP8 FR8
    obtain ⟨x8, hx8⟩ : ∃ x8, x8 = { x5 with e := x5.e ++ [a7] } := ⟨_, rfl⟩
    rw [← hx8] at IP8
    obtain ⟨s8, hs⟩ : ∃ s8 : ItemS, s8 = { s5 with ev := .slice (some ⟨w7.heap.size, 0, none⟩) 1 1 } := ⟨_, rfl⟩
    rw [← hs] at IP8
    have HX8 := Lib.hid hx8
    clear hI hfr hs hx8 hlb
    have HK8 := Lib.hid HK7.out
    go_wp2_with fail
    rw [← hw]
    clear hw g0 g1 q0
    refine (must_c NX FL 10 IP8.out.rd (fun e => FU.out (EQ8.out.trans (bind_bad e)))).mono ?_
    intro e w9 hp
    rcases hp.elimG with ⟨a9, st9, v9, H9, hr, rfl, le, hR, hv, hfr⟩ | ⟨p, why, hr, rfl, hfr⟩
    rotate_left
    · have EQp := Lib.hid (EQ8.out.trans (bind_bad hr))
      have FRp := Lib.hid (FR8.out.trans hfr.unloc)
      clear hfr hr hp
      go_wp2_with fail
      exact ⟨rfl, Post.stop EQp.out FRp.out⟩
    obtain rfl : v9 = .tuple #[] := hv
    have IP9 := Lib.hid (IP8.out.call hR le hfr)
    have FR9 := Lib.hid (FR8.out.trans hfr.unloc)
    have LE9 := Lib.hid (LE8.out.trans le)
    have EQ9 := Lib.hid (EQ8.out.trans (bind_ok hr))
    have HK9 := Lib.hid (Nat.lt_of_lt_of_le HK8.out (keep_must _ _ _ hr))
    clear hR hfr le hr hp
    have hE := EQ9.out
    rw [show ({ x3 with name := a4, e := [a7] } : ItemV) = x8 from (by (rw [HX8.out, HX5.out, HX3.out]) <;> rfl)] at hE
    have EQ9 := Lib.hid hE
    clear hE
    obtain ⟨H8, hle, hR8, hxR⟩ := IP9.out.done
    have LE8 := Lib.hid (LE9.out.trans hle)
    have RD8 := Lib.hid hR8
    have HXR := Lib.hid hxR
    obtain ⟨c7, hc7⟩ : ∃ c7, c7 = itemCells x8 s8 := ⟨_, rfl⟩
    rw [← hc7] at HXR
    have HC7 := Lib.hid (show ∀ (j : Nat) (v : Value), c7[j]? = some v → w9.cell? ⟨b, 0 + j, none⟩ = some v from fun j v hj => by rw [Nat.zero_add, cell_of_blk IP9.out.blk, ← hc7]; exact hj)
    have HL7 := Lib.hid (show c7.length = 21 by rw [hc7]; rfl)
    clear hle hR8 hxR hc7
    go_upto_region 33 with (fail)
    refine wp_region_lit ?_
    iterate 2
      refine wpList_step (fun K hK => ?_)
      go_simp
      refine hK _ _ ?_
      clear hK K
    refine wpList_step (fun K hK => ?_)
    refine step_load_cells (by rfl) _ _ (by rfl) b 0 (by rfl) c7 item_agg (by rw [HL7.out]; exact itemSize) HC7.out ?_
    refine hK _ _ ?_
    clear hK K
    go_wp2_with fail
    refine (end_c a2 HXR.out HK9.out RD8.out).mono ?_
    intro e w10 hp
    rcases hp.elimG with ⟨a10, st10, v10, H10, hr, rfl, le, hR, hv, hfr⟩ | ⟨p, why, hr, rfl, hfr⟩
    rotate_left
    · have EQp := Lib.hid (EQ9.out.trans (bind_bad hr))
      have FRp := Lib.hid (FR9.out.trans hfr)
      clear hfr hr hp
      go_wp2_with fail
      exact ⟨rfl, Post.stop EQp.out FRp.out⟩
    obtain rfl : v10 = .int .i64 a10 := hv
    have FIN := Lib.hid (show Post X w T (Good rOpt X H r sv src) (.returned (.tuple #[.int .i64 a10, .bool true])) w10 from Post.ok (EQ9.out.trans ((bind_ok hr).trans rfl)) ⟨H10, LE8.out.trans le, hR, rfl⟩ (FR9.out.trans hfr))
    clear hfr hr hp hR le
    go_wp2_with fail
    go_ret2
    exact FIN.out
  | false =>
    go_wp2_with fail
    have hE := EQ1.out
    simp only [if_true, if_false, Bool.false_eq_true] at hE
    have EQ1 := Lib.hid hE
    clear hE
    refine (see_g 36 IP1.out.rd (fun e => FU.out (EQ1.out.trans (bind_bad e)))).mono ?_
    intro e w2 hp
    rcases hp.elimG with ⟨a2, st2, v2, H2, hr, rfl, le, hR, hv, hfr⟩ | ⟨p, why, hr, rfl, hfr⟩
    rotate_left
    · have EQp := Lib.hid (EQ1.out.trans (bind_bad hr))
      have FRp := Lib.hid (FR1.out.trans hfr.unloc)
      clear hfr hr hp
      go_wp2_with fail
      exact ⟨rfl, Post.stop EQp.out FRp.out⟩
    obtain rfl : v2 = .bool a2 := hv
    have IP2 := Lib.hid (IP1.out.call hR le hfr)
    have FR2 := Lib.hid (FR1.out.trans hfr.unloc)
    have LE2 := Lib.hid (LE1.out.trans le)
    have EQ2 := Lib.hid (EQ1.out.trans (bind_ok hr))
    clear hR hfr le hr hp
    cases a2 with
    | true =>
      go_wp2_with fail
      have hE := EQ2.out
      simp only [if_true, if_false, Bool.false_eq_true] at hE
      have EQ2 := Lib.hid hE
      clear hE
      refine (begin_c 4 IP2.out.rd (fun e => FU.out (EQ2.out.trans (bind_bad e)))).mono ?_
      intro e w3 hp
      rcases hp.elimG with ⟨a3, st3, v3, H3, hr, rfl, le, hR, hv, hfr⟩ | ⟨p, why, hr, rfl, hfr⟩
      rotate_left
      · have EQp := Lib.hid (EQ2.out.trans (bind_bad hr))
        have FRp := Lib.hid (FR2.out.trans hfr.unloc)
        clear hfr hr hp
        go_wp2_with fail
        exact ⟨rfl, Post.stop EQp.out FRp.out⟩
      obtain rfl : v3 = .int .i64 (a3 : Int) := hv
      have IP3 := Lib.hid (IP2.out.call hR le hfr)
      have FR3 := Lib.hid (FR2.out.trans hfr.unloc)
      have LE3 := Lib.hid (LE2.out.trans le)
      have EQ3 := Lib.hid (EQ2.out.trans (bind_ok hr))
      obtain ⟨hk, hit⟩ := begin_row hr
      have hkx : st3.items[a3]? = some { kind := 4, pos := st2.at_ } := by rw [hit, hk]; simp
      obtain ⟨g, cap, cs, c17, hx, hcl, hc⟩ := hR.item_at hkx
      obtain ⟨N, hN⟩ : ∃ N, N = st3.items.length := ⟨_, rfl⟩
      rw [← hN] at c17
      have hkN : a3 < N := by rw [hN, hit, hk]; simp
      have HK3 := Lib.hid (show a3 < st3.items.length by rw [← hN]; exact hkN)
      have HX := Lib.hid hx
      have HCL := Lib.hid hcl
      have HC := Lib.hid hc
      have HKX := Lib.hid hkx
      clear hN hx hcl hc hkx hk hit
      clear hR hfr le hr hp
      go_upto_region 13 with (fail)
      refine wp_region_lit ?_
      iterate 7
        refine wpList_step (fun K hK => ?_)
        go_simp
        refine hK _ _ ?_
        clear hK K
      refine wpList_step (fun K hK => ?_)
      refine step_load_cells (by rfl) _ _ (by rfl) g (a3 * 21) (by rfl) cs item_agg (by rw [HCL.out]; exact itemSize) HC.out ?_
      refine hK _ _ ?_
      clear hK K
      refine wpList_step (fun K hK => ?_)
      refine step_store_cells (by rfl) _ _ _ (by rfl) b 0 (by rfl) cs (by rfl) (by rw [HCL.out]; exact itemSize) ?_ ?_ HX.out.one ?_
      · intro j hj
        rw [HCL.out] at hj
        rw [Nat.zero_add, cell_of_blk IP3.out.blk j, List.getElem?_eq_getElem (by simpa [itemCells] using hj)]; rfl
      · intro j _
        exact free_of_blk IP3.out.blk _
      go_simp
      refine hK _ _ ?_
      clear hK K
      refine wpList_nil ?_
      obtain ⟨s4, hs, hI, hfr⟩ := ItP.lay (by have h := IP3.out.rd; rw [IP3.out.enil (by rw [XE.out])] at h; exact h) IP3.out.txt IP3.out.gx IP3.out.xlt IP3.out.xb IP3.out.blk rfl HX.out HCL.out rfl ⟨Int.le_refl 0, by show (0 : Int) < _; decide⟩
      have IP4 := Lib.hid hI
      have FR4 := Lib.hid (FR3.out.trans hfr)
      have LE4 := Lib.hid LE3.out
      obtain ⟨x4, hx⟩ : ∃ x4 : ItemV, x4 = { kind := 4, pos := st2.at_ } := ⟨_, rfl⟩
      rw [← hx] at IP4
      have HX4 := Lib.hid hx
      have XE4 := Lib.hid (show x4.e = [] by rw [hx])
      obtain ⟨w4, hw⟩ : ∃ w4, w4 = w3.setCells b 0 cs := ⟨_, rfl⟩
      rw [← hw] at IP4 FR4 ⊢
      have EQ4 := Lib.hid (EQ3.out.trans (bind_ok (show row a3 st3 = .ok x4 st3 by unfold row; rw [List.getD_eq_getElem?_getD, HKX.out, hx]; rfl)))
      have HK4 := Lib.hid HK3.out
      clear hs hI hfr hx hw
      go_wp2_with fail
      refine (expr_c n _ _ _ _ _ _ _ 0 IP4.out.rd (fun e => FU.out (EQ4.out.trans (bind_bad e)))).mono ?_
      intro e w5 hp
      rcases hp.elimG with ⟨a5, st5, v5, H5, hr, rfl, le, hR, hv, hfr⟩ | ⟨p, why, hr, rfl, hfr⟩
      rotate_left
      · have EQp := Lib.hid (EQ4.out.trans (bind_bad hr))
        have FRp := Lib.hid (FR4.out.trans hfr.unloc)
        clear hfr hr hp
        go_wp2_with fail
        exact ⟨rfl, Post.stop EQp.out FRp.out⟩
      obtain rfl : v5 = .int .i64 a5 := hv
      have IP5 := Lib.hid (IP4.out.call hR le hfr)
      have FR5 := Lib.hid (FR4.out.trans hfr.unloc)
      have LE5 := Lib.hid (LE4.out.trans le)
      have EQ5 := Lib.hid (EQ4.out.trans (bind_ok hr))
      have HK5 := Lib.hid (Nat.lt_of_lt_of_le HK4.out (keep_expr _ _ _ hr))
      clear hR hfr le hr hp
      have g0 : w5.cell? ⟨b, 15, none⟩ = some (s4.ev) := cell_of_blk IP5.out.blk 15
      have hlb : b < w5.heap.size := IP5.out.lt
      have g1 : (w5.alloc (.cells #[.int .i64 a5] 3)).cell? ⟨b, 15, none⟩ = some (s4.ev) := (World.cell?_of_block (w := w5) (a := ⟨b, 15, none⟩) (heap_alloc_old w5 _ hlb)).trans g0
      have q0 := (World.frozen?_of_block (w := w5) (a := ⟨b, 15, none⟩) (heap_alloc_old w5 (.cells #[.int .i64 a5] 3) hlb)).trans (free_of_blk IP5.out.blk 15)
      obtain ⟨hI, hfr⟩ := IP5.out.put_e (a := a5) (by rw [HX4.out])
      have IP6 := Lib.hid hI
      have FR6 := Lib.hid (FR5.out.trans hfr)
      have LE6 := Lib.hid LE5.out
      have EQ6 := Lib.hid EQ5.out
      obtain ⟨w6, hw⟩ : ∃ w6, w6 = (w5.alloc (.cells #[.int .i64 a5] 3)).setCell ⟨b, 15, none⟩ (.slice (some ⟨w5.heap.size, 0, none⟩) 1 1) := ⟨_, rfl⟩
      rw [← hw] at IP6 FR6
      obtain ⟨x6, hx6⟩ : ∃ x6, x6 = { x4 with e := x4.e ++ [a5] } := ⟨_, rfl⟩
      rw [← hx6] at IP6
      obtain ⟨s6, hs⟩ : ∃ s6 : ItemS, s6 = { s4 with ev := .slice (some ⟨w5.heap.size, 0, none⟩) 1 1 } := ⟨_, rfl⟩
      rw [← hs] at IP6
      have HX6 := Lib.hid hx6
      clear hI hfr hs hx6 hlb
      have HK6 := Lib.hid HK5.out
      go_wp2_with fail
      rw [← hw]
      clear hw g0 g1 q0
      refine (must_c NX FL 10 IP6.out.rd (fun e => FU.out (EQ6.out.trans (bind_bad e)))).mono ?_
      intro e w7 hp
      rcases hp.elimG with ⟨a7, st7, v7, H7, hr, rfl, le, hR, hv, hfr⟩ | ⟨p, why, hr, rfl, hfr⟩
      rotate_left
      · have EQp := Lib.hid (EQ6.out.trans (bind_bad hr))
        have FRp := Lib.hid (FR6.out.trans hfr.unloc)
        clear hfr hr hp
        go_wp2_with fail
        exact ⟨rfl, Post.stop EQp.out FRp.out⟩
      obtain rfl : v7 = .tuple #[] := hv
      have IP7 := Lib.hid (IP6.out.call hR le hfr)
      have FR7 := Lib.hid (FR6.out.trans hfr.unloc)
      have LE7 := Lib.hid (LE6.out.trans le)
      have EQ7 := Lib.hid (EQ6.out.trans (bind_ok hr))
      have HK7 := Lib.hid (Nat.lt_of_lt_of_le HK6.out (keep_must _ _ _ hr))
      clear hR hfr le hr hp
      have hE := EQ7.out
      rw [show ({ x4 with e := [a5] } : ItemV) = x6 from (by (rw [HX6.out, HX4.out]) <;> rfl)] at hE
      have EQ7 := Lib.hid hE
      clear hE
      obtain ⟨H8, hle, hR8, hxR⟩ := IP7.out.done
      have LE8 := Lib.hid (LE7.out.trans hle)
      have RD8 := Lib.hid hR8
      have HXR := Lib.hid hxR
      obtain ⟨c7, hc7⟩ : ∃ c7, c7 = itemCells x6 s6 := ⟨_, rfl⟩
      rw [← hc7] at HXR
      have HC7 := Lib.hid (show ∀ (j : Nat) (v : Value), c7[j]? = some v → w7.cell? ⟨b, 0 + j, none⟩ = some v from fun j v hj => by rw [Nat.zero_add, cell_of_blk IP7.out.blk, ← hc7]; exact hj)
      have HL7 := Lib.hid (show c7.length = 21 by rw [hc7]; rfl)
      clear hle hR8 hxR hc7
      go_upto_region 33 with (fail)
      refine wp_region_lit ?_
      iterate 2
        refine wpList_step (fun K hK => ?_)
        go_simp
        refine hK _ _ ?_
        clear hK K
      refine wpList_step (fun K hK => ?_)
      refine step_load_cells (by rfl) _ _ (by rfl) b 0 (by rfl) c7 item_agg (by rw [HL7.out]; exact itemSize) HC7.out ?_
      refine hK _ _ ?_
      clear hK K
      go_wp2_with fail
      refine (end_c a3 HXR.out HK7.out RD8.out).mono ?_
      intro e w8 hp
      rcases hp.elimG with ⟨a8, st8, v8, H8, hr, rfl, le, hR, hv, hfr⟩ | ⟨p, why, hr, rfl, hfr⟩
      rotate_left
      · have EQp := Lib.hid (EQ7.out.trans (bind_bad hr))
        have FRp := Lib.hid (FR7.out.trans hfr)
        clear hfr hr hp
        go_wp2_with fail
        exact ⟨rfl, Post.stop EQp.out FRp.out⟩
      obtain rfl : v8 = .int .i64 a8 := hv
      have FIN := Lib.hid (show Post X w T (Good rOpt X H r sv src) (.returned (.tuple #[.int .i64 a8, .bool true])) w8 from Post.ok (EQ7.out.trans ((bind_ok hr).trans rfl)) ⟨H8, LE8.out.trans le, hR, rfl⟩ (FR7.out.trans hfr))
      clear hfr hr hp hR le
      go_wp2_with fail
      go_ret2
      exact FIN.out
    | false =>
      go_wp2_with fail
      have hE := EQ2.out
      simp only [if_true, if_false, Bool.false_eq_true] at hE
      have EQ2 := Lib.hid hE
      clear hE
      refine (see_g 32 IP2.out.rd (fun e => FU.out (EQ2.out.trans (bind_bad e)))).mono ?_
      intro e w3 hp
      rcases hp.elimG with ⟨a3, st3, v3, H3, hr, rfl, le, hR, hv, hfr⟩ | ⟨p, why, hr, rfl, hfr⟩
      rotate_left
      · have EQp := Lib.hid (EQ2.out.trans (bind_bad hr))
        have FRp := Lib.hid (FR2.out.trans hfr.unloc)
        clear hfr hr hp
        go_wp2_with fail
        exact ⟨rfl, Post.stop EQp.out FRp.out⟩
      obtain rfl : v3 = .bool a3 := hv
      have IP3 := Lib.hid (IP2.out.call hR le hfr)
      have FR3 := Lib.hid (FR2.out.trans hfr.unloc)
      have LE3 := Lib.hid (LE2.out.trans le)
      have EQ3 := Lib.hid (EQ2.out.trans (bind_ok hr))
      clear hR hfr le hr hp
      cases a3 with
      | true =>
        go_wp2_with fail
        have hE := EQ3.out
        simp only [if_true, if_false, Bool.false_eq_true] at hE
        have EQ3 := Lib.hid hE
        clear hE
        refine (begin_c 2 IP3.out.rd (fun e => FU.out (EQ3.out.trans (bind_bad e)))).mono ?_
        intro e w4 hp
        rcases hp.elimG with ⟨a4, st4, v4, H4, hr, rfl, le, hR, hv, hfr⟩ | ⟨p, why, hr, rfl, hfr⟩
        rotate_left
        · have EQp := Lib.hid (EQ3.out.trans (bind_bad hr))
          have FRp := Lib.hid (FR3.out.trans hfr.unloc)
          clear hfr hr hp
          go_wp2_with fail
          exact ⟨rfl, Post.stop EQp.out FRp.out⟩
        obtain rfl : v4 = .int .i64 (a4 : Int) := hv
        have IP4 := Lib.hid (IP3.out.call hR le hfr)
        have FR4 := Lib.hid (FR3.out.trans hfr.unloc)
        have LE4 := Lib.hid (LE3.out.trans le)
        have EQ4 := Lib.hid (EQ3.out.trans (bind_ok hr))
        obtain ⟨hk, hit⟩ := begin_row hr
        have hkx : st4.items[a4]? = some { kind := 2, pos := st3.at_ } := by rw [hit, hk]; simp
        obtain ⟨g, cap, cs, c17, hx, hcl, hc⟩ := hR.item_at hkx
        obtain ⟨N, hN⟩ : ∃ N, N = st4.items.length := ⟨_, rfl⟩
        rw [← hN] at c17
        have hkN : a4 < N := by rw [hN, hit, hk]; simp
        have HK4 := Lib.hid (show a4 < st4.items.length by rw [← hN]; exact hkN)
        have HX := Lib.hid hx
        have HCL := Lib.hid hcl
        have HC := Lib.hid hc
        have HKX := Lib.hid hkx
        clear hN hx hcl hc hkx hk hit
        clear hR hfr le hr hp
        go_upto_region 18 with (fail)
        refine wp_region_lit ?_
        iterate 7
          refine wpList_step (fun K hK => ?_)
          go_simp
          refine hK _ _ ?_
          clear hK K
        refine wpList_step (fun K hK => ?_)
        refine step_load_cells (by rfl) _ _ (by rfl) g (a4 * 21) (by rfl) cs item_agg (by rw [HCL.out]; exact itemSize) HC.out ?_
        refine hK _ _ ?_
        clear hK K
        refine wpList_step (fun K hK => ?_)
        refine step_store_cells (by rfl) _ _ _ (by rfl) b 0 (by rfl) cs (by rfl) (by rw [HCL.out]; exact itemSize) ?_ ?_ HX.out.one ?_
        · intro j hj
          rw [HCL.out] at hj
          rw [Nat.zero_add, cell_of_blk IP4.out.blk j, List.getElem?_eq_getElem (by simpa [itemCells] using hj)]; rfl
        · intro j _
          exact free_of_blk IP4.out.blk _
        go_simp
        refine hK _ _ ?_
        clear hK K
        refine wpList_nil ?_
        obtain ⟨s5, hs, hI, hfr⟩ := ItP.lay (by have h := IP4.out.rd; rw [IP4.out.enil (by rw [XE.out])] at h; exact h) IP4.out.txt IP4.out.gx IP4.out.xlt IP4.out.xb IP4.out.blk rfl HX.out HCL.out rfl ⟨Int.le_refl 0, by show (0 : Int) < _; decide⟩
        have IP5 := Lib.hid hI
        have FR5 := Lib.hid (FR4.out.trans hfr)
        have LE5 := Lib.hid LE4.out
        obtain ⟨x5, hx⟩ : ∃ x5 : ItemV, x5 = { kind := 2, pos := st3.at_ } := ⟨_, rfl⟩
        rw [← hx] at IP5
        have HX5 := Lib.hid hx
        have XE5 := Lib.hid (show x5.e = [] by rw [hx])
        obtain ⟨w5, hw⟩ : ∃ w5, w5 = w4.setCells b 0 cs := ⟨_, rfl⟩
        rw [← hw] at IP5 FR5 ⊢
        have EQ5 := Lib.hid (EQ4.out.trans (bind_ok (show row a4 st4 = .ok x5 st4 by unfold row; rw [List.getD_eq_getElem?_getD, HKX.out, hx]; rfl)))
        have HK5 := Lib.hid HK4.out
        clear hs hI hfr hx hw
        go_wp2_with fail
        refine (rword_c NX FL IP5.out.rd).mono ?_
        intro e w6 hp
        rcases hp.elimG with ⟨a6, st6, v6, H6, hr, rfl, le, hR, hv, hfr⟩ | ⟨p, why, hr, rfl, hfr⟩
        rotate_left
        · have EQp := Lib.hid (EQ5.out.trans (bind_bad hr))
          have FRp := Lib.hid (FR5.out.trans hfr.unloc)
          clear hfr hr hp
          go_wp2_with fail
          exact ⟨rfl, Post.stop EQp.out FRp.out⟩
        obtain ⟨i6, rfl, hi6⟩ := hv
        have IP6 := Lib.hid (IP5.out.call hR le hfr)
        have FR6 := Lib.hid (FR5.out.trans hfr.unloc)
        have LE6 := Lib.hid (LE5.out.trans le)
        have EQ6 := Lib.hid (EQ5.out.trans (bind_ok hr))
        have HK6 := Lib.hid (Nat.lt_of_lt_of_le HK5.out (keep_word _ _ _ hr))
        clear hR hfr le hr hp
        obtain ⟨ia6, il6, ic6, hsl⟩ := FInts.slice hi6
        subst hsl
        have g0 : w6.cell? ⟨b, 2, none⟩ = some (str x5.name.word) := cell_of_blk IP6.out.blk 2
        have g1 : w6.cell? ⟨b, 3, none⟩ = some (.int .i64 x5.name.at_) := cell_of_blk IP6.out.blk 3
        have g2 : w6.cell? ⟨b, 4, none⟩ = some s5.nv := cell_of_blk IP6.out.blk 4
        have q0 := free_of_blk IP6.out.blk 2
        have q1 := free_of_blk IP6.out.blk 3
        have q2 := free_of_blk IP6.out.blk 4
        obtain ⟨hI, hfr⟩ := IP6.out.put_name hi6
        have IP7 := Lib.hid hI
        have FR7 := Lib.hid (FR6.out.trans hfr)
        have LE7 := Lib.hid LE6.out
        have EQ7 := Lib.hid EQ6.out
        obtain ⟨w7, hw⟩ : ∃ w7, w7 = ((w6.setCell ⟨b, 2, none⟩ (.string ⟨a6.word.toArray⟩)).setCell ⟨b, 3, none⟩ (.int .i64 a6.at_)).setCell ⟨b, 4, none⟩ (.slice ia6 il6 ic6) := ⟨_, rfl⟩
        have hw' : w7 = ((w6.setCell ⟨b, 2, none⟩ (str a6.word)).setCell ⟨b, 3, none⟩ (.int .i64 a6.at_)).setCell ⟨b, 4, none⟩ (.slice ia6 il6 ic6) := hw
        rw [← hw'] at IP7 FR7
        clear hw'
        obtain ⟨x7, hx7⟩ : ∃ x7, x7 = { x5 with name := a6 } := ⟨_, rfl⟩
        rw [← hx7] at IP7
        obtain ⟨s7, hs⟩ : ∃ s7, s7 = { s5 with nv := (.slice ia6 il6 ic6) } := ⟨_, rfl⟩
        rw [← hs] at IP7
        have HX7 := Lib.hid hx7
        clear hI hfr hs hx7
        go_wp2_with fail
        rw [← hw]
        clear hw g0 g1 g2 q0 q1 q2
        have HK7 := Lib.hid HK6.out
        have hE := EQ7.out
        try dsimp only at hE
        rw [← HX7.out] at hE
        have EQ7 := Lib.hid hE
        clear hE
        refine (must_c NX FL 33 IP7.out.rd (fun e => FU.out (EQ7.out.trans (bind_bad e)))).mono ?_
        intro e w8 hp
        rcases hp.elimG with ⟨a8, st8, v8, H8, hr, rfl, le, hR, hv, hfr⟩ | ⟨p, why, hr, rfl, hfr⟩
        rotate_left
        · have EQp := Lib.hid (EQ7.out.trans (bind_bad hr))
          have FRp := Lib.hid (FR7.out.trans hfr.unloc)
          clear hfr hr hp
          go_wp2_with fail
          exact ⟨rfl, Post.stop EQp.out FRp.out⟩
        obtain rfl : v8 = .tuple #[] := hv
        have IP8 := Lib.hid (IP7.out.call hR le hfr)
        have FR8 := Lib.hid (FR7.out.trans hfr.unloc)
        have LE8 := Lib.hid (LE7.out.trans le)
        have EQ8 := Lib.hid (EQ7.out.trans (bind_ok hr))
        have HK8 := Lib.hid (Nat.lt_of_lt_of_le HK7.out (keep_must _ _ _ hr))
        clear hR hfr le hr hp
        go_wp2_with fail
        go_upto_region 21 with (fail)
        have e2 : w8.cell? ⟨b, 15, none⟩ = some s7.ev := cell_of_blk IP8.out.blk 15
        have HEX := Lib.hid (expr_c n _ _ _ _ _ _ w8.drew 0 IP8.out.rd.drew (fun e => FU.out (EQ8.out.trans (bind_bad (more_bad e)))))
        obtain ⟨X1, hX1⟩ : ∃ X1, X1 = Loc X b s7.ev := ⟨_, rfl⟩
        cases hre : expr src n 0 st8 with
        | bad hb =>
          cases hb with
          | fuel => exact absurd (EQ8.out.trans (bind_bad (more_bad hre))) FU.out
          | stop p why =>
          have HEXP := Lib.hid (HEX.out.mono (R' := fun e w' => e = .panicked [{ v := haltV p why, recovered := false }] ∧ Fr X w w') (fun e w' hp => by
            rw [hre] at hp
            exact ⟨hp.1, FR8.out.trans ((Fr.drewOn X w8).trans hp.2.unloc)⟩))
          have EQp := Lib.hid (EQ8.out.trans (bind_bad (more_bad hre)))
          clear hre HEX
          refine wp_region_any (by kernel_rfl) ?_
          try (change wpAny _ _ _ _ _ _ _ (World.drew _))
          refine wpAny_take (i := 0) (v := ?_) rfl (by kernel_rfl) (by kernel_rfl) (by kernel_rfl) (fun _ _ _ h => h) (Or.inl ⟨by rfl, by intro w; go_simp; with_reducible rfl⟩) ?_
          refine wpAny_take (i := 2) (v := ?_) rfl (by kernel_rfl) (by kernel_rfl) (by kernel_rfl) (fun _ _ _ h => h) (Or.inl ⟨by rfl, by intro w; go_simp; with_reducible rfl⟩) ?_
          refine wpAny_ready (rs := [1, 3]) (by kernel_rfl) (by simp) ?_
          refine AllReady.cons rfl (fun K hK => ?_) (AllReady.cons rfl (fun K hK => ?_) AllReady.nil)
          · go_simp
            refine hK _ _ ?_
            clear hK K
            refine wpAny_ready (rs := [3]) (by kernel_rfl) (by simp) ?_
            refine AllReady.cons rfl (fun K hK => ?_) AllReady.nil
            · go_simp
              go_at_call 110
              refine HEXP.out.mono ?_
              rintro e wJ ⟨rfl, FRp⟩
              exact ⟨rfl, Post.stop EQp.out FRp⟩
          · go_simp
            go_at_call 110
            refine HEXP.out.mono ?_
            rintro e wJ ⟨rfl, FRp⟩
            exact ⟨rfl, Post.stop EQp.out FRp⟩
        | ok a9 st9 =>
          have hl : x7.e.length < most := Decidable.byContradiction fun hn => FU.out (EQ8.out.trans (bind_bad (more_few hre hn)))
          have hl' : x7.e.length < 1073741824 := hl
          have HKE8 := Lib.hid (keep_expr _ _ _ hre)
          have EQ9 := Lib.hid (EQ8.out.trans (bind_ok (more_ok hre hl)))
          have HEX2 := Lib.hid (HEX.out.mono (R' := fun e w' => ∃ HJ, e = .returned (.int .i64 a9) ∧ Le H8 HJ ∧ RdOK (Loc X b s7.ev) HJ w' r sv src st9 ∧ Fr (Loc X b s7.ev) w8.drew w') (fun e w' hp => by
            rw [hre] at hp
            obtain ⟨v, HJ, h1, h2, h3, h4, h5⟩ := Post.okG hp
            obtain rfl : v = .int .i64 a9 := h4
            exact ⟨HJ, h1, h2, h3, h5⟩))
          obtain ⟨i0, hi0, hz0, hz1, hz2⟩ := info_parts info3
          have hlb : b < w8.heap.size := IP8.out.lt
          clear hre HEX hl
          go_cut [] (fun wx => ∃ HJ sJ, ItP X HJ wx r sv src st9 b { x7 with e := x7.e ++ [a9] } sJ ∧ Fr X w8 wx ∧ Le H8 HJ)
          case first =>
            go_region_law (first
              | (go_simp; go_at_call 110; refine HEX2.out.mono ?_; rintro e wJ ⟨HJ, rfl, hleJ, hRJ, hfrJ⟩; have e2' : wJ.cell? ⟨b, 15, none⟩ = some s7.ev := (World.cell?_of_block (w := w8) (a := ⟨b, 15, none⟩) (hfrJ.block b (.inr (.inl rfl)))).trans e2; have hlJ : b < wJ.heap.size := Nat.lt_of_lt_of_le hlb hfrJ.size; have e2'' : (wJ.alloc (Obj.cells #[.int .i64 a9] 3)).cell? ⟨b, 15, none⟩ = some s7.ev := (World.cell?_of_block (w := wJ) (a := ⟨b, 15, none⟩) (heap_alloc_old wJ _ hlJ)).trans e2')
              | (refine step_append_lies _ (by rfl) _ _ _ (by rfl) 0 3 i0 _ 1 8 Tryz.underlying22 hi0 hz0 hz1 hz2 rfl (by omega) s7.ev x7.e.length (ints x7.e) (by rfl) (((IP8.out.drew.call hRJ hleJ hfrJ).erow).alloc _)
                  ⟨wJ.heap.size, 0, none⟩ 1 1 [.int .i64 a9] (by rfl) (by rfl) (World.news_of_block (cs := #[.int .i64 a9]) (t := 3) (fr := (0, 0)) (heap_alloc_new wJ _)) (by simp [Value.oneCell'])
                  (by omega) (by unfold maxLen; omega) (by omega) (by simp) (wJ.heap.size + 1) (by simp) ?_; intro gg cap wG hownG hgrow hat hltG;
                  have g2 : wG.frozen? ⟨b, 15, none⟩ = false := (World.frozen?_of_block (w := wJ) (a := ⟨b, 15, none⟩) (grown_block hgrow (IP8.out.drew.call hRJ hleJ hfrJ).lt (IP8.out.drew.call hRJ hleJ hfrJ).eb)).trans (free_of_blk (IP8.out.drew.call hRJ hleJ hfrJ).blk 15);
                  have k2 : wG.cell? ⟨b, 15, none⟩ = some s7.ev := (World.cell?_of_block (w := wJ) (a := ⟨b, 15, none⟩) (grown_block hgrow (IP8.out.drew.call hRJ hleJ hfrJ).lt (IP8.out.drew.call hRJ hleJ hfrJ).eb)).trans e2'))
            all_goals
              have IPJ := (IP8.out.drew.call hRJ hleJ hfrJ).alloc (.cells #[.int .i64 a9] 3)
              obtain ⟨IPG, f6⟩ := IPJ.grow (k := a9) hgrow hownG (by
                rcases hat with e | e
                · exact .inl (by rw [e]; rfl)
                · exact .inr ⟨gg, by simp; omega, rfl⟩)
              have f7 := (((Fr.drewOn X w8).trans hfrJ.unloc).trans ((Fr.refl X wJ).alloc (IP8.out.drew.call hRJ hleJ hfrJ).xlt (.cells #[.int .i64 a9] 3))).trans f6
              go_wp2_with fail
              go_meet
              exact ⟨HJ, _, IPG, f7, hleJ⟩
          case rest =>
            obtain ⟨H9, s9, hI, hfr, hle⟩ := hcut
            obtain ⟨w9, hw⟩ : ∃ w9, w9 = wc := ⟨_, rfl⟩
            rw [← hw] at hI hfr ⊢
            obtain ⟨x9, hx9⟩ : ∃ x9, x9 = { x7 with e := x7.e ++ [a9] } := ⟨_, rfl⟩
            rw [← hx9] at hI
            have hE := EQ9.out
            clear EQ9
            first | (rw [← hx9] at hE) | (dsimp only at hE; rw [← hx9] at hE)

            have EQ9 := Lib.hid hE
            clear hE
            have IP9 := Lib.hid hI
            have FR9 := Lib.hid (FR8.out.trans hfr)
            have LE9 := Lib.hid (LE8.out.trans hle)
            clear hx9
            clear hI hfr hle hw e2 hl' hi0 hz0 hz1 hz2 hlb HEX2
            go_wp2_with fail
            have HK9 := Lib.hid (Nat.lt_of_lt_of_le HK8.out HKE8.out)
            refine (must_c NX FL 12 IP9.out.rd (fun e => FU.out (EQ9.out.trans (bind_bad e)))).mono ?_
            intro e w10 hp
            rcases hp.elimG with ⟨a10, st10, v10, H10, hr, rfl, le, hR, hv, hfr⟩ | ⟨p, why, hr, rfl, hfr⟩
            rotate_left
            · have EQp := Lib.hid (EQ9.out.trans (bind_bad hr))
              have FRp := Lib.hid (FR9.out.trans hfr.unloc)
              clear hfr hr hp
              go_wp2_with fail
              exact ⟨rfl, Post.stop EQp.out FRp.out⟩
            obtain rfl : v10 = .tuple #[] := hv
            have IP10 := Lib.hid (IP9.out.call hR le hfr)
            have FR10 := Lib.hid (FR9.out.trans hfr.unloc)
            have LE10 := Lib.hid (LE9.out.trans le)
            have EQ10 := Lib.hid (EQ9.out.trans (bind_ok hr))
            have HK10 := Lib.hid (Nat.lt_of_lt_of_le HK9.out (keep_must _ _ _ hr))
            clear hR hfr le hr hp
            go_wp2_with fail
            go_upto_region 23 with (fail)
            have e2 : w10.cell? ⟨b, 15, none⟩ = some s9.ev := cell_of_blk IP10.out.blk 15
            have HEX := Lib.hid (expr_c n _ _ _ _ _ _ w10.drew 0 IP10.out.rd.drew (fun e => FU.out (EQ10.out.trans (bind_bad (more_bad e)))))
            obtain ⟨X1, hX1⟩ : ∃ X1, X1 = Loc X b s9.ev := ⟨_, rfl⟩
            cases hre : expr src n 0 st10 with
            | bad hb =>
              cases hb with
              | fuel => exact absurd (EQ10.out.trans (bind_bad (more_bad hre))) FU.out
              | stop p why =>
              have HEXP := Lib.hid (HEX.out.mono (R' := fun e w' => e = .panicked [{ v := haltV p why, recovered := false }] ∧ Fr X w w') (fun e w' hp => by
                rw [hre] at hp
                exact ⟨hp.1, FR10.out.trans ((Fr.drewOn X w10).trans hp.2.unloc)⟩))
              have EQp := Lib.hid (EQ10.out.trans (bind_bad (more_bad hre)))
              clear hre HEX
              refine wp_region_any (by kernel_rfl) ?_
              try (change wpAny _ _ _ _ _ _ _ (World.drew _))
              refine wpAny_take (i := 0) (v := ?_) rfl (by kernel_rfl) (by kernel_rfl) (by kernel_rfl) (fun _ _ _ h => h) (Or.inl ⟨by rfl, by intro w; go_simp; with_reducible rfl⟩) ?_
              refine wpAny_take (i := 2) (v := ?_) rfl (by kernel_rfl) (by kernel_rfl) (by kernel_rfl) (fun _ _ _ h => h) (Or.inl ⟨by rfl, by intro w; go_simp; with_reducible rfl⟩) ?_
              refine wpAny_ready (rs := [1, 3]) (by kernel_rfl) (by simp) ?_
              refine AllReady.cons rfl (fun K hK => ?_) (AllReady.cons rfl (fun K hK => ?_) AllReady.nil)
              · go_simp
                refine hK _ _ ?_
                clear hK K
                refine wpAny_ready (rs := [3]) (by kernel_rfl) (by simp) ?_
                refine AllReady.cons rfl (fun K hK => ?_) AllReady.nil
                · go_simp
                  go_at_call 110
                  refine HEXP.out.mono ?_
                  rintro e wJ ⟨rfl, FRp⟩
                  exact ⟨rfl, Post.stop EQp.out FRp⟩
              · go_simp
                go_at_call 110
                refine HEXP.out.mono ?_
                rintro e wJ ⟨rfl, FRp⟩
                exact ⟨rfl, Post.stop EQp.out FRp⟩
            | ok a11 st11 =>
              have hl : x9.e.length < most := Decidable.byContradiction fun hn => FU.out (EQ10.out.trans (bind_bad (more_few hre hn)))
              have hl' : x9.e.length < 1073741824 := hl
              have HKE10 := Lib.hid (keep_expr _ _ _ hre)
              have EQ11 := Lib.hid (EQ10.out.trans (bind_ok (more_ok hre hl)))
              have HEX2 := Lib.hid (HEX.out.mono (R' := fun e w' => ∃ HJ, e = .returned (.int .i64 a11) ∧ Le H10 HJ ∧ RdOK (Loc X b s9.ev) HJ w' r sv src st11 ∧ Fr (Loc X b s9.ev) w10.drew w') (fun e w' hp => by
                rw [hre] at hp
                obtain ⟨v, HJ, h1, h2, h3, h4, h5⟩ := Post.okG hp
                obtain rfl : v = .int .i64 a11 := h4
                exact ⟨HJ, h1, h2, h3, h5⟩))
              obtain ⟨i0, hi0, hz0, hz1, hz2⟩ := info_parts info3
              have hlb : b < w10.heap.size := IP10.out.lt
              clear hre HEX hl
              go_cut [] (fun wx => ∃ HJ sJ, ItP X HJ wx r sv src st11 b { x9 with e := x9.e ++ [a11] } sJ ∧ Fr X w10 wx ∧ Le H10 HJ)
              case first =>
                go_region_law (first
                  | (go_simp; go_at_call 110; refine HEX2.out.mono ?_; rintro e wJ ⟨HJ, rfl, hleJ, hRJ, hfrJ⟩; have e2' : wJ.cell? ⟨b, 15, none⟩ = some s9.ev := (World.cell?_of_block (w := w10) (a := ⟨b, 15, none⟩) (hfrJ.block b (.inr (.inl rfl)))).trans e2; have hlJ : b < wJ.heap.size := Nat.lt_of_lt_of_le hlb hfrJ.size; have e2'' : (wJ.alloc (Obj.cells #[.int .i64 a11] 3)).cell? ⟨b, 15, none⟩ = some s9.ev := (World.cell?_of_block (w := wJ) (a := ⟨b, 15, none⟩) (heap_alloc_old wJ _ hlJ)).trans e2')
                  | (refine step_append_lies _ (by rfl) _ _ _ (by rfl) 0 3 i0 _ 1 8 Tryz.underlying22 hi0 hz0 hz1 hz2 rfl (by omega) s9.ev x9.e.length (ints x9.e) (by rfl) (((IP10.out.drew.call hRJ hleJ hfrJ).erow).alloc _)
                      ⟨wJ.heap.size, 0, none⟩ 1 1 [.int .i64 a11] (by rfl) (by rfl) (World.news_of_block (cs := #[.int .i64 a11]) (t := 3) (fr := (0, 0)) (heap_alloc_new wJ _)) (by simp [Value.oneCell'])
                      (by omega) (by unfold maxLen; omega) (by omega) (by simp) (wJ.heap.size + 1) (by simp) ?_; intro gg cap wG hownG hgrow hat hltG;
                      have g2 : wG.frozen? ⟨b, 15, none⟩ = false := (World.frozen?_of_block (w := wJ) (a := ⟨b, 15, none⟩) (grown_block hgrow (IP10.out.drew.call hRJ hleJ hfrJ).lt (IP10.out.drew.call hRJ hleJ hfrJ).eb)).trans (free_of_blk (IP10.out.drew.call hRJ hleJ hfrJ).blk 15);
                      have k2 : wG.cell? ⟨b, 15, none⟩ = some s9.ev := (World.cell?_of_block (w := wJ) (a := ⟨b, 15, none⟩) (grown_block hgrow (IP10.out.drew.call hRJ hleJ hfrJ).lt (IP10.out.drew.call hRJ hleJ hfrJ).eb)).trans e2'))
                all_goals
                  have IPJ := (IP10.out.drew.call hRJ hleJ hfrJ).alloc (.cells #[.int .i64 a11] 3)
                  obtain ⟨IPG, f6⟩ := IPJ.grow (k := a11) hgrow hownG (by
                    rcases hat with e | e
                    · exact .inl (by rw [e]; rfl)
                    · exact .inr ⟨gg, by simp; omega, rfl⟩)
                  have f7 := (((Fr.drewOn X w10).trans hfrJ.unloc).trans ((Fr.refl X wJ).alloc (IP10.out.drew.call hRJ hleJ hfrJ).xlt (.cells #[.int .i64 a11] 3))).trans f6
                  go_wp2_with fail
                  go_meet
                  exact ⟨HJ, _, IPG, f7, hleJ⟩
              case rest =>
                obtain ⟨H11, s11, hI, hfr, hle⟩ := hcut
                obtain ⟨w11, hw⟩ : ∃ w11, w11 = wc := ⟨_, rfl⟩
                rw [← hw] at hI hfr ⊢
                obtain ⟨x11, hx11⟩ : ∃ x11, x11 = { x9 with e := x9.e ++ [a11] } := ⟨_, rfl⟩
                rw [← hx11] at hI
                have hE := EQ11.out
                clear EQ11
                first | (rw [← hx11] at hE) | (dsimp only at hE; rw [← hx11] at hE)

                have EQ11 := Lib.hid hE
                clear hE
                have IP11 := Lib.hid hI
                have FR11 := Lib.hid (FR10.out.trans hfr)
                have LE11 := Lib.hid (LE10.out.trans hle)
                clear hx11
                clear hI hfr hle hw e2 hl' hi0 hz0 hz1 hz2 hlb HEX2
                go_wp2_with fail
                have HK11 := Lib.hid (Nat.lt_of_lt_of_le HK10.out HKE10.out)
                refine (HB.out _ _ _ _ _ _ _ IP11.out.rd (fun e => FU.out (EQ11.out.trans (bind_bad e)))).mono ?_
                intro e w12 hp
                rcases hp.elimG with ⟨a12, st12, v12, H12, hr, rfl, le, hR, hv, hfr⟩ | ⟨p, why, hr, rfl, hfr⟩
                rotate_left
                · have EQp := Lib.hid (EQ11.out.trans (bind_bad hr))
                  have FRp := Lib.hid (FR11.out.trans hfr.unloc)
                  clear hfr hr hp
                  go_wp2_with fail
                  exact ⟨rfl, Post.stop EQp.out FRp.out⟩
                have IP12 := Lib.hid (IP11.out.call hR le hfr)
                have FR12 := Lib.hid (FR11.out.trans hfr.unloc)
                have LE12 := Lib.hid (LE11.out.trans le)
                have EQ12 := Lib.hid (EQ11.out.trans (bind_ok hr))
                have HK12 := Lib.hid (Nat.lt_of_lt_of_le HK11.out ((keep_all n).1 u _ _ _ hr))
                clear hR hfr le hr hp
                obtain ⟨ja12, jl12, jc12, hsl⟩ := FInts.slice hv
                subst hsl
                have g0 : w12.cell? ⟨b, 19, none⟩ = some (s11.kv) := cell_of_blk IP12.out.blk 19
                have q0 := free_of_blk IP12.out.blk 19
                obtain ⟨hI, hfr⟩ := IP12.out.put_kids hv
                have IP13 := Lib.hid hI
                have FR13 := Lib.hid (FR12.out.trans hfr)
                have LE13 := Lib.hid LE12.out
                have EQ13 := Lib.hid EQ12.out
                obtain ⟨w13, hw⟩ : ∃ w13, w13 = w12.setCell ⟨b, 19, none⟩ (.slice ja12 jl12 jc12) := ⟨_, rfl⟩
                rw [← hw] at IP13 FR13
                obtain ⟨x13, hx13⟩ : ∃ x13, x13 = { x11 with kids := a12 } := ⟨_, rfl⟩
                rw [← hx13] at IP13
                obtain ⟨s13, hs⟩ : ∃ s13 : ItemS, s13 = { s11 with kv := .slice ja12 jl12 jc12 } := ⟨_, rfl⟩
                rw [← hs] at IP13
                have HX13 := Lib.hid hx13
                clear hI hfr hs hx13 hv
                have HK13 := Lib.hid HK12.out
                go_upto_region 33 with (fail)
                rw [← hw]
                clear hw g0 q0
                have hE := EQ13.out
                try dsimp only at hE
                rw [← HX13.out] at hE
                have EQ13 := Lib.hid hE
                clear hE
                obtain ⟨H8, hle, hR8, hxR⟩ := IP13.out.done
                have LE8 := Lib.hid (LE13.out.trans hle)
                have RD8 := Lib.hid hR8
                have HXR := Lib.hid hxR
                obtain ⟨c7, hc7⟩ : ∃ c7, c7 = itemCells x13 s13 := ⟨_, rfl⟩
                rw [← hc7] at HXR
                have HC7 := Lib.hid (show ∀ (j : Nat) (v : Value), c7[j]? = some v → w13.cell? ⟨b, 0 + j, none⟩ = some v from fun j v hj => by rw [Nat.zero_add, cell_of_blk IP13.out.blk, ← hc7]; exact hj)
                have HL7 := Lib.hid (show c7.length = 21 by rw [hc7]; rfl)
                clear hle hR8 hxR hc7
                go_upto_region 33 with (fail)
                refine wp_region_lit ?_
                iterate 2
                  refine wpList_step (fun K hK => ?_)
                  go_simp
                  refine hK _ _ ?_
                  clear hK K
                refine wpList_step (fun K hK => ?_)
                refine step_load_cells (by rfl) _ _ (by rfl) b 0 (by rfl) c7 item_agg (by rw [HL7.out]; exact itemSize) HC7.out ?_
                refine hK _ _ ?_
                clear hK K
                go_wp2_with fail
                refine (end_c a4 HXR.out HK13.out RD8.out).mono ?_
                intro e w14 hp
                rcases hp.elimG with ⟨a14, st14, v14, H14, hr, rfl, le, hR, hv, hfr⟩ | ⟨p, why, hr, rfl, hfr⟩
                rotate_left
                · have EQp := Lib.hid (EQ13.out.trans (bind_bad hr))
                  have FRp := Lib.hid (FR13.out.trans hfr)
                  clear hfr hr hp
                  go_wp2_with fail
                  exact ⟨rfl, Post.stop EQp.out FRp.out⟩
                obtain rfl : v14 = .int .i64 a14 := hv
                have FIN := Lib.hid (show Post X w T (Good rOpt X H r sv src) (.returned (.tuple #[.int .i64 a14, .bool true])) w14 from Post.ok (EQ13.out.trans ((bind_ok hr).trans rfl)) ⟨H14, LE8.out.trans le, hR, rfl⟩ (FR13.out.trans hfr))
                clear hfr hr hp hR le
                go_wp2_with fail
                go_ret2
                exact FIN.out
      | false =>
        go_wp2_with fail
        have hE := EQ3.out
        simp only [if_true, if_false, Bool.false_eq_true] at hE
        have EQ3 := Lib.hid hE
        clear hE
        refine (see_g 34 IP3.out.rd (fun e => FU.out (EQ3.out.trans (bind_bad e)))).mono ?_
        intro e w4 hp
        rcases hp.elimG with ⟨a4, st4, v4, H4, hr, rfl, le, hR, hv, hfr⟩ | ⟨p, why, hr, rfl, hfr⟩
        rotate_left
        · have EQp := Lib.hid (EQ3.out.trans (bind_bad hr))
          have FRp := Lib.hid (FR3.out.trans hfr.unloc)
          clear hfr hr hp
          go_wp2_with fail
          exact ⟨rfl, Post.stop EQp.out FRp.out⟩
        obtain rfl : v4 = .bool a4 := hv
        have IP4 := Lib.hid (IP3.out.call hR le hfr)
        have FR4 := Lib.hid (FR3.out.trans hfr.unloc)
        have LE4 := Lib.hid (LE3.out.trans le)
        have EQ4 := Lib.hid (EQ3.out.trans (bind_ok hr))
        clear hR hfr le hr hp
        cases a4 with
        | true =>
          go_wp2_with fail
          have hE := EQ4.out
          simp only [if_true, if_false, Bool.false_eq_true] at hE
          have EQ4 := Lib.hid hE
          clear hE
          refine (begin_c 3 IP4.out.rd (fun e => FU.out (EQ4.out.trans (bind_bad e)))).mono ?_
          intro e w5 hp
          rcases hp.elimG with ⟨a5, st5, v5, H5, hr, rfl, le, hR, hv, hfr⟩ | ⟨p, why, hr, rfl, hfr⟩
          rotate_left
          · have EQp := Lib.hid (EQ4.out.trans (bind_bad hr))
            have FRp := Lib.hid (FR4.out.trans hfr.unloc)
            clear hfr hr hp
            go_wp2_with fail
            exact ⟨rfl, Post.stop EQp.out FRp.out⟩
          obtain rfl : v5 = .int .i64 (a5 : Int) := hv
          have IP5 := Lib.hid (IP4.out.call hR le hfr)
          have FR5 := Lib.hid (FR4.out.trans hfr.unloc)
          have LE5 := Lib.hid (LE4.out.trans le)
          have EQ5 := Lib.hid (EQ4.out.trans (bind_ok hr))
          obtain ⟨hk, hit⟩ := begin_row hr
          have hkx : st5.items[a5]? = some { kind := 3, pos := st4.at_ } := by rw [hit, hk]; simp
          obtain ⟨g, cap, cs, c17, hx, hcl, hc⟩ := hR.item_at hkx
          obtain ⟨N, hN⟩ : ∃ N, N = st5.items.length := ⟨_, rfl⟩
          rw [← hN] at c17
          have hkN : a5 < N := by rw [hN, hit, hk]; simp
          have HK5 := Lib.hid (show a5 < st5.items.length by rw [← hN]; exact hkN)
          have HX := Lib.hid hx
          have HCL := Lib.hid hcl
          have HC := Lib.hid hc
          have HKX := Lib.hid hkx
          clear hN hx hcl hc hkx hk hit
          clear hR hfr le hr hp
          go_upto_region 27 with (fail)
          refine wp_region_lit ?_
          iterate 7
            refine wpList_step (fun K hK => ?_)
            go_simp
            refine hK _ _ ?_
            clear hK K
          refine wpList_step (fun K hK => ?_)
          refine step_load_cells (by rfl) _ _ (by rfl) g (a5 * 21) (by rfl) cs item_agg (by rw [HCL.out]; exact itemSize) HC.out ?_
          refine hK _ _ ?_
          clear hK K
          refine wpList_step (fun K hK => ?_)
          refine step_store_cells (by rfl) _ _ _ (by rfl) b 0 (by rfl) cs (by rfl) (by rw [HCL.out]; exact itemSize) ?_ ?_ HX.out.one ?_
          · intro j hj
            rw [HCL.out] at hj
            rw [Nat.zero_add, cell_of_blk IP5.out.blk j, List.getElem?_eq_getElem (by simpa [itemCells] using hj)]; rfl
          · intro j _
            exact free_of_blk IP5.out.blk _
          go_simp
          refine hK _ _ ?_
          clear hK K
          refine wpList_nil ?_
          obtain ⟨s6, hs, hI, hfr⟩ := ItP.lay (by have h := IP5.out.rd; rw [IP5.out.enil (by rw [XE.out])] at h; exact h) IP5.out.txt IP5.out.gx IP5.out.xlt IP5.out.xb IP5.out.blk rfl HX.out HCL.out rfl ⟨Int.le_refl 0, by show (0 : Int) < _; decide⟩
          have IP6 := Lib.hid hI
          have FR6 := Lib.hid (FR5.out.trans hfr)
          have LE6 := Lib.hid LE5.out
          obtain ⟨x6, hx⟩ : ∃ x6 : ItemV, x6 = { kind := 3, pos := st4.at_ } := ⟨_, rfl⟩
          rw [← hx] at IP6
          have HX6 := Lib.hid hx
          have XE6 := Lib.hid (show x6.e = [] by rw [hx])
          obtain ⟨w6, hw⟩ : ∃ w6, w6 = w5.setCells b 0 cs := ⟨_, rfl⟩
          rw [← hw] at IP6 FR6 ⊢
          have EQ6 := Lib.hid (EQ5.out.trans (bind_ok (show row a5 st5 = .ok x6 st5 by unfold row; rw [List.getD_eq_getElem?_getD, HKX.out, hx]; rfl)))
          have HK6 := Lib.hid HK5.out
          clear hs hI hfr hx hw
          go_wp2_with fail
          refine (expr_c n _ _ _ _ _ _ _ 0 IP6.out.rd (fun e => FU.out (EQ6.out.trans (bind_bad e)))).mono ?_
          intro e w7 hp
          rcases hp.elimG with ⟨a7, st7, v7, H7, hr, rfl, le, hR, hv, hfr⟩ | ⟨p, why, hr, rfl, hfr⟩
          rotate_left
          · have EQp := Lib.hid (EQ6.out.trans (bind_bad hr))
            have FRp := Lib.hid (FR6.out.trans hfr.unloc)
            clear hfr hr hp
            go_wp2_with fail
            exact ⟨rfl, Post.stop EQp.out FRp.out⟩
          obtain rfl : v7 = .int .i64 a7 := hv
          have IP7 := Lib.hid (IP6.out.call hR le hfr)
          have FR7 := Lib.hid (FR6.out.trans hfr.unloc)
          have LE7 := Lib.hid (LE6.out.trans le)
          have EQ7 := Lib.hid (EQ6.out.trans (bind_ok hr))
          have HK7 := Lib.hid (Nat.lt_of_lt_of_le HK6.out (keep_expr _ _ _ hr))
          clear hR hfr le hr hp
          have g0 : w7.cell? ⟨b, 15, none⟩ = some (s6.ev) := cell_of_blk IP7.out.blk 15
          have hlb : b < w7.heap.size := IP7.out.lt
          have g1 : (w7.alloc (.cells #[.int .i64 a7] 3)).cell? ⟨b, 15, none⟩ = some (s6.ev) := (World.cell?_of_block (w := w7) (a := ⟨b, 15, none⟩) (heap_alloc_old w7 _ hlb)).trans g0
          have q0 := (World.frozen?_of_block (w := w7) (a := ⟨b, 15, none⟩) (heap_alloc_old w7 (.cells #[.int .i64 a7] 3) hlb)).trans (free_of_blk IP7.out.blk 15)
          obtain ⟨hI, hfr⟩ := IP7.out.put_e (a := a7) (by rw [HX6.out])
          have IP8 := Lib.hid hI
          have FR8 := Lib.hid (FR7.out.trans hfr)
          have LE8 := Lib.hid LE7.out
          have EQ8 := Lib.hid EQ7.out
          obtain ⟨w8, hw⟩ : ∃ w8, w8 = (w7.alloc (.cells #[.int .i64 a7] 3)).setCell ⟨b, 15, none⟩ (.slice (some ⟨w7.heap.size, 0, none⟩) 1 1) := ⟨_, rfl⟩
          rw [← hw] at IP8 FR8
          obtain ⟨x8, hx8⟩ : ∃ x8, x8 = { x6 with e := x6.e ++ [a7] } := ⟨_, rfl⟩
          rw [← hx8] at IP8
          obtain ⟨s8, hs⟩ : ∃ s8 : ItemS, s8 = { s6 with ev := .slice (some ⟨w7.heap.size, 0, none⟩) 1 1 } := ⟨_, rfl⟩
          rw [← hs] at IP8
          have HX8 := Lib.hid hx8
          clear hI hfr hs hx8 hlb
          have HK8 := Lib.hid HK7.out
          go_wp2_with fail
          rw [← hw]
          clear hw g0 g1 q0
          refine (HB.out _ _ _ _ _ _ _ IP8.out.rd (fun e => FU.out (EQ8.out.trans (bind_bad e)))).mono ?_
          intro e w9 hp
          rcases hp.elimG with ⟨a9, st9, v9, H9, hr, rfl, le, hR, hv, hfr⟩ | ⟨p, why, hr, rfl, hfr⟩
          rotate_left
          · have EQp := Lib.hid (EQ8.out.trans (bind_bad hr))
            have FRp := Lib.hid (FR8.out.trans hfr.unloc)
            clear hfr hr hp
            go_wp2_with fail
            exact ⟨rfl, Post.stop EQp.out FRp.out⟩
          have IP9 := Lib.hid (IP8.out.call hR le hfr)
          have FR9 := Lib.hid (FR8.out.trans hfr.unloc)
          have LE9 := Lib.hid (LE8.out.trans le)
          have EQ9 := Lib.hid (EQ8.out.trans (bind_ok hr))
          have HK9 := Lib.hid (Nat.lt_of_lt_of_le HK8.out ((keep_all n).1 u _ _ _ hr))
          clear hR hfr le hr hp
          obtain ⟨ja9, jl9, jc9, hsl⟩ := FInts.slice hv
          subst hsl
          have g0 : w9.cell? ⟨b, 19, none⟩ = some (s8.kv) := cell_of_blk IP9.out.blk 19
          have q0 := free_of_blk IP9.out.blk 19
          obtain ⟨hI, hfr⟩ := IP9.out.put_kids hv
          have IP10 := Lib.hid hI
          have FR10 := Lib.hid (FR9.out.trans hfr)
          have LE10 := Lib.hid LE9.out
          have EQ10 := Lib.hid EQ9.out
          obtain ⟨w10, hw⟩ : ∃ w10, w10 = w9.setCell ⟨b, 19, none⟩ (.slice ja9 jl9 jc9) := ⟨_, rfl⟩
          rw [← hw] at IP10 FR10
          obtain ⟨x10, hx10⟩ : ∃ x10, x10 = { x8 with kids := a9 } := ⟨_, rfl⟩
          rw [← hx10] at IP10
          obtain ⟨s10, hs⟩ : ∃ s10 : ItemS, s10 = { s8 with kv := .slice ja9 jl9 jc9 } := ⟨_, rfl⟩
          rw [← hs] at IP10
          have HX10 := Lib.hid hx10
          clear hI hfr hs hx10 hv
          have HK10 := Lib.hid HK9.out
          go_wp2_with fail
          rw [← hw]
          clear hw g0 q0
          refine (take_c NX 35 IP10.out.rd (fun e => FU.out (EQ10.out.trans (bind_bad e)))).mono ?_
          intro e w11 hp
          rcases hp.elimG with ⟨a11, st11, v11, H11, hr, rfl, le, hR, hv, hfr⟩ | ⟨p, why, hr, rfl, hfr⟩
          rotate_left
          · have EQp := Lib.hid (EQ10.out.trans (bind_bad hr))
            have FRp := Lib.hid (FR10.out.trans hfr.unloc)
            clear hfr hr hp
            go_wp2_with fail
            exact ⟨rfl, Post.stop EQp.out FRp.out⟩
          obtain rfl : v11 = .bool a11 := hv
          have IP11 := Lib.hid (IP10.out.call hR le hfr)
          have FR11 := Lib.hid (FR10.out.trans hfr.unloc)
          have LE11 := Lib.hid (LE10.out.trans le)
          have EQ11 := Lib.hid (EQ10.out.trans (bind_ok hr))
          have HK11 := Lib.hid (Nat.lt_of_lt_of_le HK10.out (keep_take _ _ _ hr))
          clear hR hfr le hr hp
          cases a11 with
          | true =>
            have hE := EQ11.out
            simp only [if_true, if_false, Bool.false_eq_true] at hE
            have EQ11 := Lib.hid hE
            clear hE
            have g0 : w11.cell? ⟨b, 16, none⟩ = some (.int .i64 x10.flags) := cell_of_blk IP11.out.blk 16
            have q0 := free_of_blk IP11.out.blk 16
            obtain ⟨hI, hfr⟩ := IP11.out.put_flags 4096 ⟨by omega, by omega⟩
            have IP12 := Lib.hid hI
            have FR12 := Lib.hid (FR11.out.trans hfr)
            have LE12 := Lib.hid LE11.out
            have EQ12 := Lib.hid EQ11.out
            obtain ⟨w12, hw⟩ : ∃ w12, w12 = w11.setCell ⟨b, 16, none⟩ (.int .i64 4096) := ⟨_, rfl⟩
            rw [← hw] at IP12 FR12
            obtain ⟨x12, hx12⟩ : ∃ x12, x12 = { x10 with flags := 4096 } := ⟨_, rfl⟩
            rw [← hx12] at IP12
            have HX12 := Lib.hid hx12
            clear hI hfr hx12
            go_wp2_with fail
            rw [← hw]
            clear hw g0 q0
            have HK12 := Lib.hid HK11.out
            refine (HB.out _ _ _ _ _ _ _ IP12.out.rd (fun e => FU.out (EQ12.out.trans (bind_bad e)))).mono ?_
            intro e w13 hp
            rcases hp.elimG with ⟨a13, st13, v13, H13, hr, rfl, le, hR, hv, hfr⟩ | ⟨p, why, hr, rfl, hfr⟩
            rotate_left
            · have EQp := Lib.hid (EQ12.out.trans (bind_bad hr))
              have FRp := Lib.hid (FR12.out.trans hfr.unloc)
              clear hfr hr hp
              go_wp2_with fail
              exact ⟨rfl, Post.stop EQp.out FRp.out⟩
            have IP13 := Lib.hid (IP12.out.call hR le hfr)
            have FR13 := Lib.hid (FR12.out.trans hfr.unloc)
            have LE13 := Lib.hid (LE12.out.trans le)
            have EQ13 := Lib.hid (EQ12.out.trans (bind_ok hr))
            have HK13 := Lib.hid (Nat.lt_of_lt_of_le HK12.out ((keep_all n).1 u _ _ _ hr))
            clear hR hfr le hr hp
            obtain ⟨ja13, jl13, jc13, hsl⟩ := FInts.slice hv
            subst hsl
            have g0 : w13.cell? ⟨b, 20, none⟩ = some (s10.lv) := cell_of_blk IP13.out.blk 20
            have q0 := free_of_blk IP13.out.blk 20
            obtain ⟨hI, hfr⟩ := IP13.out.put_els hv
            have IP14 := Lib.hid hI
            have FR14 := Lib.hid (FR13.out.trans hfr)
            have LE14 := Lib.hid LE13.out
            have EQ14 := Lib.hid EQ13.out
            obtain ⟨w14, hw⟩ : ∃ w14, w14 = w13.setCell ⟨b, 20, none⟩ (.slice ja13 jl13 jc13) := ⟨_, rfl⟩
            rw [← hw] at IP14 FR14
            obtain ⟨x14, hx14⟩ : ∃ x14, x14 = { x12 with els := a13 } := ⟨_, rfl⟩
            rw [← hx14] at IP14
            obtain ⟨s14, hs⟩ : ∃ s14 : ItemS, s14 = { s10 with lv := .slice ja13 jl13 jc13 } := ⟨_, rfl⟩
            rw [← hs] at IP14
            have HX14 := Lib.hid hx14
            clear hI hfr hs hx14 hv
            have HK14 := Lib.hid HK13.out
            go_upto_region 33 with (fail)
            rw [← hw]
            clear hw g0 q0
            have hE := EQ14.out
            rw [show ({ x6 with e := [a7], kids := a9, flags := 4096, els := a13 } : ItemV) = x14 from (by (rw [HX14.out, HX12.out, HX10.out, HX8.out, HX6.out]) <;> rfl)] at hE
            have EQ14 := Lib.hid hE
            clear hE
            obtain ⟨H8, hle, hR8, hxR⟩ := IP14.out.done
            have LE8 := Lib.hid (LE14.out.trans hle)
            have RD8 := Lib.hid hR8
            have HXR := Lib.hid hxR
            obtain ⟨c7, hc7⟩ : ∃ c7, c7 = itemCells x14 s14 := ⟨_, rfl⟩
            rw [← hc7] at HXR
            have HC7 := Lib.hid (show ∀ (j : Nat) (v : Value), c7[j]? = some v → w14.cell? ⟨b, 0 + j, none⟩ = some v from fun j v hj => by rw [Nat.zero_add, cell_of_blk IP14.out.blk, ← hc7]; exact hj)
            have HL7 := Lib.hid (show c7.length = 21 by rw [hc7]; rfl)
            clear hle hR8 hxR hc7
            go_upto_region 33 with (fail)
            refine wp_region_lit ?_
            iterate 2
              refine wpList_step (fun K hK => ?_)
              go_simp
              refine hK _ _ ?_
              clear hK K
            refine wpList_step (fun K hK => ?_)
            refine step_load_cells (by rfl) _ _ (by rfl) b 0 (by rfl) c7 item_agg (by rw [HL7.out]; exact itemSize) HC7.out ?_
            refine hK _ _ ?_
            clear hK K
            go_wp2_with fail
            refine (end_c a5 HXR.out HK14.out RD8.out).mono ?_
            intro e w15 hp
            rcases hp.elimG with ⟨a15, st15, v15, H15, hr, rfl, le, hR, hv, hfr⟩ | ⟨p, why, hr, rfl, hfr⟩
            rotate_left
            · have EQp := Lib.hid (EQ14.out.trans (bind_bad hr))
              have FRp := Lib.hid (FR14.out.trans hfr)
              clear hfr hr hp
              go_wp2_with fail
              exact ⟨rfl, Post.stop EQp.out FRp.out⟩
            obtain rfl : v15 = .int .i64 a15 := hv
            have FIN := Lib.hid (show Post X w T (Good rOpt X H r sv src) (.returned (.tuple #[.int .i64 a15, .bool true])) w15 from Post.ok (EQ14.out.trans ((bind_ok hr).trans rfl)) ⟨H15, LE8.out.trans le, hR, rfl⟩ (FR14.out.trans hfr))
            clear hfr hr hp hR le
            go_wp2_with fail
            go_ret2
            exact FIN.out
          | false =>
            have hE := EQ11.out
            simp only [if_true, if_false, Bool.false_eq_true] at hE
            have EQ11 := Lib.hid hE
            clear hE
            have hE := EQ11.out
            rw [show ({ x6 with e := [a7], kids := a9 } : ItemV) = x10 from (by (rw [HX10.out, HX8.out, HX6.out]) <;> rfl)] at hE
            have EQ11 := Lib.hid hE
            clear hE
            obtain ⟨H8, hle, hR8, hxR⟩ := IP11.out.done
            have LE8 := Lib.hid (LE11.out.trans hle)
            have RD8 := Lib.hid hR8
            have HXR := Lib.hid hxR
            obtain ⟨c7, hc7⟩ : ∃ c7, c7 = itemCells x10 s10 := ⟨_, rfl⟩
            rw [← hc7] at HXR
            have HC7 := Lib.hid (show ∀ (j : Nat) (v : Value), c7[j]? = some v → w11.cell? ⟨b, 0 + j, none⟩ = some v from fun j v hj => by rw [Nat.zero_add, cell_of_blk IP11.out.blk, ← hc7]; exact hj)
            have HL7 := Lib.hid (show c7.length = 21 by rw [hc7]; rfl)
            clear hle hR8 hxR hc7
            go_upto_region 33 with (fail)
            refine wp_region_lit ?_
            iterate 2
              refine wpList_step (fun K hK => ?_)
              go_simp
              refine hK _ _ ?_
              clear hK K
            refine wpList_step (fun K hK => ?_)
            refine step_load_cells (by rfl) _ _ (by rfl) b 0 (by rfl) c7 item_agg (by rw [HL7.out]; exact itemSize) HC7.out ?_
            refine hK _ _ ?_
            clear hK K
            go_wp2_with fail
            refine (end_c a5 HXR.out HK11.out RD8.out).mono ?_
            intro e w12 hp
            rcases hp.elimG with ⟨a12, st12, v12, H12, hr, rfl, le, hR, hv, hfr⟩ | ⟨p, why, hr, rfl, hfr⟩
            rotate_left
            · have EQp := Lib.hid (EQ11.out.trans (bind_bad hr))
              have FRp := Lib.hid (FR11.out.trans hfr)
              clear hfr hr hp
              go_wp2_with fail
              exact ⟨rfl, Post.stop EQp.out FRp.out⟩
            obtain rfl : v12 = .int .i64 a12 := hv
            have FIN := Lib.hid (show Post X w T (Good rOpt X H r sv src) (.returned (.tuple #[.int .i64 a12, .bool true])) w12 from Post.ok (EQ11.out.trans ((bind_ok hr).trans rfl)) ⟨H12, LE8.out.trans le, hR, rfl⟩ (FR11.out.trans hfr))
            clear hfr hr hp hR le
            go_wp2_with fail
            go_ret2
            exact FIN.out
        | false =>
          have hE := EQ4.out
          simp only [if_true, if_false, Bool.false_eq_true] at hE
          have EQ4 := Lib.hid hE
          clear hE
          have FIN := Lib.hid (show Post X w T (Good rOpt X H r sv src) (.returned (.tuple #[.int .i64 0, .bool false])) w4 from Post.ok (EQ4.out.trans rfl) ⟨_, LE4.out, IP4.out.rd.back IP4.out.txt IP4.out.gx (fun _ hk => .inl hk), rfl⟩ FR4.out)
          go_wp2_with fail
          go_ret2
          exact FIN.out
end
end Go.Proofs.YtkaeceedofmhbaaGreatDoor
