/-
  syntax: next, its walk. Made by gen/sy11.py.
-/
import Derived.Test.YtkaeceedofmhbaaGreatDoorGSy11
import Derived.Deep.RegionHeld3
namespace Go.Proofs.YtkaeceedofmhbaaGreatDoor
open Go.RowKit Bk
section
set_option maxRecDepth 100000 in
set_option maxHeartbeats 4000000 in
theorem next_both (X : Nat → Prop) (H : Frozen) (r : Nat) (sv : Value) (src : Bytes) (st : St) (w : World) (u : FrameMode) (h : RdOK X H w r sv src st) :
    Calls Tryz.prog 24 #[.pointer (some ⟨r, 0, none⟩)] w (Post X w (next src st) (Good rU X H r sv src)) ∧
    CallsD Tryz.prog 24 #[.pointer (some ⟨r, 0, none⟩)] u w (fun e u' w' => u' = u ∧ Post X w (next src st) (Good rU X H r sv src) e w') := by
  obtain ⟨v, ic, nc, hP⟩ := h
  obtain ⟨wa, wc, hsl, hown', hob⟩ := want_none hP.want
  have c9 : w.cell? ⟨r, 9, none⟩ = some v.wv := cell_of_blk hP.blk 9
  have hR : RdOK X H w r sv src st := ⟨v, ic, nc, hP⟩
  have c2 := hR.c2
  have c3 := hR.c3
  have c4 := hR.c4
  have c5 := hR.c5
  have c6 := hR.c6
  have c7 := hR.c7
  have c8 := hR.c8
  have c10 := hR.c10
  have c11 := hR.c11
  have c1 := hR.c1
  have f1 := hR.free 1
  have f3 := hR.free 3
  have f4 := hR.free 4
  have f5 := hR.free 5
  have f6 := hR.free 6
  have f7 := hR.free 7
  have f8 := hR.free 8
  have f9 := hR.free 9
  have f10 := hR.free 10
  have f11 := hR.free 11
  have HP := Lib.hid hP
  have HSK := Lib.hid (skp_start hP (.slice wa 0 wc))
  have HRD := Lib.hid (fun wr j t (hs : Skp w wr r sv st { v with wv := .slice wa 0 wc } j t) h1 h2 => hs.rd hP hown' hob rfl rfl rfl h1 h2)
  have hslen := hR.slen
  have htol := hR.tol
  obtain ⟨a, cap, hsv, hc1, hc2, hshow⟩ := hR.txt
  have HSV := Lib.hid hsv
  have HSHOW := Lib.hid hshow
  have HXL := Lib.hid hR.xlt
  obtain ⟨T, hT⟩ : ∃ T, T = next src st := ⟨_, rfl⟩
  rw [← hT]
  have HT := Lib.hid hT
  obtain ⟨A, hA⟩ : ∃ A, A = st.to_ + blanks false (src.drop st.to_) := ⟨_, rfl⟩
  have HA := Lib.hid hA
  have hAl : A ≤ src.length := by have := blanks_le (src.drop st.to_) false; simp at this; omega
  clear hP hR hown' hob hsv hshow hT hA
  refine both_of_wp Tryz.func24 rfl ?_
  simp only [Tryz.ntmps24, List.size_toArray, List.length_cons, List.length_nil, Nat.reduceAdd, Nat.reduceSub, Array.replicate_succ,
     Array.replicate_zero, List.push_toArray, List.append_toArray, List.nil_append, List.cons_append]
  go_step3
  go_wp2_with fail
  obtain ⟨W, hW⟩ : ∃ W, W = ((((((((((w.setCell ⟨r, 9, none⟩ (.slice wa 0 wc)).setCell ⟨r, 10, none⟩ (.bool false)).setCell ⟨r, 11, none⟩ (.bool false)).setCell ⟨r, 3, none⟩ (.int .i64 0)).setCell ⟨r, 4, none⟩ (.int .u64 0)).setCell ⟨r, 5, none⟩ (.string ⟨#[]⟩)).setCell ⟨r, 6, none⟩ (.int .i64 0)).setCell ⟨r, 7, none⟩ (.int .i64 0)).setCell ⟨r, 8, none⟩ (.int .i64 0)).setCell ⟨r, 1, none⟩ (.int .i64 (st.to_ : Int))) := ⟨_, rfl⟩
  rw [← hW] at HSK ⊢
  clear hW c1 c2 c3 c4 c5 c6 c7 c8 c9 c10 c11 f1 f3 f4 f5 f6 f7 f8 f9 f10 f11 hsl
  go_step3
  go_wp2_with fail
  go_loopg [] (src.length - st.to_ + 1) (fun g wr => ∃ j, j ≤ src.length ∧ src.length - j < g ∧ Hid (Skp w wr r sv st { v with wv := .slice wa 0 wc } j st.to_ ∧ A = j + blanks false (src.drop j)))
  case atStart => exact ⟨st.to_, htol, by omega, Lib.hid ⟨HSK.out, HA.out⟩⟩
  case round =>
    obtain ⟨j, hj, hg, hrel⟩ := hrel
    obtain ⟨hs, hAj⟩ := hrel.out
    have c0 := hs.c0
    have c1 := hs.c1
    have f1 := hs.free 1
    have HS := Lib.hid hs
    have i0 : (0 : Int) ≤ (j : Int) := Int.natCast_nonneg _
    by_cases hl : j < src.length
    · have i1 : (j : Int) < (src.length : Int) := by omega
      have dl : decide (j < src.length) = true := by simpa using hl
      obtain ⟨b, off, ha, hx, hbs⟩ := HSHOW.out (fun e => by rw [e] at hl; simp at hl)
      rw [HSV.out, ha] at c0
      have hrb : b ≠ r := fun e => HP.out.xr (e ▸ hx)
      have cb : wr.cell? ⟨b, off + j, none⟩ = some (.int .u8 (src[j].toNat : Int)) := (World.cell?_of_block (w := w) (a := ⟨b, off + j, none⟩) (hs.rest b hrb)).trans (hbs j hl)
      obtain ⟨ch, hch⟩ : ∃ ch, ch = src[j].toNat := ⟨_, rfl⟩
      rw [← hch] at cb
      have k1 := cls_one_iff src[j]
      have k2 := cls_two_iff src[j]
      rw [← hch] at k1 k2
      have e1 : IntKind.i64.wrap ((j : Int) + 1) = (j : Int) + 1 := IntWalk.i64_in _ ⟨by omega, by omega⟩
      have HBS := Lib.hid hbs
      have HX := Lib.hid hx
      have HAE := Lib.hid ha
      by_cases h32 : ch = 32
      · have HN := Lib.hid (show A = (j + 1) + blanks false (src.drop (j + 1)) by rw [hAj, blanks_blank hl (k1.2 (by omega))]; omega)
        have d32 : ((ch : Int) == 32) = true := by rw [beq_iff_eq]; omega
        clear hrel hs hAj k1 k2 hch hbs hx ha  h32 hrb
        go_wp2_with fail
        go_quiet (fail)
        go_wp2_with fail
        go_quiet (fail)
        go_wp2_with fail
        go_roundg (src.length - (j + 1) + 1)
        case measure => omega
        case rel => exact ⟨j + 1, by omega, by omega, Lib.hid ⟨by exact (HS.out.drewN _).step, HN.out⟩⟩
      by_cases h9 : ch = 9
      · have HN := Lib.hid (show A = (j + 1) + blanks false (src.drop (j + 1)) by rw [hAj, blanks_blank hl (k1.2 (by omega))]; omega)
        have d32 : ((ch : Int) == 32) = false := by rw [beq_eq_false_iff_ne]; omega
        have d9 : ((ch : Int) == 9) = true := by rw [beq_iff_eq]; omega
        clear hrel hs hAj k1 k2 hch hbs hx ha h32 h9 hrb
        go_wp2_with fail
        go_quiet (fail)
        go_wp2_with fail
        go_quiet (fail)
        go_wp2_with fail
        go_roundg (src.length - (j + 1) + 1)
        case measure => omega
        case rel => exact ⟨j + 1, by omega, by omega, Lib.hid ⟨by exact (HS.out.drewN _).step, HN.out⟩⟩
      by_cases h10 : ch = 10
      · have HN := Lib.hid (show A = (j + 1) + blanks false (src.drop (j + 1)) by rw [hAj, blanks_blank hl (k1.2 (by omega))]; omega)
        have d32 : ((ch : Int) == 32) = false := by rw [beq_eq_false_iff_ne]; omega
        have d9 : ((ch : Int) == 9) = false := by rw [beq_eq_false_iff_ne]; omega
        have d10 : ((ch : Int) == 10) = true := by rw [beq_iff_eq]; omega
        clear hrel hs hAj k1 k2 hch hbs hx ha h32 h9 h10 hrb
        go_wp2_with fail
        go_quiet (fail)
        go_wp2_with fail
        go_quiet (fail)
        go_wp2_with fail
        go_roundg (src.length - (j + 1) + 1)
        case measure => omega
        case rel => exact ⟨j + 1, by omega, by omega, Lib.hid ⟨by exact (HS.out.drewN _).step, HN.out⟩⟩
      by_cases h13 : ch = 13
      · have HN := Lib.hid (show A = (j + 1) + blanks false (src.drop (j + 1)) by rw [hAj, blanks_blank hl (k1.2 (by omega))]; omega)
        have d32 : ((ch : Int) == 32) = false := by rw [beq_eq_false_iff_ne]; omega
        have d9 : ((ch : Int) == 9) = false := by rw [beq_eq_false_iff_ne]; omega
        have d10 : ((ch : Int) == 10) = false := by rw [beq_eq_false_iff_ne]; omega
        have d13 : ((ch : Int) == 13) = true := by rw [beq_iff_eq]; omega
        clear hrel hs hAj k1 k2 hch hbs hx ha h32 h9 h10 h13 hrb
        go_wp2_with fail
        go_quiet (fail)
        go_wp2_with fail
        go_quiet (fail)
        go_wp2_with fail
        go_roundg (src.length - (j + 1) + 1)
        case measure => omega
        case rel => exact ⟨j + 1, by omega, by omega, Lib.hid ⟨by exact (HS.out.drewN _).step, HN.out⟩⟩
      by_cases h35 : ch = 35
      · have HN := Lib.hid (show A = (j + 1) + blanks true (src.drop (j + 1)) by
          have hne : src[j] ≠ 10 := fun e => by rw [e] at hch; simp at hch; omega
          rw [hAj, blanks_hash hl (k2.2 h35), blanks_in hl hne]; omega)
        have d32 : ((ch : Int) == 32) = false := by rw [beq_eq_false_iff_ne]; omega
        have d9 : ((ch : Int) == 9) = false := by rw [beq_eq_false_iff_ne]; omega
        have d10 : ((ch : Int) == 10) = false := by rw [beq_eq_false_iff_ne]; omega
        have d13 : ((ch : Int) == 13) = false := by rw [beq_eq_false_iff_ne]; omega
        have d35 : ((ch : Int) == 35) = true := by rw [beq_iff_eq]; omega
        clear hrel hs hAj k1 k2 hch hbs hx ha h32 h9 h10 h13 h35 hrb
        obtain ⟨wo, rfl⟩ : ∃ wo : World, wo = wr := ⟨_, rfl⟩
        obtain ⟨go, rfl⟩ : ∃ go : Nat, go = gk := ⟨_, rfl⟩
        go_wp2_with fail
        go_quiet (fail)
        go_wp2_with fail
        go_quiet (fail)
        go_wp2_with fail
        clear c0 c1 cb f1
        go_loopg [] (src.length - j + 1) (fun g wr => ∃ m, m < src.length ∧ j ≤ m ∧ src.length - m < g ∧ Hid (Skp w wr r sv st { v with wv := .slice wa 0 wc } m st.to_ ∧ A = (m + 1) + blanks true (src.drop (m + 1))))
        case atStart => exact ⟨j, hl, by omega, by omega, Lib.hid ⟨HS.out.drewN _, HN.out⟩⟩
        case round =>
          obtain ⟨m, hm, hjm, hgm, hrel⟩ := hrel
          obtain ⟨hs, hAm⟩ := hrel.out
          have c0 := hs.c0
          have c1 := hs.c1
          have f1 := hs.free 1
          have HS2 := Lib.hid hs
          have HAM := Lib.hid hAm
          rw [HSV.out, HAE.out] at c0
          have m0 : (0 : Int) ≤ (m : Int) := Int.natCast_nonneg _
          have e2 : IntKind.i64.wrap ((m : Int) + 1) = (m : Int) + 1 := IntWalk.i64_in _ ⟨by omega, by omega⟩
          by_cases hl2 : m + 1 < src.length
          · have m1 : (m : Int) + 1 < (src.length : Int) := by omega
            have dl2 : decide ((m : Int) + 1 < (src.length : Int)) = true := by simpa using m1
            have hrb : b ≠ r := fun e => HP.out.xr (e ▸ HX.out)
            have cb : wr.cell? ⟨b, off + (m + 1), none⟩ = some (.int .u8 (src[m + 1].toNat : Int)) := (World.cell?_of_block (w := w) (a := ⟨b, off + (m + 1), none⟩) (hs.rest b hrb)).trans (HBS.out (m + 1) hl2)
            have mn : ((m : Int) + 1).toNat = m + 1 := by omega
            have m2 : (0 : Int) ≤ (m : Int) + 1 := by omega
            by_cases h10 : src[m + 1] = 10
            · have hend := Lib.hid (show A = (m + 1) + blanks false (src.drop (m + 1)) by rw [hAm, blanks_out hl2 h10])
              rw [h10] at cb
              have e10 : (((10 : UInt8)).toNat : Int) = 10 := rfl
              rw [e10] at cb
              have d10' : ((10 : Int) != 10) = false := rfl
              clear hrel hs hAm h10 e10 hrb
              go_wp2_with fail
              go_quiet (fail)
              go_wp2_with fail
              go_roundg (src.length - (m + 1) + 1)
              case measure => omega
              case rel => exact ⟨m + 1, by omega, by omega, Lib.hid ⟨by exact (HS2.out.drewN _).step, hend.out⟩⟩
            · have hend := Lib.hid (show A = (m + 1 + 1) + blanks true (src.drop (m + 1 + 1)) by rw [hAm, blanks_in hl2 h10]; omega)
              have dn : ((src[m + 1].toNat : Int) != 10) = true := by
                rw [bne_iff_ne]; intro e; exact h10 (UInt8.toNat_inj.1 (by show src[m + 1].toNat = 10; omega))
              obtain ⟨c2, hc2'⟩ : ∃ c2, c2 = src[m + 1].toNat := ⟨_, rfl⟩
              rw [← hc2'] at cb dn
              clear hrel hs hAm h10 hrb hc2'
              go_wp2_with fail
              go_quiet (fail)
              go_wp2_with fail
              go_roundg (src.length - (m + 1) + 1)
              case measure => omega
              case rel => exact ⟨m + 1, by omega, by omega, by omega, Lib.hid ⟨by exact (HS2.out.drewN _).step, hend.out⟩⟩
          · have hend := Lib.hid (show A = (m + 1) + blanks false (src.drop (m + 1)) by rw [hAm, blanks_end hl2, blanks_end hl2])
            have dl2 : decide ((m : Int) + 1 < (src.length : Int)) = false := by simp; omega
            clear hrel hs hAm
            go_wp2_with fail
            go_quiet (fail)
            go_wp2_with fail
            go_roundg (src.length - (m + 1) + 1)
            case measure => omega
            case rel => exact ⟨m + 1, by omega, by omega, Lib.hid ⟨by exact (HS2.out.drewN _).step, hend.out⟩⟩
      have HN := Lib.hid (show A = j by rw [hAj, blanks_other hl (fun e => by have := k1.1 e; omega) (fun e => h35 (k2.1 e))]; rfl)
      have d32 : ((ch : Int) == 32) = false := by rw [beq_eq_false_iff_ne]; omega
      have d9 : ((ch : Int) == 9) = false := by rw [beq_eq_false_iff_ne]; omega
      have d10 : ((ch : Int) == 10) = false := by rw [beq_eq_false_iff_ne]; omega
      have d13 : ((ch : Int) == 13) = false := by rw [beq_eq_false_iff_ne]; omega
      have d35 : ((ch : Int) == 35) = false := by rw [beq_eq_false_iff_ne]; omega
      have f2 := hs.free 2
      have c2 := hs.c2
      have dne : ((j : Int) == (src.length : Int)) = false := by rw [beq_eq_false_iff_ne]; omega
      have hbw := HXL.out b hx
      clear hrel hs hAj k1 k2 hch hbs hx ha h32 h9 h10 h13 h35 hrb
      go_wp2_with fail
      go_quiet (fail)
      obtain ⟨n1, rfl⟩ : ∃ n1 : Nat, n1 = nq := ⟨_, rfl⟩
      go_wp2_with fail
      go_quiet (fail)
      obtain ⟨n2, rfl⟩ : ∃ n2 : Nat, n2 = nq := ⟨_, rfl⟩
      go_wp2_with fail
      go_quiet (fail)
      obtain ⟨n3, rfl⟩ : ∃ n3 : Nat, n3 = nq := ⟨_, rfl⟩
      obtain ⟨V, hV⟩ : ∃ V, V = ((wr.drewN (n1 + n2)).setCell ⟨r, 2, none⟩ (.int .i64 (j : Int))).drewN n3 := ⟨_, rfl⟩
      rw [← hV]
      have hSV : Skp w V r sv st { v with wv := .slice wa 0 wc } j j := by rw [hV]; exact ((HS.out.drewN _).to j).drewN _
      have hRV := HRD.out V j j hSV (Nat.le_refl _) hj
      have RD2 := Lib.hid hRV.1
      have FR2 := Lib.hid hRV.2
      have HSZ := Lib.hid hSV.size
      clear hV c0 c1 c2 cb f1 f2 hSV hRV
      go_wp2_with fail
      refine (reach1_c RD2.out hl).mono ?_
      rintro e w5 ⟨rfl, hb5⟩
      obtain ⟨n, hn⟩ : ∃ n, n = lexLen (src.drop j) := ⟨_, rfl⟩
      rw [show (bareSt st j j).at_ = j from rfl, ← hn]
      have hnl : j + n ≤ src.length := by have := lexLen_le (src.drop j); simp at this; omega
      have HNL := Lib.hid hn
      have hR5 := RD2.out.below hb5
      have hput := hR5.put (st' := bareSt st j (j + n)) 2 (.int .i64 ((j + n : Nat) : Int)) (fun v => by simp [rdCells, bareSt]) rfl rfl rfl rfl (Nat.le_add_right _ _) hnl (Nat.zero_le _) hR5.openl
      have c2 := hR5.c2
      have f2 := hR5.free 2
      have FR5 := Lib.hid (FR2.out.trans ⟨hb5.os, hb5.tape, hb5.output, hb5.size, fun k hk => hb5.block k (RD2.out.xlt k hk)⟩)
      have RD6 := Lib.hid hput.1
      have FR6 := Lib.hid (FR5.out.trans hput.2)
      clear hb5 hR5 hput hn
      go_wp2_with fail
      rw [show ((j + n : Nat) : Int) = (j : Int) + (n : Int) by omega] at RD6 FR6
      obtain ⟨W6, hW6⟩ : ∃ W6, W6 = w5.setCell ⟨r, 2, none⟩ (.int .i64 ((j : Int) + (n : Int))) := ⟨_, rfl⟩
      rw [← hW6] at RD6 FR6 ⊢
      clear hW6 c2 f2
      have x0 : W6.cell? ⟨r, 0, none⟩ = some (.slice (some ⟨b, off, none⟩) src.length cap) := by rw [RD6.out.c0, HSV.out, HAE.out]
      have x1 : W6.cell? ⟨r, 1, none⟩ = some (.int .i64 (j : Int)) := RD6.out.c1
      have x2 : W6.cell? ⟨r, 2, none⟩ = some (.int .i64 ((j : Int) + (n : Int))) := by rw [RD6.out.c2]; show some (Value.int .i64 ((j + n : Nat) : Int)) = _; rw [show ((j + n : Nat) : Int) = (j : Int) + (n : Int) by omega]
      have j2 : (0 : Int) ≤ (j : Int) + (n : Int) := by omega
      have j3 : (j : Int) ≤ (j : Int) + (n : Int) := by omega
      have hsl2 : ∀ V, (Instr.slice 34 (.slice (some ⟨b, off, none⟩) src.length cap) (some (.int .i64 (j : Int))) (some (.int .i64 ((j : Int) + (n : Int)))) none).run Tryz.prog V = .ok (.slice (some ⟨b, off + j, none⟩) n (cap - j)) V := fun V => by
        have := slice_run (bb := b) (off := off) (n := src.length) (cap := cap) (p := j) (j := j + n) (by omega) (by omega) (by omega) V
        rw [show j + n - j = n by omega, show ((j + n : Nat) : Int) = (j : Int) + (n : Int) by omega] at this
        exact this
      have hX6 : X b := HX.out
      have HC2 := Lib.hid (tokens_sub (w := W6.drew) (src := src) (b := b) (off := off) (cap := cap) (p := j) (n := n) hnl hc1 hc2 (RD6.out.xlt b hX6) (fun i hi => by
          have e := RD6.out.txt
          obtain ⟨a', cap', e1, _, _, h3⟩ := e
          rw [HSV.out, HAE.out] at e1
          injection e1 with e1 _ e4
          obtain ⟨b', off', ha', _, hc'⟩ := h3 (fun e => by rw [e] at hi; simp at hi)
          rw [ha'] at e1
          obtain ⟨rfl, rfl⟩ : b = b' ∧ off = off' := by injection e1 with e1; injection e1 with e1 e2; exact ⟨e1, e2⟩
          exact hc' i hi) (RD6.out.drew).glob (RD6.out.drew).low hslen)
      obtain ⟨tk, htk⟩ : ∃ tk, tk = tokens (n + 1) 0 ((src.drop j).take n) := ⟨_, rfl⟩
      rw [← htk] at HC2
      have HTK := Lib.hid htk
      have HRW := Lib.hid RD6.out.lt
      have HTN := Lib.hid (show T = tokRes (bareSt st j (j + n)) tk by
        rw [HT.out, htk]
        unfold next
        dsimp only
        rw [← HA.out, HN.out, ← HNL.out, if_neg (show ¬ ((src.drop j).isEmpty = true) by simp; exact hl)]
        cases tokens (n + 1) 0 ((src.drop j).take n) with
        | error b => rfl
        | ok l => cases l with
          | nil => rfl
          | cons t l => cases l <;> rfl)
      clear htk hX6
      go_region_held3 (fun w' => w'.cell? ⟨r, 0, none⟩ = some (.slice (some ⟨b, off, none⟩) src.length cap) ∧ w'.cell? ⟨r, 1, none⟩ = some (.int .i64 (j : Int)) ∧ w'.cell? ⟨r, 2, none⟩ = some (.int .i64 ((j : Int) + (n : Int))))
        (first
          | go_keep
          | (go_split_ands
             refine ⟨?_, ?_, ?_⟩
             · ((rw [World.cell?_of_block (w := W6) (hb3.block r HRW.out)]); assumption)
             · ((rw [World.cell?_of_block (w := W6) (hb3.block r HRW.out)]); assumption)
             · ((rw [World.cell?_of_block (w := W6) (hb3.block r HRW.out)]); assumption)))
        (first | (go_at_call 15; refine HC2.out.mono ?_; rintro e w7 ⟨tv, bd, er, rfl, hb3, hres⟩))
      rename_i hkeep
      have hR7 := (RD6.out.drew).below hb3
      have FR7 := Lib.hid (FR6.out.trans (Fr.trans (b := W6.drew) ⟨rfl, rfl, rfl, Nat.le_refl _, fun _ _ => rfl⟩ ⟨hb3.os, hb3.tape, hb3.output, hb3.size, fun k hk => hb3.block k (RD6.out.xlt k hk)⟩))
      have RD7 := Lib.hid hR7
      clear hkeep hb3 x0 x1 x2 hsl2 HC2 hR7
      cases tk with
      | error bb =>
        obtain ⟨rfl, rfl, rfl, hbn⟩ := hres
        have c8 := RD7.out.c8
        have f8 := RD7.out.free 8
        have hput := RD7.out.put (st' := { bareSt st j (j + n) with bad := bb }) 8 (.int .i64 (bb : Int)) (fun v => by simp [rdCells]) rfl rfl rfl rfl RD7.out.ato RD7.out.tol (by show bb ≤ src.length; omega) RD7.out.openl
        have HEND := Lib.hid (show Post X w T (Good rU X H r sv src) (.returned (.tuple #[])) (w7.setCell ⟨r, 8, none⟩ (.int .i64 (bb : Int))) from Post.ok HTN.out ⟨H, Le.refl H, hput.1, rfl⟩ (FR7.out.trans hput.2))
        clear hput
        go_wp2_with fail
        rw [Exit.noGoto_normal]
        go_end0
        exact HEND.out
      | ok l =>
        obtain ⟨rfl, rfl, hown⟩ := hres
        cases l with
        | nil =>
          obtain ⟨va, vc, hv⟩ : ∃ va vc, tv = .slice va 0 vc := by
            rcases hown.2 with ⟨e, _⟩ | ⟨g, cap, cur, e, _⟩
            · exact ⟨_, _, e⟩
            · exact ⟨_, _, e⟩
          subst hv
          have c8 := RD7.out.c8
          have f8 := RD7.out.free 8
          have hput := RD7.out.put (st' := bareSt st j (j + n)) 8 (.int .i64 0) (fun v => by simp [rdCells, bareSt]) rfl rfl rfl rfl RD7.out.ato RD7.out.tol RD7.out.badl RD7.out.openl
          have HEND := Lib.hid (show Post X w T (Good rU X H r sv src) (.returned (.tuple #[])) (w7.setCell ⟨r, 8, none⟩ (.int .i64 0)) from Post.ok HTN.out ⟨H, Le.refl H, hput.1, rfl⟩ (FR7.out.trans hput.2))
          clear hput hown
          go_wp2_with fail
          rw [Exit.noGoto_normal]
          go_end0
          exact HEND.out
        | cons t l =>
          obtain ⟨g, vc, rfl, hgl, _, hcells⟩ := own_cells hown (by simp)
          cases l with
          | nil =>
            have t0 : w7.cell? ⟨g, 0, none⟩ = some (.int .i64 t.kind) := (hcells 0 (by simp [tokCells])).trans rfl
            have t1 : w7.cell? ⟨g, 1, none⟩ = some (.int .u64 t.n) := (hcells 1 (by simp [tokCells])).trans rfl
            have t2 : w7.cell? ⟨g, 2, none⟩ = some (str t.s) := (hcells 2 (by simp [tokCells])).trans rfl
            have t3 : w7.cell? ⟨g, 3, none⟩ = some (.int .i64 t.at_) := (hcells 3 (by simp [tokCells])).trans rfl
            have t4 : w7.cell? ⟨g, 4, none⟩ = some (.int .i64 t.end_) := (hcells 4 (by simp [tokCells])).trans rfl
            have c3 := RD7.out.c3
            have c4 := RD7.out.c4
            have c5 := RD7.out.c5
            have c6 := RD7.out.c6
            have c7 := RD7.out.c7
            have f3 := RD7.out.free 3
            have f4 := RD7.out.free 4
            have f5 := RD7.out.free 5
            have f6 := RD7.out.free 6
            have f7 := RD7.out.free 7
            have hput := RD7.out.putTok t
            have HEND := Lib.hid (Post.ok (good := Good rU X H r sv src) (v := .tuple #[]) HTN.out ⟨H, Le.refl H, hput.1, rfl⟩ (FR7.out.trans hput.2))
            clear hput hown hcells
            go_wp2_with fail
            rw [Exit.noGoto_ret]
            go_end0
            exact HEND.out
          | cons t2 l =>
            have dl : (((t :: t2 :: l).length : Int) == 1) = false := by rw [beq_eq_false_iff_ne]; simp; omega
            obtain ⟨nn, hnn⟩ : ∃ nn, nn = (t :: t2 :: l).length := ⟨_, rfl⟩
            rw [← hnn] at dl ⊢
            have c8 := RD7.out.c8
            have f8 := RD7.out.free 8
            have hput := RD7.out.put (st' := bareSt st j (j + n)) 8 (.int .i64 0) (fun v => by simp [rdCells, bareSt]) rfl rfl rfl rfl RD7.out.ato RD7.out.tol RD7.out.badl RD7.out.openl
            have HEND := Lib.hid (show Post X w T (Good rU X H r sv src) (.returned (.tuple #[])) (w7.setCell ⟨r, 8, none⟩ (.int .i64 0)) from Post.ok HTN.out ⟨H, Le.refl H, hput.1, rfl⟩ (FR7.out.trans hput.2))
            clear hput hown hcells hnn
            go_wp2_with fail
            rw [Exit.noGoto_normal]
            go_end0
            exact HEND.out
    · have dl : decide (j < src.length) = false := by simpa using hl
      have f2 := hs.free 2
      have c2 := hs.c2
      rw [HSV.out] at c0
      have HN := Lib.hid (show A = j by rw [hAj, blanks_end hl]; rfl)
      have dne : ((j : Int) == (src.length : Int)) = true := by rw [beq_iff_eq]; omega
      clear hrel hs hAj
      go_wp2_with fail
      go_quiet (fail)
      obtain ⟨n1, rfl⟩ : ∃ n1 : Nat, n1 = nq := ⟨_, rfl⟩
      go_wp2_with fail
      go_quiet (fail)
      obtain ⟨n2, rfl⟩ : ∃ n2 : Nat, n2 = nq := ⟨_, rfl⟩
      obtain ⟨V, hV⟩ : ∃ V, V = ((wr.drewN n1).setCell ⟨r, 2, none⟩ (.int .i64 (j : Int))).drewN n2 := ⟨_, rfl⟩
      rw [← hV]
      have hSV : Skp w V r sv st { v with wv := .slice wa 0 wc } j j := by rw [hV]; exact ((HS.out.drewN _).to j).drewN _
      have hRV := HRD.out V j j hSV (Nat.le_refl _) hj
      have HEND := Lib.hid (show Post X w T (Good rU X H r sv src) (.returned (.tuple #[])) V by
        refine Post.ok (a := ()) (st := bareSt st j j) ?_ ⟨H, Le.refl H, hRV.1, rfl⟩ hRV.2
        rw [HT.out]
        unfold next
        dsimp only
        rw [← HA.out, HN.out, List.drop_eq_nil_of_le (by omega)]
        rfl)
      clear hV hSV hRV c0 c1 c2 f1 f2
      go_wp2_with fail
      rw [Exit.noGoto_ret]
      go_end0
      exact HEND.out
theorem next_c : NextC := fun X H r sv src st w h => (next_both X H r sv src st w .returning h).1
end
end Go.Proofs.YtkaeceedofmhbaaGreatDoor
