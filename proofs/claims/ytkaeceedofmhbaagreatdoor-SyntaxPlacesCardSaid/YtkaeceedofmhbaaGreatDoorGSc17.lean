/-
  scan: sign at the text's last byte; the whole. Made from XSc16's text.
-/
import Derived.Test.YtkaeceedofmhbaaGreatDoorGSc16
namespace Go.Proofs.YtkaeceedofmhbaaGreatDoor
open Go.RowKit Bk

section
variable {X : Nat → Prop} {c : Nat} {sv : Value} {s : Bytes} {p b : Nat} {t : Tok}

set_option maxRecDepth 100000 in
set_option maxHeartbeats 8000000 in
theorem sign_last (w : World) (h : CT X w c sv s p b t) (hp : p < s.length) (hl : ¬ p + 1 < s.length) :
    Calls Tryz.prog 62 #[.pointer (some ⟨c, 0, none⟩), .pointer (some ⟨b, 0, none⟩)] w (SignPost X c sv s p b t w (sign s[p] 0)) := by
  have HC := Lib.hid h
  have hlen := h.cur.slen
  obtain ⟨bb, off, cap, hsv, hx, hc1, hc2, hbs⟩ := h.cur.shows (show p < s.length by omega)
  have c0 := h.cur.c0
  have c1 := h.cur.c1
  have f1 := h.cur.free 1
  have cb := hbs p (by omega)
  rw [hsv] at c0
  have hp0 : (0 : Int) ≤ (p : Int) := Int.natCast_nonneg _
  have hp1 : (p : Int) < (s.length : Int) := by omega
  have hpp : ((p : Int) + 1).toNat = p + 1 := by omega
  have hpw : IntKind.i64.wrap ((p : Int) + 1) = (p : Int) + 1 := IntWalk.i64_in _ ⟨by omega, by omega⟩
  have hp3 : (0 : Int) ≤ (p : Int) + 1 := by omega
  have hd1 : decide ((p : Int) + 1 < (s.length : Int)) = false := by simp; omega
  obtain ⟨ch, hch⟩ : ∃ ch, ch = s[p] := ⟨_, rfl⟩
  obtain ⟨nx, hnx⟩ : ∃ nx : UInt8, nx = 0 := ⟨_, rfl⟩
  rw [← hch, ← hnx]
  rw [← hch] at cb
  have HSV := Lib.hid hsv
  have HCH := Lib.hid hch
  have HNX := Lib.hid hnx
  have HXB := Lib.hid hx
  clear hch hnx hbs h hc1 hc2 hsv hx
  go_enter Tryz.func62, Tryz.ntmps62
  go_wp2_with fail
  have hlt : c < w.heap.size ∧ b < w.heap.size := ⟨lt_of_block HC.out.cur.blk, lt_of_block HC.out.tok⟩
  have hsz : w.heap.size + 1 + 1 = ((w.alloc (.cells #[.pointer (some ⟨c, 0, none⟩)] 71)).alloc (.cells #[.pointer (some ⟨b, 0, none⟩)] 75)).heap.size := by simp
  have a0 := (World.cell?_of_block (a := ⟨w.heap.size, 0, none⟩) (Below.heap_alloc (w.alloc (.cells #[.pointer (some ⟨c, 0, none⟩)] 71)) (.cells #[.pointer (some ⟨b, 0, none⟩)] 75) w.heap.size (by simp))).trans (cell_of_blk (cs := [.pointer (some ⟨c, 0, none⟩)]) (heap_alloc_new w _) 0)
  have a1 : ((w.alloc (.cells #[.pointer (some ⟨c, 0, none⟩)] 71)).alloc (.cells #[.pointer (some ⟨b, 0, none⟩)] 75)).cell? ⟨w.heap.size + 1, 0, none⟩ = some (.pointer (some ⟨b, 0, none⟩)) := by
    simp
  have hC1 := Lib.hid ((HC.out.alloc (.cells #[.pointer (some ⟨c, 0, none⟩)] 71)).alloc (.cells #[.pointer (some ⟨b, 0, none⟩)] 75))
  have hF1 := Lib.hid (((Fr.refl X w).alloc HC.out.cur.xlt (.cells #[.pointer (some ⟨c, 0, none⟩)] 71)).alloc (HC.out.alloc _).cur.xlt (.cells #[.pointer (some ⟨b, 0, none⟩)] 75))
  obtain ⟨w1, hW1⟩ : ∃ w1, w1 = ((w.alloc (.cells #[.pointer (some ⟨c, 0, none⟩)] 71)).alloc (.cells #[.pointer (some ⟨b, 0, none⟩)] 75)) := ⟨_, rfl⟩
  rw [← hW1] at hsz a0 a1 hC1 hF1 ⊢
  clear hW1
  obtain ⟨g0, hg0⟩ : ∃ g0, g0 = w.heap.size := ⟨_, rfl⟩
  obtain ⟨g1, hg1⟩ : ∃ g1, g1 = w.heap.size + 1 := ⟨_, rfl⟩
  have hgs : g0 < w1.heap.size ∧ g1 < w1.heap.size ∧ ¬ g0 = c ∧ ¬ g0 = b ∧ ¬ g1 = c ∧ ¬ g1 = b := by omega
  rw [← hg0] at a0
  rw [← hg1] at a1
  rw [← hg1, ← hg0]
  clear hsz hlt hg0 hg1 c0 c1 cb f1
  have c0 := hC1.out.cur.c0
  have c1 := hC1.out.cur.c1
  rw [HSV.out] at c0
  have cb : w1.cell? ⟨bb, off + p, none⟩ = some (.int .u8 (ch.toNat : Int)) := by
    obtain ⟨bb', off', cap', e, _, _, _, hbs⟩ := hC1.out.cur.shows (show p < s.length by omega)
    rw [HSV.out] at e
    cases e
    rw [HCH.out]
    exact hbs p (by omega)
  go_region_held3 (fun w' => w'.cell? ⟨g0, 0, none⟩ = some (.pointer (some ⟨c, 0, none⟩)) ∧ w'.cell? ⟨c, 0, none⟩ = some (.slice (some ⟨bb, off, none⟩) s.length cap) ∧ w'.cell? ⟨c, 1, none⟩ = some (.int .i64 p) ∧ w'.cell? ⟨bb, off + p, none⟩ = some (.int .u8 (ch.toNat : Int)))
    (first | exact ⟨a0, c0, c1, cb⟩ | exact ⟨by assumption, by assumption, by assumption, by assumption⟩ | go_keep | (simp [go_sem, World.cell?_alloc_past]; done))
    (fail)
  have hw2 : ∀ k, k < w1.heap.size → (w1.alloc (.cells #[.int .u8 0] 5)).drew.heap[k]? = w1.heap[k]? := fun k hk => Below.heap_alloc w1 _ k hk
  have b0 := (World.cell?_of_block (a := ⟨g0, 0, none⟩) (hw2 g0 hgs.1)).trans a0
  have b1 := (World.cell?_of_block (a := ⟨g1, 0, none⟩) (hw2 g1 hgs.2.1)).trans a1
  have hb2 : (w1.alloc (.cells #[.int .u8 0] 5)).drew.heap[w1.heap.size]? = some (.cells ([.int .u8 0] : List Value).toArray 5 (0, 0)) := heap_alloc_new w1 _
  have b2 : (w1.alloc (.cells #[.int .u8 0] 5)).drew.cell? ⟨w1.heap.size, 0, none⟩ = some (.int .u8 0) := cell_of_blk (cs := [.int .u8 0]) (heap_alloc_new w1 _) 0
  have fb2 : (w1.alloc (.cells #[.int .u8 0] 5)).drew.frozen? ⟨w1.heap.size, 0, none⟩ = false := free_of_blk (heap_alloc_new w1 _) 0
  have hC2 : Hid (CT X (w1.alloc (.cells #[.int .u8 0] 5)).drew c sv s p b t) := Lib.hid ((hC1.out.alloc (.cells #[.int .u8 0] 5)).drewN 1)
  have hF2 : Hid (Fr X w (w1.alloc (.cells #[.int .u8 0] 5)).drew) := Lib.hid ((hF1.out.alloc hC1.out.cur.xlt (.cells #[.int .u8 0] 5)).drewN 1)
  obtain ⟨w2, hW2⟩ : ∃ w2, w2 = (w1.alloc (.cells #[.int .u8 0] 5)).drew := ⟨_, rfl⟩
  obtain ⟨g2, hg2⟩ : ∃ g2, g2 = w1.heap.size := ⟨_, rfl⟩
  have hlt1 : c < w1.heap.size ∧ b < w1.heap.size := ⟨lt_of_block hC1.out.cur.blk, lt_of_block hC1.out.tok⟩
  have hgs2 : ¬ g2 = c ∧ ¬ g2 = b ∧ ¬ g2 = g0 ∧ ¬ g2 = g1 ∧ w1.heap.size ≤ g2 := by omega
  have hx2 : ¬ X g2 := fun hX => by have := hC1.out.cur.xlt g2 hX; omega
  rw [← hW2] at b0 b1 b2 hb2 fb2 hC2 hF2 ⊢
  rw [← hg2] at b2 hb2 fb2 ⊢
  clear hW2 hg2 hw2 a0 a1 c0 c1 cb hlt1
  have c0 := hC2.out.cur.c0
  have c1 := hC2.out.cur.c1
  rw [HSV.out] at c0
  have bg2 : ¬ bb = g2 := fun e => hx2 (e ▸ HXB.out)
  have bg2' : ¬ g2 = bb := fun e => bg2 e.symm
  obtain ⟨_, _, g0c, g0b, g1c, g1b⟩ := hgs
  obtain ⟨g2c, g2b, g20, g21, _⟩ := hgs2
  go_wp2_with fail
  go_quiet (fail)
  have f1 := hC2.out.cur.free 1
  have g0c' : ¬ c = g0 := fun e => g0c e.symm
  have g2c' : ¬ c = g2 := fun e => g2c e.symm
  have hC4 := fun m => ((hC2.out.drewN m).step (by omega))
  have hF4 := fun m => ((hF2.out.drewN m).setCell (p := ⟨c, 1, none⟩) hC2.out.cur.xc (.int .i64 ((p : Int) + 1)))
  have hT4 : ∀ m, TwoR ((w2.drewN m).setCell ⟨c, 1, none⟩ (.int .i64 ((p : Int) + 1))) c b (nx.toNat : Int) g0 g1 g2 := fun m => by
    refine ⟨?_, ?_, ?_, g0c, g0b, g1c, g1b, g2c, g2b⟩
    · rw [World.cell?_of_block (Below.heap_setCell _ _ _ _ (show g0 ≠ c from g0c))]; exact b0
    · rw [World.cell?_of_block (Below.heap_setCell _ _ _ _ (show g1 ≠ c from g1c))]; exact b1
    · rw [World.cell?_of_block (Below.heap_setCell _ _ _ _ (show g2 ≠ c from g2c))]
      rw [HNX.out]; exact b2
  have HC4 := Lib.hid hC4
  have HF4 := Lib.hid hF4
  have HT4 := Lib.hid hT4
  clear hC4 hF4 hT4
  go_upto_region 6 with (fail)
  obtain ⟨w4, hW4⟩ : ∃ w4, w4 = ((w2.drewN nq).setCell ⟨c, 1, none⟩ (.int .i64 ((p : Int) + 1))) := ⟨_, rfl⟩
  have hC4 := HC4.out nq
  have hF4 := HF4.out nq
  have hT4 := HT4.out nq
  rw [← hW4] at hC4 hF4 hT4 ⊢
  have HC := Lib.hid hC4
  have HF := Lib.hid hF4
  have HT := Lib.hid hT4
  have d1 := hT4.a1
  have d2 := hT4.a2
  have tk := hC4.cell 0
  have tf := hC4.tfree 0
  clear hW4 hC4 hF4 hT4 HC4 HF4 HT4 c0 c1 b0 b1 b2 hb2 fb2 f1
  by_cases h46 : ch = 46
  · subst h46
    by_cases hn : nx = 46
    · subst hn
      exact absurd HNX.out (by decide)
    · have hne : ((nx.toNat : Int) == 46) = false := byte_ne (y := 46) hn
      have HS := Lib.hid (show sign 46 nx = (0, 1) by simp [sign, hn])
      clear hn
      go_wp2_with fail
      refine (two_no w4 _ 46 12 0 HC.out HT.out hne).mono ?_
      rintro e w5 ⟨rfl, hC5, hF5⟩
      have HC5 := Lib.hid hC5
      have HF5 := Lib.hid hF5
      clear hC5 hF5
      go_wp2_with fail
      go_ret
      rw [HS.out]
      exact ⟨rfl, HC5.out, HF.out.trans HF5.out⟩
  by_cases h33 : ch = 33
  · subst h33
    by_cases hn : nx = 61
    · subst hn
      exact absurd HNX.out (by decide)
    · have hne : ((nx.toNat : Int) == 61) = false := byte_ne (y := 61) hn
      have HS := Lib.hid (show sign 33 nx = (0, 1) by simp [sign, hn])
      clear hn
      go_wp2_with fail
      refine (two_no w4 _ 61 15 0 HC.out HT.out hne).mono ?_
      rintro e w5 ⟨rfl, hC5, hF5⟩
      have HC5 := Lib.hid hC5
      have HF5 := Lib.hid hF5
      clear hC5 hF5
      go_wp2_with fail
      go_ret
      rw [HS.out]
      exact ⟨rfl, HC5.out, HF.out.trans HF5.out⟩
  by_cases h61 : ch = 61
  · subst h61
    by_cases hn : nx = 61
    · subst hn
      exact absurd HNX.out (by decide)
    · have hne : ((nx.toNat : Int) == 61) = false := byte_ne (y := 61) hn
      have HS := Lib.hid (show sign 61 nx = (13, 1) by simp [sign, hn])
      clear hn
      go_wp2_with fail
      refine (two_no w4 _ 61 14 13 HC.out HT.out hne).mono ?_
      rintro e w5 ⟨rfl, hC5, hF5⟩
      have HC5 := Lib.hid hC5
      have HF5 := Lib.hid hF5
      clear hC5 hF5
      go_wp2_with fail
      go_ret
      rw [HS.out]
      exact ⟨rfl, HC5.out, HF.out.trans HF5.out⟩
  by_cases h60 : ch = 60
  · subst h60
    by_cases hm : nx = 60
    · subst hm
      exact absurd HNX.out (by decide)
    · have hme : ((nx.toNat : Int) == 60) = false := byte_ne (y := 60) hm
      by_cases hn : nx = 61
      · subst hn
        exact absurd HNX.out (by decide)
      · have hne : ((nx.toNat : Int) == 61) = false := byte_ne (y := 61) hn
        have HS := Lib.hid (show sign 60 nx = (16, 1) by simp [sign, hn, hm])
        clear hn hm
        go_wp2_with fail
        refine (two_no w4 _ 61 17 16 HC.out HT.out hne).mono ?_
        rintro e w5 ⟨rfl, hC5, hF5⟩
        have HC5 := Lib.hid hC5
        have HF5 := Lib.hid hF5
        clear hC5 hF5
        go_wp2_with fail
        go_ret
        rw [HS.out]
        exact ⟨rfl, HC5.out, HF.out.trans HF5.out⟩
  by_cases h62 : ch = 62
  · subst h62
    by_cases hm : nx = 62
    · subst hm
      exact absurd HNX.out (by decide)
    · have hme : ((nx.toNat : Int) == 62) = false := byte_ne (y := 62) hm
      by_cases hn : nx = 61
      · subst hn
        exact absurd HNX.out (by decide)
      · have hne : ((nx.toNat : Int) == 61) = false := byte_ne (y := 61) hn
        have HS := Lib.hid (show sign 62 nx = (18, 1) by simp [sign, hn, hm])
        clear hn hm
        go_wp2_with fail
        refine (two_no w4 _ 61 19 18 HC.out HT.out hne).mono ?_
        rintro e w5 ⟨rfl, hC5, hF5⟩
        have HC5 := Lib.hid hC5
        have HF5 := Lib.hid hF5
        clear hC5 hF5
        go_wp2_with fail
        go_ret
        rw [HS.out]
        exact ⟨rfl, HC5.out, HF.out.trans HF5.out⟩
  have HS := Lib.hid (show sign ch nx = (single ch, 1) by simp [sign, h46, h33, h61, h60, h62])
  have e1 : ((ch.toNat : Int) == 46) = false := byte_ne (y := 46) h46
  have e2 : ((ch.toNat : Int) == 33) = false := byte_ne (y := 33) h33
  have e3 : ((ch.toNat : Int) == 61) = false := byte_ne (y := 61) h61
  have e4 : ((ch.toNat : Int) == 60) = false := byte_ne (y := 60) h60
  have e5 : ((ch.toNat : Int) == 62) = false := byte_ne (y := 62) h62
  clear h46 h33 h61 h60 h62
  have HI := fun w => Lib.hid (single_c ch w)
  have hpos := single_pos ch
  obtain ⟨v, hv⟩ : ∃ v, v = single ch := ⟨_, rfl⟩
  rw [← hv] at HS HI hpos
  clear hv
  go_wp2_with fail
  have g1b' : ¬ b = g1 := fun e => g1b e.symm
  go_region_held3 (fun w' => w'.cell? ⟨g1, 0, none⟩ = some (.pointer (some ⟨b, 0, none⟩)))
    (first | exact d1 | assumption | go_keep | (simp [go_sem]; done))
    (first | (go_at_call 91; refine (HI _).out.mono ?_; rintro e w5 ⟨rfl, rfl⟩))
  go_wp2_with fail
  go_ret
  rw [HS.out]
  exact ⟨by simp [hpos], (HC.out.put (t' := { t with kind := v }) 0 _ rfl).drewN 1, (HF.out.setCell HC.out.xb _).drewN 1⟩

theorem sign_c (w : World) (h : CT X w c sv s p b t) (hp : p < s.length) :
    Calls Tryz.prog 62 #[.pointer (some ⟨c, 0, none⟩), .pointer (some ⟨b, 0, none⟩)] w (SignPost X c sv s p b t w (sign s[p] ((s.drop (p + 1)).headD 0))) := by
  by_cases hl : p + 1 < s.length
  · rw [drop_cons hl]; exact sign_on w h hl
  · rw [List.drop_eq_nil_of_le (by omega)]; exact sign_last w h hp hl
end
end Go.Proofs.YtkaeceedofmhbaaGreatDoor
