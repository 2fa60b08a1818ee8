/-
  bulkheadlaw6: SyntaxPlaces, walked; the reference's At.
  bulkheadlaw6: SyntaxPlaces, walked.
-/
import Derived.Test.YtkaeceedofmhbaaGreatDoorGLaw6
import Derived.Deep.RegionHeld3
namespace Go.Proofs.YtkaeceedofmhbaaGreatDoor
open Go.RowKit Bk
attribute [local go_sem ↓] Go.wp_at_zero Go.wp_at_succ

theorem lineOf_snoc (s : Bytes) (c : UInt8) : lineOf (s ++ [c]) = if c = 10 then ((lineOf s).1 + 1, 1) else ((lineOf s).1, (lineOf s).2 + 1) := by
  unfold lineOf; rw [List.foldl_append]; rfl
theorem lineOf_bd (s : Bytes) : 1 ≤ (lineOf s).1 ∧ (lineOf s).1 ≤ 1 + s.length ∧ 1 ≤ (lineOf s).2 ∧ (lineOf s).2 ≤ 1 + s.length := by
  obtain ⟨t, ht⟩ : ∃ t, t = s.reverse := ⟨_, rfl⟩
  obtain rfl : s = t.reverse := by rw [ht, List.reverse_reverse]
  clear ht
  induction t with
  | nil => exact ⟨by decide, by decide, by decide, by decide⟩
  | cons c t ih =>
    rw [List.reverse_cons, lineOf_snoc, List.length_append]
    obtain ⟨h1, h2, h3, h4⟩ := ih
    have e : (([c] : Bytes).length) = 1 := rfl
    rw [e]
    split
    · refine ⟨?_, ?_, ?_, ?_⟩ <;> simp only [] <;> omega
    · refine ⟨?_, ?_, ?_, ?_⟩ <;> simp only [] <;> omega
theorem place_of {src : Bytes} {at_ : Int} {k : Nat} (hk : min (max at_ 0) (src.length : Int) = k) : place src at_ = { at_ := k, line := (lineOf (src.take k)).1, column := (lineOf (src.take k)).2 } := by
  unfold place; simp only []; rw [hk, show ((k : Int)).toNat = k by omega]

/-- The reference's place while it counts. -/
structure RefAt (w : World) (src : Bytes) (k j : Nat) (wr : World) : Prop where
  b0 : wr.heap[w.heap.size]? = some (.cells [Value.int .i64 0, .int .i64 0, .int .i64 0].toArray 30 (0, 0))
  b1 : wr.heap[w.heap.size + 1]? = some (.cells [Value.int .i64 (k : Int), .int .i64 (lineOf (src.take j)).1, .int .i64 (lineOf (src.take j)).2].toArray 30 (0, 0))
  below : Below w.heap.size w wr

section
variable {X : Nat → Prop} {w : World} {sv : Value} {src : Bytes}

set_option maxRecDepth 100000 in
set_option maxHeartbeats 4000000 in
theorem ref_at_mid (k : Nat) (hk : k ≤ src.length) (h : Txt X w sv src) (hb : src.length < 4611686018427387904) : Calls Tryz.prog 14 #[sv, .int .i64 (k : Int)] w fun e w' => e = .returned (placeV { at_ := ((k : Nat) : Int), line := (lineOf (src.take (k))).1, column := (lineOf (src.take (k))).2 }) ∧ Below w.heap.size w w' := by
  obtain ⟨a, cap, rfl, hcap, hmax, hc⟩ := h
  have HC := Lib.hid (show ∀ i (hi : i < src.length), ∃ b off, a = some ⟨b, off, none⟩ ∧ b < w.heap.size ∧ w.cell? ⟨b, off + i, none⟩ = some (.int .u8 (src[i].toNat : Int)) from fun i hi => by
    obtain ⟨b, off, ha, _, hcell⟩ := hc (fun e => by rw [e] at hi; simp at hi)
    have h0 := hcell i hi
    refine ⟨b, off, ha, Classical.byContradiction fun hn => ?_, h0⟩
    simp [World.cell?, Array.getElem?_eq_none (show w.heap.size ≤ b by omega)] at h0)
  clear hc hmax
  obtain ⟨n, hn⟩ : ∃ n, n = src.length := ⟨_, rfl⟩
  have HN := Lib.hid hn
  rw [← hn] at hb hcap ⊢
  rw [← hn] at hk
  have h1 : ¬ ((k : Nat) : Int) < 0 := by omega
  have h2 : ¬ ((k : Nat) : Int) > ((n : Nat) : Int) := by omega
  clear hn
  go_enter Tryz.func14, Tryz.ntmps14
  go_upto_region 6 with (fail)
  obtain ⟨W2, hW2⟩ : ∃ W2, W2 = (w.alloc (Obj.cells #[.int .i64 0, .int .i64 0, .int .i64 0] 30)).alloc (Obj.cells #[.int .i64 (k : Int), .int .i64 1, .int .i64 1] 30) := ⟨_, rfl⟩
  have hk0 : W2.heap[w.heap.size]? = some (.cells [Value.int .i64 0, .int .i64 0, .int .i64 0].toArray 30 (0, 0)) := by rw [hW2, heap_alloc_old _ _ (by simp)]; exact heap_alloc_new w _
  have hk1 : W2.heap[w.heap.size + 1]? = some (.cells [Value.int .i64 (k : Int), .int .i64 1, .int .i64 1].toArray 30 (0, 0)) := by
    have := heap_alloc_new (w.alloc (Obj.cells #[.int .i64 0, .int .i64 0, .int .i64 0] 30)) (Obj.cells #[.int .i64 (k : Int), .int .i64 1, .int .i64 1] 30)
    rw [hW2]; simpa using this
  have hbel : Below w.heap.size w W2 := by rw [hW2]; exact ((Below.refl _ _).alloc (Nat.le_refl _) _).alloc (by simp) _
  have HR0 := Lib.hid (show RefAt w src (k) 0 W2 from ⟨hk0, hk1, hbel⟩)
  rw [← hW2]
  obtain ⟨B, hB⟩ : ∃ B, B = w.heap.size := ⟨_, rfl⟩
  rw [← hB]
  have HB := Lib.hid hB
  clear hW2 hk0 hk1 hbel hB
  go_wp2_with fail
  go_loopg [6] (n + 1) (fun g s6 wr => ∃ j : Nat, j ≤ k ∧ k < g + j ∧ s6 = .int .i64 (j : Int) ∧ Hid (RefAt w src (k) j wr))
  case atStart => exact ⟨0, by omega, by omega, rfl, HR0⟩
  case round =>
    obtain ⟨j, hj, hg, rfl, hR⟩ := hrel
    have k0 := hR.out.b0
    have k1 := hR.out.b1
    rw [← HB.out] at k0 k1
    obtain ⟨L, hL⟩ : ∃ L, L = (lineOf (src.take j)).1 := ⟨_, rfl⟩
    obtain ⟨C, hC⟩ : ∃ C, C = (lineOf (src.take j)).2 := ⟨_, rfl⟩
    have hbd := lineOf_bd (src.take j)
    rw [List.length_take, ← hL, ← hC, ← HN.out] at hbd
    obtain ⟨l1, l2, l3, l4⟩ := hbd
    have l2' : L ≤ 1 + n := by omega
    have l4' : C ≤ 1 + n := by omega
    rw [← hL, ← hC] at k1
    have c0 : wr.cell? ⟨B + 1, 0, none⟩ = some (.int .i64 ((k : Nat) : Int)) := cell_of_blk k1 0
    have c1 : wr.cell? ⟨B + 1, 1, none⟩ = some (.int .i64 L) := cell_of_blk k1 1
    have c2 : wr.cell? ⟨B + 1, 2, none⟩ = some (.int .i64 C) := cell_of_blk k1 2
    have f1 := free_of_blk k1 1
    have f2 := free_of_blk k1 2
    by_cases hlt : j < k
    · have hjs : j < src.length := by have := HN.out; omega
      obtain ⟨b, off, rfl, hbw, hcell⟩ := HC.out j hjs
      obtain ⟨y, hy⟩ : ∃ y : Int, y = (src[j].toNat : Int) := ⟨_, rfl⟩
      have cy : wr.cell? ⟨b, off + j, none⟩ = some (.int .u8 y) := by rw [hy, World.cell?_of_block (w := w) (a := ⟨b, off + j, none⟩) (hR.out.below.block b hbw)]; exact hcell
      have hts : src.take (j + 1) = src.take j ++ [src[j]] := by rw [List.take_succ_eq_append_getElem hjs]
      have hne : ¬ B + 1 = b := by have := HB.out; omega
      have hne2 : ¬ b = B + 1 := by omega
      have HBE := Lib.hid hR.out.below
      have HK0 := Lib.hid k0
      have HK1 := Lib.hid k1
      have hlt2 : ((j : Nat) : Int) < (k : Int) := by omega
      by_cases h10 : src[j] = 10
      · have hy10 : (y == 10) = true := by rw [hy, h10]; rfl
        have HLS := Lib.hid (show lineOf (src.take (j + 1)) = (L + 1, 1) by rw [hts, lineOf_snoc, if_pos h10, hL])
        clear hcell hts hR hL hC hy h10 k0 k1
        go_wp2_with fail
        go_roundg (k - j)
        case measure => omega
        case rel =>
          refine ⟨j + 1, by omega, by omega, rfl, Lib.hid ⟨?_, ?_, ?_⟩⟩
          · rw [← HB.out]
            exact ((Below.heap_setCell _ _ _ _ (show B ≠ B + 1 by omega)).trans ((Below.heap_setCell _ _ _ _ (show B ≠ B + 1 by omega)).trans (Below.heap_setCell _ _ _ _ (show B ≠ B + 1 by omega)))).trans HK0.out
          · rw [← HB.out, HLS.out]
            exact blk_set (blk_set (blk_set HK1.out 2 (.int .i64 (C + 1))) 1 (.int .i64 (L + 1))) 2 (.int .i64 1)
          · have := HB.out
            exact ((HBE.out.setCell (by show w.heap.size ≤ B + 1; omega) _).setCell (by show w.heap.size ≤ B + 1; omega) _).setCell (by show w.heap.size ≤ B + 1; omega) _
      · have hy10 : (y == 10) = false := by
          rw [beq_eq_false_iff_ne, hy]
          exact fun e => h10 (UInt8.toNat_inj.1 (by simpa using Int.ofNat_inj.1 e))
        have HLS := Lib.hid (show lineOf (src.take (j + 1)) = (L, C + 1) by rw [hts, lineOf_snoc, if_neg h10, hL, hC])
        clear hcell hts hR hL hC hy h10 k0 k1
        go_wp2_with fail
        go_roundg (k - j)
        case measure => omega
        case rel =>
          refine ⟨j + 1, by omega, by omega, rfl, Lib.hid ⟨?_, ?_, ?_⟩⟩
          · rw [← HB.out]
            exact (Below.heap_setCell _ _ _ _ (show B ≠ B + 1 by omega)).trans HK0.out
          · rw [← HB.out, HLS.out]
            exact blk_set HK1.out 2 (.int .i64 (C + 1))
          · have := HB.out
            exact HBE.out.setCell (by show w.heap.size ≤ B + 1; omega) _
    · obtain rfl : k = j := by omega
      have hlt2 : ¬ ((k : Nat) : Int) < (k : Int) := by omega
      have d0 : wr.cell? ⟨B, 0, none⟩ = some (.int .i64 0) := cell_of_blk k0 0
      have d1 : wr.cell? ⟨B, 1, none⟩ = some (.int .i64 0) := cell_of_blk k0 1
      have d2 : wr.cell? ⟨B, 2, none⟩ = some (.int .i64 0) := cell_of_blk k0 2
      have q0 := free_of_blk k0 0
      have q1 := free_of_blk k0 1
      have q2 := free_of_blk k0 2
      have HBE := Lib.hid hR.out.below
      have HK0 := Lib.hid k0
      have HLC := Lib.hid (And.intro hL hC)
      clear hR hL hC k0 k1
      go_wp2_with fail
      obtain ⟨W, hW⟩ : ∃ W, W = ((wr.setCell ⟨B, 0, none⟩ (.int .i64 ((k : Nat) : Int))).setCell ⟨B, 1, none⟩ (.int .i64 L)).setCell ⟨B, 2, none⟩ (.int .i64 C) := ⟨_, rfl⟩
      have hWb : W.heap[B]? = some (.cells [Value.int .i64 ((k : Nat) : Int), .int .i64 L, .int .i64 C].toArray 30 (0, 0)) := by rw [hW]; exact blk_set (blk_set (blk_set HK0.out 0 _) 1 _) 2 _
      have hBW : Below w.heap.size w W := by
        have := HB.out
        rw [hW]; exact ((HBE.out.setCell (by show w.heap.size ≤ B; omega) _).setCell (by show w.heap.size ≤ B; omega) _).setCell (by show w.heap.size ≤ B; omega) _
      rw [← hW]
      have m0 := cell_of_blk hWb 0
      have m1 := cell_of_blk hWb 1
      have m2 := cell_of_blk hWb 2
      simp only [List.getElem?_cons_zero, List.getElem?_cons_succ] at m0 m1 m2
      clear hW hWb
      refine bodyPost_ret (v := .agg #[.int .i64 ((k : Nat) : Int), .int .i64 L, .int .i64 C]) (by simp [results, Tryz.results14, go_sem, m0, m1, m2]) rfl ⟨by rw [HLC.out.1, HLC.out.2]; rfl, hBW⟩

set_option maxRecDepth 100000 in
set_option maxHeartbeats 4000000 in
theorem ref_at_high (at_ : Int) (h2 : at_ > (src.length : Int)) (h : Txt X w sv src) (hb : src.length < 4611686018427387904) : Calls Tryz.prog 14 #[sv, .int .i64 at_] w fun e w' => e = .returned (placeV { at_ := ((src.length : Nat) : Int), line := (lineOf (src.take (src.length))).1, column := (lineOf (src.take (src.length))).2 }) ∧ Below w.heap.size w w' := by
  obtain ⟨a, cap, rfl, hcap, hmax, hc⟩ := h
  have HC := Lib.hid (show ∀ i (hi : i < src.length), ∃ b off, a = some ⟨b, off, none⟩ ∧ b < w.heap.size ∧ w.cell? ⟨b, off + i, none⟩ = some (.int .u8 (src[i].toNat : Int)) from fun i hi => by
    obtain ⟨b, off, ha, _, hcell⟩ := hc (fun e => by rw [e] at hi; simp at hi)
    have h0 := hcell i hi
    refine ⟨b, off, ha, Classical.byContradiction fun hn => ?_, h0⟩
    simp [World.cell?, Array.getElem?_eq_none (show w.heap.size ≤ b by omega)] at h0)
  clear hc hmax
  obtain ⟨n, hn⟩ : ∃ n, n = src.length := ⟨_, rfl⟩
  have HN := Lib.hid hn
  rw [← hn] at hb hcap ⊢
  rw [← hn] at h2
  have h1 : ¬ at_ < 0 := by omega
  clear hn
  go_enter Tryz.func14, Tryz.ntmps14
  go_upto_region 6 with (fail)
  obtain ⟨W2, hW2⟩ : ∃ W2, W2 = (w.alloc (Obj.cells #[.int .i64 0, .int .i64 0, .int .i64 0] 30)).alloc (Obj.cells #[.int .i64 (n : Int), .int .i64 1, .int .i64 1] 30) := ⟨_, rfl⟩
  have hk0 : W2.heap[w.heap.size]? = some (.cells [Value.int .i64 0, .int .i64 0, .int .i64 0].toArray 30 (0, 0)) := by rw [hW2, heap_alloc_old _ _ (by simp)]; exact heap_alloc_new w _
  have hk1 : W2.heap[w.heap.size + 1]? = some (.cells [Value.int .i64 (n : Int), .int .i64 1, .int .i64 1].toArray 30 (0, 0)) := by
    have := heap_alloc_new (w.alloc (Obj.cells #[.int .i64 0, .int .i64 0, .int .i64 0] 30)) (Obj.cells #[.int .i64 (n : Int), .int .i64 1, .int .i64 1] 30)
    rw [hW2]; simpa using this
  have hbel : Below w.heap.size w W2 := by rw [hW2]; exact ((Below.refl _ _).alloc (Nat.le_refl _) _).alloc (by simp) _
  have HR0 := Lib.hid (show RefAt w src (n) 0 W2 from ⟨hk0, hk1, hbel⟩)
  rw [← hW2]
  obtain ⟨B, hB⟩ : ∃ B, B = w.heap.size := ⟨_, rfl⟩
  rw [← hB]
  have HB := Lib.hid hB
  clear hW2 hk0 hk1 hbel hB
  go_wp2_with fail
  go_loopg [6] (n + 1) (fun g s6 wr => ∃ j : Nat, j ≤ n ∧ n < g + j ∧ s6 = .int .i64 (j : Int) ∧ Hid (RefAt w src (n) j wr))
  case atStart => exact ⟨0, by omega, by omega, rfl, HR0⟩
  case round =>
    obtain ⟨j, hj, hg, rfl, hR⟩ := hrel
    have k0 := hR.out.b0
    have k1 := hR.out.b1
    rw [← HB.out] at k0 k1
    obtain ⟨L, hL⟩ : ∃ L, L = (lineOf (src.take j)).1 := ⟨_, rfl⟩
    obtain ⟨C, hC⟩ : ∃ C, C = (lineOf (src.take j)).2 := ⟨_, rfl⟩
    have hbd := lineOf_bd (src.take j)
    rw [List.length_take, ← hL, ← hC, ← HN.out] at hbd
    obtain ⟨l1, l2, l3, l4⟩ := hbd
    have l2' : L ≤ 1 + n := by omega
    have l4' : C ≤ 1 + n := by omega
    rw [← hL, ← hC] at k1
    have c0 : wr.cell? ⟨B + 1, 0, none⟩ = some (.int .i64 ((n : Nat) : Int)) := cell_of_blk k1 0
    have c1 : wr.cell? ⟨B + 1, 1, none⟩ = some (.int .i64 L) := cell_of_blk k1 1
    have c2 : wr.cell? ⟨B + 1, 2, none⟩ = some (.int .i64 C) := cell_of_blk k1 2
    have f1 := free_of_blk k1 1
    have f2 := free_of_blk k1 2
    by_cases hlt : j < n
    · have hjs : j < src.length := by have := HN.out; omega
      obtain ⟨b, off, rfl, hbw, hcell⟩ := HC.out j hjs
      obtain ⟨y, hy⟩ : ∃ y : Int, y = (src[j].toNat : Int) := ⟨_, rfl⟩
      have cy : wr.cell? ⟨b, off + j, none⟩ = some (.int .u8 y) := by rw [hy, World.cell?_of_block (w := w) (a := ⟨b, off + j, none⟩) (hR.out.below.block b hbw)]; exact hcell
      have hts : src.take (j + 1) = src.take j ++ [src[j]] := by rw [List.take_succ_eq_append_getElem hjs]
      have hne : ¬ B + 1 = b := by have := HB.out; omega
      have hne2 : ¬ b = B + 1 := by omega
      have HBE := Lib.hid hR.out.below
      have HK0 := Lib.hid k0
      have HK1 := Lib.hid k1
      have hlt2 : ((j : Nat) : Int) < (n : Int) := by omega
      by_cases h10 : src[j] = 10
      · have hy10 : (y == 10) = true := by rw [hy, h10]; rfl
        have HLS := Lib.hid (show lineOf (src.take (j + 1)) = (L + 1, 1) by rw [hts, lineOf_snoc, if_pos h10, hL])
        clear hcell hts hR hL hC hy h10 k0 k1
        go_wp2_with fail
        go_roundg (n - j)
        case measure => omega
        case rel =>
          refine ⟨j + 1, by omega, by omega, rfl, Lib.hid ⟨?_, ?_, ?_⟩⟩
          · rw [← HB.out]
            exact ((Below.heap_setCell _ _ _ _ (show B ≠ B + 1 by omega)).trans ((Below.heap_setCell _ _ _ _ (show B ≠ B + 1 by omega)).trans (Below.heap_setCell _ _ _ _ (show B ≠ B + 1 by omega)))).trans HK0.out
          · rw [← HB.out, HLS.out]
            exact blk_set (blk_set (blk_set HK1.out 2 (.int .i64 (C + 1))) 1 (.int .i64 (L + 1))) 2 (.int .i64 1)
          · have := HB.out
            exact ((HBE.out.setCell (by show w.heap.size ≤ B + 1; omega) _).setCell (by show w.heap.size ≤ B + 1; omega) _).setCell (by show w.heap.size ≤ B + 1; omega) _
      · have hy10 : (y == 10) = false := by
          rw [beq_eq_false_iff_ne, hy]
          exact fun e => h10 (UInt8.toNat_inj.1 (by simpa using Int.ofNat_inj.1 e))
        have HLS := Lib.hid (show lineOf (src.take (j + 1)) = (L, C + 1) by rw [hts, lineOf_snoc, if_neg h10, hL, hC])
        clear hcell hts hR hL hC hy h10 k0 k1
        go_wp2_with fail
        go_roundg (n - j)
        case measure => omega
        case rel =>
          refine ⟨j + 1, by omega, by omega, rfl, Lib.hid ⟨?_, ?_, ?_⟩⟩
          · rw [← HB.out]
            exact (Below.heap_setCell _ _ _ _ (show B ≠ B + 1 by omega)).trans HK0.out
          · rw [← HB.out, HLS.out]
            exact blk_set HK1.out 2 (.int .i64 (C + 1))
          · have := HB.out
            exact HBE.out.setCell (by show w.heap.size ≤ B + 1; omega) _
    · obtain rfl : n = j := by omega
      have hlt2 : ¬ ((n : Nat) : Int) < (n : Int) := by omega
      have d0 : wr.cell? ⟨B, 0, none⟩ = some (.int .i64 0) := cell_of_blk k0 0
      have d1 : wr.cell? ⟨B, 1, none⟩ = some (.int .i64 0) := cell_of_blk k0 1
      have d2 : wr.cell? ⟨B, 2, none⟩ = some (.int .i64 0) := cell_of_blk k0 2
      have q0 := free_of_blk k0 0
      have q1 := free_of_blk k0 1
      have q2 := free_of_blk k0 2
      have HBE := Lib.hid hR.out.below
      have HK0 := Lib.hid k0
      have HLC := Lib.hid (And.intro hL hC)
      clear hR hL hC k0 k1
      go_wp2_with fail
      obtain ⟨W, hW⟩ : ∃ W, W = ((wr.setCell ⟨B, 0, none⟩ (.int .i64 ((n : Nat) : Int))).setCell ⟨B, 1, none⟩ (.int .i64 L)).setCell ⟨B, 2, none⟩ (.int .i64 C) := ⟨_, rfl⟩
      have hWb : W.heap[B]? = some (.cells [Value.int .i64 ((n : Nat) : Int), .int .i64 L, .int .i64 C].toArray 30 (0, 0)) := by rw [hW]; exact blk_set (blk_set (blk_set HK0.out 0 _) 1 _) 2 _
      have hBW : Below w.heap.size w W := by
        have := HB.out
        rw [hW]; exact ((HBE.out.setCell (by show w.heap.size ≤ B; omega) _).setCell (by show w.heap.size ≤ B; omega) _).setCell (by show w.heap.size ≤ B; omega) _
      rw [← hW]
      have m0 := cell_of_blk hWb 0
      have m1 := cell_of_blk hWb 1
      have m2 := cell_of_blk hWb 2
      simp only [List.getElem?_cons_zero, List.getElem?_cons_succ] at m0 m1 m2
      clear hW hWb
      refine bodyPost_ret (v := .agg #[.int .i64 ((n : Nat) : Int), .int .i64 L, .int .i64 C]) (by simp [results, Tryz.results14, go_sem, m0, m1, m2]) rfl ⟨by rw [HLC.out.1, HLC.out.2]; rfl, hBW⟩

set_option maxRecDepth 100000 in
set_option maxHeartbeats 4000000 in
theorem ref_at_low (at_ : Int) (h1 : at_ < 0) (h : Txt X w sv src) (hb : src.length < 4611686018427387904) : Calls Tryz.prog 14 #[sv, .int .i64 at_] w fun e w' => e = .returned (placeV { at_ := ((0 : Nat) : Int), line := (lineOf (src.take (0))).1, column := (lineOf (src.take (0))).2 }) ∧ Below w.heap.size w w' := by
  obtain ⟨a, cap, rfl, hcap, hmax, hc⟩ := h
  have HC := Lib.hid (show ∀ i (hi : i < src.length), ∃ b off, a = some ⟨b, off, none⟩ ∧ b < w.heap.size ∧ w.cell? ⟨b, off + i, none⟩ = some (.int .u8 (src[i].toNat : Int)) from fun i hi => by
    obtain ⟨b, off, ha, _, hcell⟩ := hc (fun e => by rw [e] at hi; simp at hi)
    have h0 := hcell i hi
    refine ⟨b, off, ha, Classical.byContradiction fun hn => ?_, h0⟩
    simp [World.cell?, Array.getElem?_eq_none (show w.heap.size ≤ b by omega)] at h0)
  clear hc hmax
  obtain ⟨n, hn⟩ : ∃ n, n = src.length := ⟨_, rfl⟩
  have HN := Lib.hid hn
  rw [← hn] at hb hcap ⊢
  have h2 : ¬ (0 : Int) > ((n : Nat) : Int) := by omega
  clear hn
  go_enter Tryz.func14, Tryz.ntmps14
  go_upto_region 6 with (fail)
  obtain ⟨W2, hW2⟩ : ∃ W2, W2 = (w.alloc (Obj.cells #[.int .i64 0, .int .i64 0, .int .i64 0] 30)).alloc (Obj.cells #[.int .i64 0, .int .i64 1, .int .i64 1] 30) := ⟨_, rfl⟩
  have hk0 : W2.heap[w.heap.size]? = some (.cells [Value.int .i64 0, .int .i64 0, .int .i64 0].toArray 30 (0, 0)) := by rw [hW2, heap_alloc_old _ _ (by simp)]; exact heap_alloc_new w _
  have hk1 : W2.heap[w.heap.size + 1]? = some (.cells [Value.int .i64 0, .int .i64 1, .int .i64 1].toArray 30 (0, 0)) := by
    have := heap_alloc_new (w.alloc (Obj.cells #[.int .i64 0, .int .i64 0, .int .i64 0] 30)) (Obj.cells #[.int .i64 0, .int .i64 1, .int .i64 1] 30)
    rw [hW2]; simpa using this
  have hbel : Below w.heap.size w W2 := by rw [hW2]; exact ((Below.refl _ _).alloc (Nat.le_refl _) _).alloc (by simp) _
  have HR0 := Lib.hid (show RefAt w src (0) 0 W2 from ⟨hk0, hk1, hbel⟩)
  rw [← hW2]
  obtain ⟨B, hB⟩ : ∃ B, B = w.heap.size := ⟨_, rfl⟩
  rw [← hB]
  have HB := Lib.hid hB
  clear hW2 hk0 hk1 hbel hB
  go_wp2_with fail
  go_loopg [6] (n + 1) (fun g s6 wr => ∃ j : Nat, j ≤ 0 ∧ 0 < g + j ∧ s6 = .int .i64 (j : Int) ∧ Hid (RefAt w src (0) j wr))
  case atStart => exact ⟨0, by omega, by omega, rfl, HR0⟩
  case round =>
    obtain ⟨j, hj, hg, rfl, hR⟩ := hrel
    have k0 := hR.out.b0
    have k1 := hR.out.b1
    rw [← HB.out] at k0 k1
    obtain ⟨L, hL⟩ : ∃ L, L = (lineOf (src.take j)).1 := ⟨_, rfl⟩
    obtain ⟨C, hC⟩ : ∃ C, C = (lineOf (src.take j)).2 := ⟨_, rfl⟩
    have hbd := lineOf_bd (src.take j)
    rw [List.length_take, ← hL, ← hC, ← HN.out] at hbd
    obtain ⟨l1, l2, l3, l4⟩ := hbd
    have l2' : L ≤ 1 + n := by omega
    have l4' : C ≤ 1 + n := by omega
    rw [← hL, ← hC] at k1
    have c0 : wr.cell? ⟨B + 1, 0, none⟩ = some (.int .i64 ((0 : Nat) : Int)) := cell_of_blk k1 0
    have c1 : wr.cell? ⟨B + 1, 1, none⟩ = some (.int .i64 L) := cell_of_blk k1 1
    have c2 : wr.cell? ⟨B + 1, 2, none⟩ = some (.int .i64 C) := cell_of_blk k1 2
    have f1 := free_of_blk k1 1
    have f2 := free_of_blk k1 2
    by_cases hlt : j < 0
    · exact absurd hlt (Nat.not_lt_zero _)
    · obtain rfl : 0 = j := by omega
      have hlt2 : ¬ ((0 : Nat) : Int) < 0 := by omega
      have d0 : wr.cell? ⟨B, 0, none⟩ = some (.int .i64 0) := cell_of_blk k0 0
      have d1 : wr.cell? ⟨B, 1, none⟩ = some (.int .i64 0) := cell_of_blk k0 1
      have d2 : wr.cell? ⟨B, 2, none⟩ = some (.int .i64 0) := cell_of_blk k0 2
      have q0 := free_of_blk k0 0
      have q1 := free_of_blk k0 1
      have q2 := free_of_blk k0 2
      have HBE := Lib.hid hR.out.below
      have HK0 := Lib.hid k0
      have HLC := Lib.hid (And.intro hL hC)
      clear hR hL hC k0 k1
      go_wp2_with fail
      obtain ⟨W, hW⟩ : ∃ W, W = ((wr.setCell ⟨B, 0, none⟩ (.int .i64 0)).setCell ⟨B, 1, none⟩ (.int .i64 L)).setCell ⟨B, 2, none⟩ (.int .i64 C) := ⟨_, rfl⟩
      have hWb : W.heap[B]? = some (.cells [Value.int .i64 0, .int .i64 L, .int .i64 C].toArray 30 (0, 0)) := by rw [hW]; exact blk_set (blk_set (blk_set HK0.out 0 _) 1 _) 2 _
      have hBW : Below w.heap.size w W := by
        have := HB.out
        rw [hW]; exact ((HBE.out.setCell (by show w.heap.size ≤ B; omega) _).setCell (by show w.heap.size ≤ B; omega) _).setCell (by show w.heap.size ≤ B; omega) _
      rw [← hW]
      have m0 := cell_of_blk hWb 0
      have m1 := cell_of_blk hWb 1
      have m2 := cell_of_blk hWb 2
      simp only [List.getElem?_cons_zero, List.getElem?_cons_succ] at m0 m1 m2
      clear hW hWb
      refine bodyPost_ret (v := .agg #[.int .i64 0, .int .i64 L, .int .i64 C]) (by simp [results, Tryz.results14, go_sem, m0, m1, m2]) rfl ⟨by rw [HLC.out.1, HLC.out.2]; rfl, hBW⟩

theorem ref_at_c (at_ : Int) (h : Txt X w sv src) (hb : src.length < 4611686018427387904) : Calls Tryz.prog 14 #[sv, .int .i64 at_] w fun e w' => e = .returned (placeV (place src at_)) ∧ Below w.heap.size w w' := by
  by_cases h1 : at_ < 0
  · rw [place_of (k := 0) (by omega)]; exact ref_at_low at_ h1 h hb
  · by_cases h2 : at_ > (src.length : Int)
    · rw [place_of (k := src.length) (by omega)]; exact ref_at_high at_ h2 h hb
    · obtain ⟨k, rfl⟩ : ∃ k : Nat, at_ = k := ⟨at_.toNat, by omega⟩
      rw [place_of (k := k) (by omega)]; exact ref_at_mid k (by omega) h hb
end
end Go.Proofs.YtkaeceedofmhbaaGreatDoor
namespace Go.Proofs.YtkaeceedofmhbaaGreatDoor
open Go.RowKit Bk
attribute [local go_sem ↓] Go.wp_at_zero Go.wp_at_succ

def text4 : Bytes := [97, 10, 10, 98, 99]
theorem place_text4 : place text4 4 = { at_ := 4, line := 3, column := 2 } := by decide +kernel

set_option maxRecDepth 100000 in
set_option maxHeartbeats 4000000 in
theorem places_c {w : World} {sv : Value} {src : Bytes} (at_ : Int) (hg : Glob w) (hl : low ≤ w.heap.size) (ht : Txt (fun k => k < w.heap.size) w sv src) (hn : NilOK sv) (hb : src.length < 4611686018427387904) :
    Calls Tryz.prog 4 #[sv, .int .i64 at_] w fun e w' => e = .returned (.bool true) ∧ Below w.heap.size w w' := by
  have HG := Lib.hid hg
  have HL := Lib.hid hl
  have HT := Lib.hid ht
  have hcv := convert_bytes
  obtain ⟨P, hP⟩ : ∃ P, P = place src at_ := ⟨_, rfl⟩
  have HP := Lib.hid hP
  have HA := Lib.hid (at_c at_ ht hn hb)
  rw [← hP] at HA
  clear hg hl ht hP
  go_enter Tryz.func4, Tryz.ntmps4
  go_wp2_with fail
  refine HA.out.mono ?_
  rintro e w1 ⟨he, hB1⟩
  obtain rfl : e = .returned (.agg #[.int .i64 P.at_, .int .i64 P.line, .int .i64 P.column]) := he
  clear HA
  go_wp2_with fail
  obtain ⟨W2, hW2⟩ : ∃ W2, W2 = w1.alloc (Obj.cells #[.int .i64 P.at_, .int .i64 P.line, .int .i64 P.column] 30) := ⟨_, rfl⟩
  obtain ⟨W3, hW3⟩ : ∃ W3, W3 = W2.alloc (Obj.cells #[.int .u8 97, .int .u8 10, .int .u8 10, .int .u8 98, .int .u8 99] 5 (5, 6)) := ⟨_, rfl⟩
  have hZ2 : W2.heap.size = w1.heap.size + 1 := by rw [hW2]; simp
  have hB2 : Below w.heap.size w W2 := by rw [hW2]; exact hB1.alloc hB1.size _
  have hB3 : Below w.heap.size w W3 := by rw [hW3]; exact hB2.alloc hB2.size _
  have hZ3 : W3.heap.size = w1.heap.size + 2 := by rw [hW3]; simp [hZ2]
  have k3 : W3.heap[w1.heap.size]? = some (.cells #[.int .i64 P.at_, .int .i64 P.line, .int .i64 P.column] 30) := by rw [hW3, heap_alloc_old _ _ (by omega), hW2]; exact heap_alloc_new w1 _
  have hT3 : Txt (fun k => k < W3.heap.size) W3 (.slice (some ⟨w1.heap.size + 1, 0, none⟩) 5 5) text4 := txt_of_blk (s := text4) (by rw [hW3, show w1.heap.size + 1 = W2.heap.size by omega]; exact heap_alloc_new W2 _) rfl (by decide)
  have HA3 := Lib.hid (at_c 4 hT3 (nilOK_some _ _ _) (by decide))
  rw [place_text4] at HA3
  rw [← hW2, ← hW3]
  refine HA3.out.mono ?_
  rintro e w4 ⟨he, hB4⟩
  obtain rfl : e = .returned (.agg #[.int .i64 4, .int .i64 3, .int .i64 2]) := he
  have hB4' := hB3.trans (hB4.mono hB3.size)
  have k4 := (hB4.block _ (by omega)).trans k3
  have hz4 : w1.heap.size + 2 ≤ w4.heap.size := by have := hB4.size; omega
  clear HA3 hT3 hW2 hW3 hZ2 hB2 hB3 hZ3 k3 hB4
  go_upto_region 3 with (fail)
  obtain ⟨W5, hW5⟩ : ∃ W5, W5 = w4.alloc (Obj.cells #[.int .i64 4, .int .i64 3, .int .i64 2] 30) := ⟨_, rfl⟩
  have hB5 : Below w.heap.size w W5 := by rw [hW5]; exact hB4'.alloc hB4'.size _
  have hZ5 : W5.heap.size = w4.heap.size + 1 := by rw [hW5]; simp
  have k5 : W5.heap[w1.heap.size]? = some (.cells #[.int .i64 P.at_, .int .i64 P.line, .int .i64 P.column] 30) := by rw [hW5, heap_alloc_old _ _ (by omega)]; exact k4
  have k6 : W5.heap[w4.heap.size]? = some (.cells #[.int .i64 4, .int .i64 3, .int .i64 2] 30) := by rw [hW5]; exact heap_alloc_new w4 _
  have HRA := Lib.hid (show Calls Tryz.prog 14 #[sv, .int .i64 at_] W5.drew fun e w' => e = .returned (.agg #[.int .i64 P.at_, .int .i64 P.line, .int .i64 P.column]) ∧ Below W5.heap.size W5.drew w' from by
    rw [HP.out]; exact ref_at_c (w := W5.drew) at_ (HT.out.keep fun k hk => hB5.block k hk) hb)
  rw [← hW5]
  obtain ⟨B1, hB1'⟩ : ∃ B1, B1 = w1.heap.size := ⟨_, rfl⟩
  obtain ⟨B4, hB4''⟩ : ∃ B4, B4 = w4.heap.size := ⟨_, rfl⟩
  rw [← hB1'] at k5 hz4 ⊢
  rw [← hB4''] at k6 hz4 hZ5 ⊢
  have b0 := cell_of_any k5 0
  have b1 := cell_of_any k5 1
  have b2 := cell_of_any k5 2
  have d0 := cell_of_any k6 0
  have d1 := cell_of_any k6 1
  have d2 := cell_of_any k6 2
  simp only [List.getElem?_toArray, List.getElem?_cons_succ, List.getElem?_cons_zero] at b0 b1 b2 d0 d1 d2
  have HB5 := Lib.hid hB5
  have HKN := Lib.hid (show ∀ w', Below W5.heap.size W5.drew w' → Calls Tryz.prog 12 #[] w' fun e w'' => e = .returned (.bool true) ∧ Below w.heap.size w w'' ∧ Below W5.heap.size W5.drew w'' from fun w' hw => by
    have hx : Below w.heap.size w w' := hB5.trans (Below.trans (b := W5.drew) ⟨rfl, rfl, rfl, Nat.le_refl _, fun _ _ => rfl⟩ (hw.mono hB5.size))
    exact (known_c (HG.out.below2 hx HL.out) (Nat.le_trans HL.out hx.size)).mono fun e w'' h => ⟨h.1, hx.trans (h.2.mono hx.size), hw.trans (h.2.mono hw.size)⟩)
  clear hB1 hB4' k4 hW5 k5 k6 hB1' hB4'' HT hn hB5
  go_region_held3 (fun w' => w'.cell? ⟨B1, 0, none⟩ = some (.int .i64 P.at_) ∧ w'.cell? ⟨B1, 1, none⟩ = some (.int .i64 P.line) ∧ w'.cell? ⟨B1, 2, none⟩ = some (.int .i64 P.column) ∧ w'.cell? ⟨B4, 0, none⟩ = some (.int .i64 4) ∧ w'.cell? ⟨B4, 1, none⟩ = some (.int .i64 3) ∧ w'.cell? ⟨B4, 2, none⟩ = some (.int .i64 2))
    (first
      | go_keep
      | (go_split_ands
         refine ⟨?_, ?_, ?_, ?_, ?_, ?_⟩
         · ((rw [World.cell?_of_block (w := W5) (hb3.block B1 (by show B1 < W5.heap.size; omega))]); assumption)
         · ((rw [World.cell?_of_block (w := W5) (hb3.block B1 (by show B1 < W5.heap.size; omega))]); assumption)
         · ((rw [World.cell?_of_block (w := W5) (hb3.block B1 (by show B1 < W5.heap.size; omega))]); assumption)
         · ((rw [World.cell?_of_block (w := W5) (hb3.block B4 (by show B4 < W5.heap.size; omega))]); assumption)
         · ((rw [World.cell?_of_block (w := W5) (hb3.block B4 (by show B4 < W5.heap.size; omega))]); assumption)
         · ((rw [World.cell?_of_block (w := W5) (hb3.block B4 (by show B4 < W5.heap.size; omega))]); assumption)))
    (first
      | (go_at_call 14; refine HRA.out.mono ?_; rintro e w6 ⟨rfl, hb3⟩)
      | (go_at_call 12; refine (HKN.out _ hb3).mono ?_; clear hb3; rintro e w7 ⟨rfl, hb4, hb3⟩))
  rename_i hkeep
  have HB7 := Lib.hid hb4
  clear hkeep hb3 hb4
  go_wp2_with fail
  go_ret
  exact ⟨rfl, HB7.out⟩
end Go.Proofs.YtkaeceedofmhbaaGreatDoor
