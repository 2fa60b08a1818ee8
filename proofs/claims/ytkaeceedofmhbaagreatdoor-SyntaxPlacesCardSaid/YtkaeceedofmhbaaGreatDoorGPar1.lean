/-
  syntax: At: the place of a byte.
  A tree in memory; a reader at its start; what Parse hands back.
  syntax: the closure that Parse defers.
-/
import Derived.Test.YtkaeceedofmhbaaGreatDoorGSy14
import Derived.Deep.LoopGhost
import Derived.Deep.DeepCutAuto
import Derived.IntWalk
import Derived.Deep.RegionHeld3
import Derived.Defers
import Derived.Recover
namespace Go.Proofs.YtkaeceedofmhbaaGreatDoor
open Go.RowKit Bk
attribute [local go_sem ↓] Go.wp_at_zero Go.wp_at_succ

def NoNl (s : Bytes) (m : Nat) : Prop := ∀ j : Nat, m ≤ j → s[j]? ≠ some 10
/-- Where the last line's end stands; -1: there is none. -/
def IsLast (s : Bytes) (r : Int) : Prop := -1 ≤ r ∧ r < s.length ∧ (0 ≤ r → s[r.toNat]? = some 10) ∧ NoNl s (r + 1).toNat

theorem lineFold (s : Bytes) : ∀ (a b r : Int), IsLast s r → s.foldl (fun (p : Int × Int) c => if c = 10 then (p.1 + 1, 1) else (p.1, p.2 + 1)) (a, b) = (a + (s.count 10 : Nat), if r = -1 then b + s.length else s.length - r) := by
  induction s with
  | nil =>
    intro a b r ⟨h1, h2, _⟩
    have e : r = -1 := by simp at h2; omega
    subst e; simp
  | cons c t ih =>
    intro a b r ⟨h1, h2, h3, h4⟩
    simp only [List.length_cons] at h2
    rw [List.foldl_cons]
    by_cases hc : c = 10
    · rw [if_pos hc]
      have hr : 0 ≤ r := Classical.byContradiction fun hn => h4 0 (by omega) (by simp [hc])
      have hl : IsLast t (r - 1) := ⟨by omega, by omega, fun h0 => by
        have := h3 hr
        rw [show r.toNat = (r - 1).toNat + 1 by omega] at this
        simpa using this, fun j hj => by
        have := h4 (j + 1) (by omega)
        simpa using this⟩
      rw [ih _ _ _ hl, hc, List.count_cons_self, List.length_cons]
      refine Prod.ext (by show a + 1 + _ = a + ((List.count 10 t + 1 : Nat) : Int); omega) ?_
      show (if r - 1 = -1 then (1 : Int) + t.length else t.length - (r - 1)) = if r = -1 then b + ((t.length + 1 : Nat) : Int) else ((t.length + 1 : Nat) : Int) - r
      rw [if_neg (show ¬ r = -1 by omega)]
      split <;> omega
    · rw [if_neg hc]
      by_cases hr : r = -1
      · subst hr
        have hl : IsLast t (-1) := ⟨by omega, by omega, fun h0 => absurd h0 (by omega), fun j hj => by
          have := h4 (j + 1) (by omega)
          simpa using this⟩
        rw [ih _ _ _ hl, List.count_cons_of_ne hc, List.length_cons]
        refine Prod.ext rfl ?_
        show (if (-1 : Int) = -1 then b + 1 + (t.length : Int) else (t.length : Int) - (-1)) = (if (-1 : Int) = -1 then b + ((t.length + 1 : Nat) : Int) else ((t.length + 1 : Nat) : Int) - (-1))
        rw [if_pos rfl, if_pos rfl]; omega
      · have h0 : r ≠ 0 := fun e => by
          have := h3 (by omega)
          rw [e] at this
          exact hc (by simpa using this)
        have hl : IsLast t (r - 1) := ⟨by omega, by omega, fun _ => by
          have := h3 (by omega)
          rw [show r.toNat = (r - 1).toNat + 1 by omega] at this
          simpa using this, fun j hj => by
          have := h4 (j + 1) (by omega)
          simpa using this⟩
        rw [ih _ _ _ hl, List.count_cons_of_ne hc, List.length_cons]
        refine Prod.ext rfl ?_
        show (if r - 1 = -1 then b + 1 + t.length else t.length - (r - 1)) = if r = -1 then b + ((t.length + 1 : Nat) : Int) else ((t.length + 1 : Nat) : Int) - r
        rw [if_neg hr, if_neg (by omega)]; omega
theorem lineOf_eq {s : Bytes} {r : Int} (h : IsLast s r) : lineOf s = (1 + ((s.count 10 : Nat) : Int), (s.length : Int) - r) := by
  unfold lineOf
  rw [lineFold s 1 1 r h]
  refine Prod.ext rfl ?_
  show (if r = -1 then (1 : Int) + s.length else s.length - r) = _
  split <;> omega

section
variable {X : Nat → Prop} {w : World} {sv : Value} {src : Bytes}

set_option maxHeartbeats 1000000 in
theorem last_c (a : Option Addr) (cap : Nat) (s : Bytes) (w : World) (hl : s.length ≤ maxLen) (hs : s ≠ [] → ∃ b off, a = some ⟨b, off, none⟩ ∧ ∀ i (h : i < s.length), w.cell? ⟨b, off + i, none⟩ = some (.int .u8 (s[i].toNat : Int))) :
    Calls Tryz.prog 56 #[.slice a s.length cap, .int .u8 10] w fun e w' => (∃ r, IsLast s r ∧ e = .returned (.int .i64 r)) ∧ w' = w := by
  unfold maxLen at hl
  by_cases he : s = []
  · subst he
    clear hs
    have H0 := Lib.hid (show IsLast ([] : Bytes) (-1) from ⟨by omega, by simp, fun h => absurd h (by omega), fun j _ => by simp⟩)
    go_enter Tryz.func56, Tryz.ntmps56
    go_wp2
    go_loop [5] (fun i => i = .int .i64 (-1)) (fun i => 0)
    case atStart => rfl
    case round =>
      subst hrel
      go_wp2
      go_ret
      exact ⟨⟨_, H0.out, rfl⟩, rfl⟩
  · obtain ⟨b, off, rfl, hc⟩ := hs he
    have HC := Lib.hid hc
    clear hc hs he
    obtain ⟨n, hn⟩ : ∃ n, n = s.length := ⟨_, rfl⟩
    rw [← hn] at hl ⊢
    have HN := Lib.hid hn
    clear hn
    go_enter Tryz.func56, Tryz.ntmps56
    go_wp2
    go_loop [5] (fun i => ∃ m : Nat, m ≤ n ∧ i = .int .i64 ((m : Int) - 1) ∧ Hid (NoNl s m)) (fun i => (intOf i + 1).toNat)
    case atStart => exact ⟨n, Nat.le_refl _, rfl, Lib.hid fun j hj => by rw [List.getElem?_eq_none (by have := HN.out; omega)]; simp⟩
    case round =>
      obtain ⟨m, hm, rfl, hno⟩ := hrel
      by_cases h0 : m = 0
      · subst h0
        have H0 := Lib.hid (show IsLast s (-1) from ⟨by omega, by omega, fun h => absurd h (by omega), hno.out⟩)
        rw [show ((0 : Nat) : Int) - 1 = -1 by rfl]
        go_wp2
        go_ret
        exact ⟨⟨_, H0.out, rfl⟩, rfl⟩
      · obtain ⟨q, hq⟩ : ∃ q, m = q + 1 := ⟨m - 1, by omega⟩
        subst hq
        rw [show ((q + 1 : Nat) : Int) - 1 = (q : Int) by omega]
        have hql : q < s.length := by have := HN.out; omega
        obtain ⟨y, hy⟩ : ∃ y : Int, y = (s[q].toNat : Int) := ⟨_, rfl⟩
        have c1 : w.cell? ⟨b, off + q, none⟩ = some (.int .u8 y) := by rw [hy]; exact HC.out q hql
        by_cases hy10 : s[q] = 10
        · have hb : (y == 10) = true := by rw [hy, hy10]; rfl
          have H0 := Lib.hid (show IsLast s (q : Int) from ⟨by omega, by omega, fun _ => by rw [Int.toNat_natCast, List.getElem?_eq_getElem hql, hy10], hno.out⟩)
          clear hy hno hy10 h0
          go_wp2
          go_ret
          exact ⟨⟨_, H0.out, rfl⟩, rfl⟩
        · have hb : (y == 10) = false := by
            rw [beq_eq_false_iff_ne, hy]
            exact fun e => hy10 (UInt8.toNat_inj.1 (by simpa using Int.ofNat_inj.1 e))
          have H0 := Lib.hid (show NoNl s q from fun j hj => by
            by_cases e : j = q
            · subst e; rw [List.getElem?_eq_getElem hql]; simpa using hy10
            · exact hno.out j (by omega))
          clear hy hno hy10 h0
          go_wp2
          go_round
          case rel => exact ⟨q, by omega, rfl, H0⟩
          case measure => simp [intOf]

theorem slice_nil0 : ∀ V, (Instr.slice 34 (.slice none 0 0) none (some (.int .i64 ((0 : Nat) : Int))) none).run Tryz.prog V = .ok (.slice none 0 0) V := fun V => by kernel_rfl
theorem lastb_c (a : Option Addr) (cap : Nat) (s : Bytes) (w : World) (hl : s.length ≤ maxLen) (hs : s ≠ [] → ∃ b off, a = some ⟨b, off, none⟩ ∧ ∀ i (h : i < s.length), w.cell? ⟨b, off + i, none⟩ = some (.int .u8 (s[i].toNat : Int))) :
    Calls Tryz.prog 31 #[.slice a s.length cap, .int .u8 10] w fun e w' => (∃ r, IsLast s r ∧ e = .returned (.int .i64 r)) ∧ w' = w := by
  have HC := Lib.hid (last_c a cap s w hl hs)
  clear hl hs
  go_enter Tryz.func31, Tryz.ntmps31
  go_wp2_with fail
  refine HC.out.mono ?_
  rintro e w4 ⟨⟨r, hr, rfl⟩, rfl⟩
  have HR := Lib.hid hr
  clear hr
  go_wp2_with fail
  go_ret
  exact ⟨⟨_, HR.out, rfl⟩, rfl⟩
/-- A nil slice has no room. -/
def NilOK (sv : Value) : Prop := ∀ n c, sv = .slice none n c → n = 0 ∧ c = 0
def placeV (p : PlaceV) : Value := .agg #[.int .i64 p.at_, .int .i64 p.line, .int .i64 p.column]

theorem place_eq {k : Nat} {at_ r : Int} (hk : min (max at_ 0) (src.length : Int) = k) (h : IsLast (src.take k) r) : place src at_ = { at_ := k, line := 1 + ((src.take k).count 10 : Nat), column := (k : Int) - r } := by
  have hl : (src.take k).length = k := by rw [List.length_take]; omega
  unfold place
  simp only []
  rw [hk, show ((k : Int)).toNat = k by omega, lineOf_eq h, hl]

set_option maxRecDepth 100000 in
set_option maxHeartbeats 4000000 in
theorem at_c (at_ : Int) (h : Txt X w sv src) (hn : NilOK sv) (hb : src.length < 4611686018427387904) : Calls Tryz.prog 13 #[sv, .int .i64 at_] w fun e w' => e = .returned (placeV (place src at_)) ∧ Below w.heap.size w w' := by
  obtain ⟨a, cap, rfl, hcap, hmax, hc⟩ := h
  obtain ⟨k, hk⟩ : ∃ k : Nat, min (max at_ 0) (src.length : Int) = k := ⟨(min (max at_ 0) (src.length : Int)).toNat, by omega⟩
  have hkl : k ≤ src.length := by omega
  have HK := Lib.hid hk
  have hm := hmax
  unfold maxLen at hm
  have hlk : (src.take k).length = k := by rw [List.length_take]; omega
  have HLAST := Lib.hid (fun w' (hw : ∀ i b off, i < k → a = some ⟨b, off, none⟩ → w'.cell? ⟨b, off + i, none⟩ = w.cell? ⟨b, off + i, none⟩) => lastb_c a cap (src.take k) w' (by rw [hlk]; unfold maxLen; omega) (fun hne => by
    obtain ⟨b, off, ha, _, hcell⟩ := hc (fun e => hne (by rw [e]; simp))
    refine ⟨b, off, ha, fun i hi => ?_⟩
    rw [hlk] at hi; rw [hw i b off hi ha, hcell i (by omega), List.getElem_take]))
  have HSL : ∀ V, (Instr.slice 34 (.slice a src.length cap) none (some (.int .i64 (k : Int))) none).run Tryz.prog V = .ok (.slice a k cap) V := fun V => by
    have he : Tryz.prog.elem 34 = 5 := by kernel_rfl
    cases a with
    | none =>
      obtain ⟨h1, h2⟩ := hn _ _ rfl
      obtain rfl : k = 0 := by omega
      rw [h1, h2]
      exact slice_nil0 V
    | some a =>
      rw [run_slice_h V 34 (some a) src.length cap (by rw [he]; exact Tryz.underlying34) .i64 k (by omega) (by omega)]
      obtain ⟨i0, hi, hz0, hz1, hz2⟩ := info_parts info5
      simp [he, sizeOf, typeInfo, hi, hz1, Result.andThen, sliced, Addr.add]
  clear hk
  go_enter Tryz.func13, Tryz.ntmps13
  go_wp2_with fail
  rw [HK.out, Int.toNat_natCast]
  obtain ⟨w1, hw1⟩ : ∃ w1, w1 = w.alloc (Obj.cells #[.int .i64 0, .int .i64 0, .int .i64 0] 30) := ⟨_, rfl⟩
  obtain ⟨w2, hw2⟩ : ∃ w2, w2 = w1.alloc (Obj.cells #[.int .u8 10] 5) := ⟨_, rfl⟩
  have hb1 : Below w.heap.size w w1 := by rw [hw1]; exact (Below.refl _ _).alloc (Nat.le_refl _) _
  have hz1 : w1.heap.size = w.heap.size + 1 := by rw [hw1]; simp
  have hb2 : Below w.heap.size w w2 := by rw [hw2]; exact hb1.alloc (by omega) _
  have hz2 : w2.heap.size = w.heap.size + 2 := by rw [hw2]; simp [hz1]
  have c2 : w2.cell? ⟨w.heap.size + 1, 0, none⟩ = some (.int .u8 10) := by rw [hw2, ← hz1]; exact cell_of_blk (cs := [.int .u8 10]) (heap_alloc_new w1 _) 0
  have keep : ∀ i b off, i < k → a = some ⟨b, off, none⟩ → w2.cell? ⟨b, off + i, none⟩ = w.cell? ⟨b, off + i, none⟩ := by
    intro i b off hi ha
    obtain ⟨b', off', ha', _, hcell⟩ := hc (fun e => by rw [e] at hkl; simp at hkl; omega)
    rw [ha] at ha'
    injection ha' with e
    injection e with e1 e2
    subst e1 e2
    have hlt : b < w.heap.size := Classical.byContradiction fun hn => by
      have h0 := hcell i (by omega)
      simp [World.cell?, Array.getElem?_eq_none (show w.heap.size ≤ b by omega)] at h0
    exact World.cell?_of_block (w := w) (a := ⟨b, off + i, none⟩) (hb2.block b hlt)
  rw [← hw1, ← hw2]
  have d : ∀ i v, [Value.int .i64 0, .int .i64 0, .int .i64 0][i]? = some v → w2.cell? ⟨w.heap.size, i, none⟩ = some v := fun i v hv => by
    rw [hw2, World.cell?_of_block (w := w1) (a := ⟨w.heap.size, i, none⟩) (heap_alloc_old w1 _ (by show w.heap.size < _; omega)), hw1, cell_of_blk (cs := [Value.int .i64 0, .int .i64 0, .int .i64 0]) (heap_alloc_new w _) i]; exact hv
  have f : ∀ i, w2.frozen? ⟨w.heap.size, i, none⟩ = false := fun i => by
    rw [hw2, World.frozen?_of_block (w := w1) (a := ⟨w.heap.size, i, none⟩) (heap_alloc_old w1 _ (by show w.heap.size < _; omega)), hw1]; exact free_of_blk (heap_alloc_new w _) i
  have HBL := Lib.hid (show w2.heap[w.heap.size]? = some (.cells [Value.int .i64 0, .int .i64 0, .int .i64 0].toArray 30 (0, 0)) by rw [hw2, heap_alloc_old w1 _ (by omega), hw1]; exact heap_alloc_new w _)
  have d0 := d 0 _ rfl
  have d1 := d 1 _ rfl
  have d2 := d 2 _ rfl
  have f0 := f 0
  have f1 := f 1
  have f2 := f 2
  have HB2 := Lib.hid hb2
  have HZ2 := Lib.hid hz2
  have HC2 := Lib.hid c2
  obtain ⟨cn, hcn⟩ : ∃ cn : Nat, cn = (src.take k).count 10 := ⟨_, rfl⟩
  have hcn2 : cn ≤ k := by have := List.count_le_length (a := (10 : UInt8)) (l := src.take k); omega
  have HCN := Lib.hid hcn
  have HCOUNT := Lib.hid (show Calls Tryz.prog 30 #[.slice a k cap, .slice (some ⟨w.heap.size + 1, 0, none⟩) 1 1] w2 fun e w' => e = .returned (.int .i64 (cn : Int)) ∧ w' = w2 from by
    have hbo : Lib.bytesOf ((src.take k).map fun c => (c.toNat : Int)) = src.take k := by
      unfold Lib.bytesOf
      rw [List.map_map]
      conv => rhs; rw [← List.map_id (src.take k)]
      exact List.map_congr_left fun c _ => by simp
    cases a with
    | none =>
      obtain ⟨h1, h2⟩ := hn _ _ rfl
      obtain rfl : k = 0 := by omega
      obtain rfl : cn = 0 := by omega
      rw [h2]
      exact Tryz.bytes_Count_one_nil _ 0 1 10 w2 c2
    | some a =>
      refine (Tryz.bytes_Count_one_at a k cap _ 0 1 ((src.take k).map fun c => (c.toNat : Int)) 10 w2 (by rw [List.length_map, hlk]) (fun i hi => ?_) c2).mono ?_
      · obtain ⟨b, off, ha, _, hcell⟩ := hc (fun e => by rw [e] at hkl; simp at hkl; omega)
        obtain rfl : a = ⟨b, off, none⟩ := by simpa using ha
        have hadd : (⟨b, off, none⟩ : Addr).add i = ⟨b, off + i, none⟩ := by unfold Addr.add; split <;> simp_all
        rw [hadd, keep i b off hi rfl, hcell i (by omega), List.getD_eq_getElem?_getD, List.getElem?_map, List.getElem?_eq_getElem (by omega), List.getElem_take]; rfl
      · rintro e w' ⟨rfl, rfl⟩
        rw [hbo, hcn]; exact ⟨rfl, rfl⟩)
  have HL := Lib.hid (HLAST.out w2 keep)
  rw [hlk] at HL
  have HLK := Lib.hid hlk
  clear HLAST HSL keep hc hn hw1 hw2 hb1 hb2 hz1 hz2 c2 d f hcn hlk
  refine HCOUNT.out.mono ?_
  rintro e w3 ⟨rfl, rfl⟩
  go_wp2_with fail
  refine HL.out.mono ?_
  rintro e w4 ⟨⟨r, hr, rfl⟩, rfl⟩
  have HP := Lib.hid (place_eq HK.out hr)
  have r1 := hr.1
  have r2 := hr.2.1
  rw [HLK.out] at r2
  clear hr
  have e1 : wrap64 (1 + (cn : Int)) = 1 + (cn : Int) := by unfold wrap64; omega
  have e2 : wrap64 ((k : Int) - r) = (k : Int) - r := by unfold wrap64; omega
  go_wp2_with fail
  obtain ⟨W, hW⟩ : ∃ W, W = ((w4.setCell ⟨w.heap.size, 0, none⟩ (.int .i64 (k : Int))).setCell ⟨w.heap.size, 1, none⟩ (.int .i64 (1 + (cn : Int)))).setCell ⟨w.heap.size, 2, none⟩ (.int .i64 ((k : Int) - r)) := ⟨_, rfl⟩
  have hWb : W.heap[w.heap.size]? = some (.cells [Value.int .i64 (k : Int), .int .i64 (1 + (cn : Int)), .int .i64 ((k : Int) - r)].toArray 30 (0, 0)) := by
    rw [hW]
    exact blk_set (blk_set (blk_set HBL.out 0 _) 1 _) 2 _
  have HBW : Below w.heap.size w W := by rw [hW]; exact ((HB2.out.setCell (Nat.le_refl _) _).setCell (Nat.le_refl _) _).setCell (Nat.le_refl _) _
  rw [← hW]
  have k0 := cell_of_blk hWb 0
  have k1 := cell_of_blk hWb 1
  have k2 := cell_of_blk hWb 2
  simp only [List.getElem?_cons_zero, List.getElem?_cons_succ] at k0 k1 k2
  clear hW hWb d0 d1 d2
  refine bodyPost_ret (v := .agg #[.int .i64 (k : Int), .int .i64 (1 + (cn : Int)), .int .i64 ((k : Int) - r)]) (by simp [results, Tryz.results13, go_sem, k0, k1, k2]) rfl ⟨by rw [HP.out, HCN.out]; rfl, HBW⟩
end
end Go.Proofs.YtkaeceedofmhbaaGreatDoor
namespace Go.Proofs.YtkaeceedofmhbaaGreatDoor
open Go.RowKit Bk

/-- A row of structs that is never written again; empty, it may lie anywhere. -/
def FRow (H : Frozen) (t : TypeId) (v : Value) (n : Nat) (cs : List Value) : Prop :=
  (∃ a cap, v = .slice a 0 cap ∧ n = 0 ∧ cs = []) ∨ ∃ g cap, v = .slice (some ⟨g, 0, none⟩) n cap ∧ 0 < n ∧ n ≤ cap ∧ cap ≤ maxLen ∧ H g = some (t, cs)
theorem FRow.mono {H H' : Frozen} {t : TypeId} {v : Value} {n : Nat} {cs : List Value} (h : FRow H t v n cs) (le : Le H H') : FRow H' t v n cs := by
  rcases h with h | ⟨g, cap, h1, h2, h3, h4, h5⟩
  · exact .inl h
  · exact .inr ⟨g, cap, h1, h2, h3, h4, le _ _ h5⟩

structure TreeS where
  nv : Value
  iv : Value
  xv : Value
  kv : Value
def treeCells (t : TreeV) (s : TreeS) : List Value := [.int .i64 t.pos, str t.name.word, .int .i64 t.name.at_, s.nv, s.iv, s.xv, s.kv]
structure TreeP (H : Frozen) (t : TreeV) (s : TreeS) (ic nc : List Value) : Prop where
  nv : FInts H s.nv t.name.index
  irel : RowsR (ItemR H) t.items ic
  iv : FRow H 40 s.iv t.items.length ic
  nrel : RowsR (NodeR H) t.nodes nc
  xv : FRow H 37 s.xv t.nodes.length nc
  kv : FInts H s.kv t.top
def TreeR (H : Frozen) (t : TreeV) (v : Value) : Prop := ∃ s ic nc, v = .agg (treeCells t s).toArray ∧ TreeP H t s ic nc
theorem TreeP.mono {H H' : Frozen} (le : Le H H') {t : TreeV} {s : TreeS} {ic nc : List Value} (h : TreeP H t s ic nc) : TreeP H' t s ic nc :=
  ⟨h.nv.mono le, h.irel.imp fun _ _ => ItemR.mono le, h.iv.mono le, h.nrel.imp fun _ _ => NodeR.mono le, h.xv.mono le, h.kv.mono le⟩
theorem TreeR.mono {H H' : Frozen} (le : Le H H') {t : TreeV} {v : Value} (h : TreeR H t v) : TreeR H' t v := by
  obtain ⟨s, ic, nc, e, h⟩ := h; exact ⟨s, ic, nc, e, h.mono le⟩
/-- The empty tree. -/
def noTree : Value := .agg #[.int .i64 0, .string ⟨#[]⟩, .int .i64 0, .slice none 0 0, .slice none 0 0, .slice none 0 0, .slice none 0 0]
theorem noTreeR (H : Frozen) : TreeR H {} noTree :=
  ⟨⟨.slice none 0 0, .slice none 0 0, .slice none 0 0, .slice none 0 0⟩, [], [], rfl, ⟨.inl ⟨rfl, rfl, rfl⟩, rfl, .inl ⟨none, 0, rfl, rfl, rfl⟩, rfl, .inl ⟨none, 0, rfl, rfl, rfl⟩, .inl ⟨rfl, rfl, rfl⟩⟩⟩

theorem freeze_row {H : Frozen} {w : World} {t : TypeId} {size n : Nat} {v : Value} {cs : List Value} (h : w.ownsRow 0 t size v n cs) (hH : HeapOK H w) (hn : ∀ k, v.ownBlock = some k → H k = none) :
    ∃ H2, Le H H2 ∧ HeapOK H2 w ∧ FRow H2 t v n cs ∧ ∀ g c, H2 g = some c → H g = some c ∨ v.ownBlock = some g := by
  obtain ⟨hlen, h2⟩ := h
  rcases h2 with ⟨e, h0⟩ | ⟨g, cap, cur, e, _, hg, h1, h2, h3, h4⟩
  · subst h0; exact ⟨H, Le.refl H, hH, .inl ⟨none, 0, e, rfl, by simpa using hlen⟩, fun _ _ h => .inl h⟩
  · by_cases h0 : n = 0
    · subst h0; exact ⟨H, Le.refl H, hH, .inl ⟨_, _, e, rfl, by simpa using hlen⟩, fun _ _ h => .inl h⟩
    · have hn' := hn g (by rw [e]; rfl)
      refine ⟨H.put g t cs, Frozen.le_put t cs hn', ?_, .inr ⟨g, cap, e, by omega, h1, h2, Frozen.put_self _ _ _ _⟩, ?_⟩
      · intro k t' cs' hk
        by_cases ek : k = g
        · subst ek; rw [Frozen.put_self] at hk; cases hk; exact ⟨cur, hg, by rw [hlen]; exact h4⟩
        · rw [Frozen.put_other _ _ _ ek] at hk; exact hH k t' cs' hk
      · intro k c hk
        by_cases ek : k = g
        · exact .inr (by rw [e, ek]; rfl)
        · rw [Frozen.put_other _ _ _ ek] at hk; exact .inl hk

section
variable {X : Nat → Prop} {H : Frozen} {w : World} {r : Nat} {sv : Value} {src : Bytes} {st : St} {v : RdS} {ic nc : List Value}

/-- What a reader holds, once nothing is written any more. -/
theorem RdP.tree (h : RdP X H w r sv src st v ic nc) {kv : Value} {top : List Int} (hk : FInts H kv top) :
    ∃ H2, Le H H2 ∧ HeapOK H2 w ∧ (∀ g c, H2 g = some c → ¬ X g) ∧ TreeR H2 { pos := st.pos, name := st.tname, items := st.items, nodes := st.nodes, top := top } (.agg #[.int .i64 st.pos, str st.tname.word, .int .i64 st.tname.at_, v.tv, v.iv, v.nv, kv]) := by
  obtain ⟨H1, l1, o1, f1, g1⟩ := freeze_row h.items h.heap h.hi
  obtain ⟨H2, l2, o2, f2, g2⟩ := freeze_row (H := H1) h.nodes o1 (fun k hk => by
    cases hc : H1 k with
    | none => rfl
    | some c =>
      rcases g1 k c hc with e | e
      · rw [h.hn k hk] at e; cases e
      · exact absurd hk (h.i_ne_n e))
  refine ⟨H2, l1.trans l2, o2, ?_, ⟨v.tv, v.iv, v.nv, kv⟩, ic, nc, rfl, ⟨h.trel.mono (l1.trans l2), h.irel.imp fun _ _ => ItemR.mono (l1.trans l2), f1.mono l2, h.nrel.imp fun _ _ => NodeR.mono (l1.trans l2), f2, hk.mono (l1.trans l2)⟩⟩
  intro g c hg hx
  rcases g2 g c hg with e | e
  · rcases g1 g c e with e | e
    · rw [h.xh g hx] at e; cases e
    · exact h.xi g e hx
  · exact h.xn g e hx

/-- A reader at its start. -/
theorem RdOK.start {w1 : World} (hg : Glob w) (ht : Txt (fun k => k < w.heap.size) w sv src) (hs : src.length ≤ 1048576) (hl : Go.Proofs.YtkaeceedofmhbaaGreatDoor.low ≤ w.heap.size) (hb : Below w.heap.size w w1) :
    RdOK (fun k => k < w1.heap.size) (fun _ => none) (w1.alloc (.cells #[sv, .int .i64 0, .int .i64 0, .int .i64 0, .int .u64 0, .string ⟨#[]⟩, .int .i64 0, .int .i64 0, .int .i64 0, .slice none 0 0, .bool false, .bool false, .int .i64 0, .int .i64 0, .string ⟨#[]⟩, .int .i64 0, .slice none 0 0, .slice none 0 0, .slice none 0 0, .slice none 0 0] 64)) w1.heap.size sv src {} := by
  have nil : ∀ (w : World) (t n : Nat), w.ownsRow 0 t n (.slice none 0 0) 0 [] := fun _ _ _ => ⟨by simp, .inl ⟨rfl, rfl⟩⟩
  have hbel : Below w.heap.size w (w1.alloc (.cells #[sv, .int .i64 0, .int .i64 0, .int .i64 0, .int .u64 0, .string ⟨#[]⟩, .int .i64 0, .int .i64 0, .int .i64 0, .slice none 0 0, .bool false, .bool false, .int .i64 0, .int .i64 0, .string ⟨#[]⟩, .int .i64 0, .slice none 0 0, .slice none 0 0, .slice none 0 0, .slice none 0 0] 64)) := hb.alloc hb.size _
  have no : ∀ k, (Value.slice none 0 0).ownBlock = some k → False := fun k hk => by simp [Value.ownBlock] at hk
  refine ⟨⟨.slice none 0 0, .slice none 0 0, .slice none 0 0, .slice none 0 0, .slice none 0 0⟩, [], [], ⟨heap_alloc_new w1 _, nil _ _ _, nil _ _ _, rfl, nil _ _ _, rfl, .inl ⟨rfl, rfl, rfl⟩, Nat.lt_irrefl _, fun k hk => (no k hk).elim, fun k hk => (no k hk).elim, fun k hk => (no k hk).elim, rfl, fun k hk => rfl, fun k hk => rfl, fun k hk => rfl, ?_, ?_, fun _ _ => rfl, ?_, hs, Nat.le_refl _, Nat.zero_le _, Nat.zero_le _, Nat.zero_le _, ?_, ?_⟩⟩
  · intro g t cs hk; cases hk
  · intro k hk; simp; omega
  · exact (ht.keep fun k hk => hbel.block k hk).mono fun k hk => Nat.lt_of_lt_of_le hk hb.size
  · exact hg.keep fun k hk => hbel.block k (Nat.lt_of_lt_of_le hk hl)
  · intro k hk; exact Nat.lt_of_lt_of_le hk (Nat.le_trans hl hb.size)

/-- What Parse hands back. -/
def ParseR (w : World) (o : Out) (e : Ending) (w' : World) : Prop :=
  match o with
  | .fuel => False
  | .tree t => ∃ H tv, e = .returned (.tuple #[tv, placeV {}, .int .i64 0]) ∧ TreeR H t tv ∧ HeapOK H w' ∧ (∀ g c, H g = some c → w.heap.size ≤ g) ∧ Below w.heap.size w w'
  | .refused p why => e = .returned (.tuple #[noTree, placeV p, .int .i64 why]) ∧ Below w.heap.size w w'
end
end Go.Proofs.YtkaeceedofmhbaaGreatDoor
namespace Go.Proofs.YtkaeceedofmhbaaGreatDoor
open Go.RowKit Bk
attribute [local go_sem ↓] Go.wp_at_zero Go.wp_at_succ

def noTreeCells : List Value := [.int .i64 0, .string ⟨#[]⟩, .int .i64 0, .slice none 0 0, .slice none 0 0, .slice none 0 0, .slice none 0 0]
def noPlaceCells : List Value := [.int .i64 0, .int .i64 0, .int .i64 0]
def placeCells (p : PlaceV) : List Value := [.int .i64 p.at_, .int .i64 p.line, .int .i64 p.column]

section
variable {X : Nat → Prop} {w : World} {sv : Value} {src : Bytes}

/-- The blocks of Parse's own variables: the text, and the three results. -/
structure Own4 (w : World) (B : Nat) (sv : Value) (c1 c2 c3 : List Value) : Prop where
  b0 : w.heap[B]? = some (.cells [sv].toArray 34 (0, 0))
  b1 : w.heap[B + 1]? = some (.cells c1.toArray 28 (0, 0))
  b2 : w.heap[B + 2]? = some (.cells c2.toArray 30 (0, 0))
  b3 : w.heap[B + 3]? = some (.cells c3.toArray 31 (0, 0))
theorem Own4.keep {w w' : World} {B : Nat} {c1 c2 c3 : List Value} (h : Own4 w B sv c1 c2 c3) (hk : ∀ k, B ≤ k → k < B + 4 → w'.heap[k]? = w.heap[k]?) : Own4 w' B sv c1 c2 c3 :=
  ⟨by rw [hk B (by omega) (by omega)]; exact h.b0, by rw [hk (B + 1) (by omega) (by omega)]; exact h.b1, by rw [hk (B + 2) (by omega) (by omega)]; exact h.b2, by rw [hk (B + 3) (by omega) (by omega)]; exact h.b3⟩

theorem Own4.put1 {B i : Nat} {u : Value} {c1 c2 c3 : List Value} (h : Own4 w B sv c1 c2 c3) : Own4 (w.setCell ⟨B + 1, i, none⟩ u) B sv (c1.set i u) c2 c3 :=
  ⟨(Below.heap_setCell _ _ _ _ (by simp)).trans h.b0, blk_set h.b1 i u, (Below.heap_setCell _ _ _ _ (by simp)).trans h.b2, (Below.heap_setCell _ _ _ _ (by simp)).trans h.b3⟩
theorem Own4.put2 {B i : Nat} {u : Value} {c1 c2 c3 : List Value} (h : Own4 w B sv c1 c2 c3) : Own4 (w.setCell ⟨B + 2, i, none⟩ u) B sv c1 (c2.set i u) c3 :=
  ⟨(Below.heap_setCell _ _ _ _ (by simp)).trans h.b0, (Below.heap_setCell _ _ _ _ (by simp)).trans h.b1, blk_set h.b2 i u, (Below.heap_setCell _ _ _ _ (by simp)).trans h.b3⟩
theorem Own4.put3 {B i : Nat} {u : Value} {c1 c2 c3 : List Value} (h : Own4 w B sv c1 c2 c3) : Own4 (w.setCell ⟨B + 3, i, none⟩ u) B sv c1 c2 (c3.set i u) :=
  ⟨(Below.heap_setCell _ _ _ _ (by simp)).trans h.b0, (Below.heap_setCell _ _ _ _ (by simp)).trans h.b1, (Below.heap_setCell _ _ _ _ (by simp)).trans h.b2, blk_set h.b3 i u⟩
theorem Own4.cells {B : Nat} (h : Own4 w B sv noTreeCells noPlaceCells [.int .i64 0]) : w.cell? ⟨B + 1, 0, none⟩ = some (.int .i64 0) ∧ w.cell? ⟨B + 1, 1, none⟩ = some (.string ⟨#[]⟩) ∧ w.cell? ⟨B + 1, 2, none⟩ = some (.int .i64 0) ∧ w.cell? ⟨B + 1, 3, none⟩ = some (.slice none 0 0) ∧ w.cell? ⟨B + 1, 4, none⟩ = some (.slice none 0 0) ∧ w.cell? ⟨B + 1, 5, none⟩ = some (.slice none 0 0) ∧ w.cell? ⟨B + 1, 6, none⟩ = some (.slice none 0 0) ∧ w.cell? ⟨B + 2, 0, none⟩ = some (.int .i64 0) ∧ w.cell? ⟨B + 2, 1, none⟩ = some (.int .i64 0) ∧ w.cell? ⟨B + 2, 2, none⟩ = some (.int .i64 0) ∧ w.cell? ⟨B + 3, 0, none⟩ = some (.int .i64 0) ∧ w.frozen? ⟨B + 1, 0, none⟩ = false ∧ w.frozen? ⟨B + 1, 1, none⟩ = false ∧ w.frozen? ⟨B + 1, 2, none⟩ = false ∧ w.frozen? ⟨B + 1, 3, none⟩ = false ∧ w.frozen? ⟨B + 1, 4, none⟩ = false ∧ w.frozen? ⟨B + 1, 5, none⟩ = false ∧ w.frozen? ⟨B + 1, 6, none⟩ = false ∧ w.frozen? ⟨B + 2, 0, none⟩ = false ∧ w.frozen? ⟨B + 2, 1, none⟩ = false ∧ w.frozen? ⟨B + 2, 2, none⟩ = false ∧ w.frozen? ⟨B + 3, 0, none⟩ = false :=
  ⟨cell_of_blk h.b1 0, cell_of_blk h.b1 1, cell_of_blk h.b1 2, cell_of_blk h.b1 3, cell_of_blk h.b1 4, cell_of_blk h.b1 5, cell_of_blk h.b1 6, cell_of_blk h.b2 0, cell_of_blk h.b2 1, cell_of_blk h.b2 2, cell_of_blk h.b3 0, free_of_blk h.b1 0, free_of_blk h.b1 1, free_of_blk h.b1 2, free_of_blk h.b1 3, free_of_blk h.b1 4, free_of_blk h.b1 5, free_of_blk h.b1 6, free_of_blk h.b2 0, free_of_blk h.b2 1, free_of_blk h.b2 2, free_of_blk h.b3 0⟩

theorem catch_idle (a b c d : Addr) (w : World) :
    CallsD Tryz.prog 23 #[.pointer (some a), .pointer (some b), .pointer (some c), .pointer (some d)] .returning w fun e u' w' => e = .returned (.tuple #[]) ∧ u' = .returning ∧ w' = w := by
  refine callsD_of_wpS Tryz.func23 rfl fun c₀ cs hu => ?_
  apply wpS_seq
  apply wpS_region
  simp [wpOpsS, go_sem, recoverD, hu, Tryz.ntmps23, Exit.thenS]
  refine wpS_of_wp ?_
  rw [show (#[Value.pointer (some a), Value.pointer (some b), Value.pointer (some c), Value.pointer (some d)] ++ ((Array.replicate 21 undef).setIfInBounds 3 Value.nilIface).setIfInBounds 0 Value.nilIface) = #[Value.pointer (some a), Value.pointer (some b), Value.pointer (some c), Value.pointer (some d), .nilIface, undef, undef, .nilIface, undef, undef, undef, undef, undef, undef, undef, undef, undef, undef, undef, undef, undef, undef, undef, undef, undef] from by kernel_rfl]
  go_wp2_with fail
  cases c₀
  simp_all [bodyPostS, results, Tryz.results23]

set_option maxRecDepth 100000 in
set_option maxHeartbeats 4000000 in
theorem catch_halt (B p : Nat) (why : Int) (older : List PanicEntry) (hx : ∀ k, X k → k < B) (h : Own4 w B sv noTreeCells noPlaceCells [.int .i64 0]) (ht : Txt X w sv src) (hn : NilOK sv) (hb : src.length < 4611686018427387904) :
    CallsD Tryz.prog 23 #[.pointer (some ⟨B, 0, none⟩), .pointer (some ⟨B + 1, 0, none⟩), .pointer (some ⟨B + 2, 0, none⟩), .pointer (some ⟨B + 3, 0, none⟩)] (.panicking ({ v := haltV p why, recovered := false } :: older)) w fun e u' w' =>
      e = .returned (.tuple #[]) ∧ u' = .panicking ({ v := haltV p why, recovered := true } :: older) ∧ Own4 w' B sv noTreeCells (placeCells (place src p)) [.int .i64 why] ∧ Below B w w' := by
  refine callsD_of_wpS Tryz.func23 rfl fun c₀ cs hu => ?_
  apply wpS_seq
  apply wpS_region
  simp [wpOpsS, go_sem, recoverD, hu, Tryz.ntmps23, Exit.thenS, haltV]
  refine wpS_of_wp ?_
  rw [show (#[Value.pointer (some ⟨B, 0, none⟩), Value.pointer (some ⟨B + 1, 0, none⟩), Value.pointer (some ⟨B + 2, 0, none⟩), Value.pointer (some ⟨B + 3, 0, none⟩)] ++ ((Array.replicate 21 undef).setIfInBounds 3 (.iface 60 (.agg #[.int .i64 p, .int .i64 why]))).setIfInBounds 0 (.iface 60 (.agg #[.int .i64 p, .int .i64 why]))) = #[Value.pointer (some ⟨B, 0, none⟩), Value.pointer (some ⟨B + 1, 0, none⟩), Value.pointer (some ⟨B + 2, 0, none⟩), Value.pointer (some ⟨B + 3, 0, none⟩), .iface 60 (.agg #[.int .i64 p, .int .i64 why]), undef, undef, .iface 60 (.agg #[.int .i64 p, .int .i64 why]), undef, undef, undef, undef, undef, undef, undef, undef, undef, undef, undef, undef, undef, undef, undef, undef, undef] from by kernel_rfl]
  have hta : ∀ w, (Instr.typeAssert (.iface 60 (.agg #[.int .i64 (p : Int), .int .i64 why])) 20 60 true).run Tryz.prog w = .ok (.tuple #[.agg #[.int .i64 (p : Int), .int .i64 why], .bool true]) w := fun w => by kernel_rfl
  have HW := Lib.hid h
  have hlt := lt_of_block h.b3
  clear h
  go_wp2_with fail
  obtain ⟨C, hC⟩ : ∃ C, C = w.heap.size := ⟨_, rfl⟩
  obtain ⟨w1, hw1⟩ : ∃ w1, w1 = w.alloc (Obj.cells #[.int .i64 (p : Int), .int .i64 why] 60) := ⟨_, rfl⟩
  have hz1 : w1.heap.size = C + 1 := by rw [hw1, hC]; simp
  have hbel : Below B w w1 := by rw [hw1]; exact (Below.refl _ _).alloc (by omega) _
  have hold : ∀ k, k < C → w1.heap[k]? = w.heap[k]? := fun k hk => by rw [hw1]; exact heap_alloc_old w _ (by omega)
  have HO := Lib.hid (HW.out.keep (w' := w1) fun k _ hk => hold k (by omega))
  have hCb : w1.heap[C]? = some (.cells [Value.int .i64 (p : Int), .int .i64 why].toArray 60 (0, 0)) := by rw [hw1, hC]; exact heap_alloc_new w _
  have HCB := Lib.hid hCb
  have HBEL := Lib.hid hbel
  rw [← hw1, ← hC]
  have c0 : w1.cell? ⟨B, 0, none⟩ = some sv := cell_of_blk HO.out.b0 0
  have d0 : w1.cell? ⟨C, 0, none⟩ = some (.int .i64 (p : Int)) := cell_of_blk HCB.out 0
  have d1 : w1.cell? ⟨C, 1, none⟩ = some (.int .i64 why) := cell_of_blk HCB.out 1
  obtain ⟨q, hq⟩ : ∃ q, q = place src p := ⟨_, rfl⟩
  have HQ := Lib.hid hq
  have HAT := Lib.hid (show Calls Tryz.prog 13 #[sv, .int .i64 (p : Int)] w1.drew fun e w' => e = .returned (.agg #[.int .i64 q.at_, .int .i64 q.line, .int .i64 q.column]) ∧ Below (C + 1) w1.drew w' from by
    have := at_c (w := w1.drew) (p : Int) (ht.keep fun k hk => hold k (by have := hx k hk; omega)) hn hb
    rw [← hq, show w1.drew.heap.size = C + 1 from hz1] at this
    exact this)
  have hBC : B + 3 < C := by omega
  have HX := Lib.hid hx
  have n1 : ¬ C = B + 1 := by omega
  have m1 : ¬ B + 1 = C := by omega
  have n2 : ¬ C = B + 2 := by omega
  have m2 : ¬ B + 2 = C := by omega
  have n3 : ¬ C = B + 3 := by omega
  have m3 : ¬ B + 3 = C := by omega
  clear hw1 hCb hbel hold hq ht hn hb hC hlt hx
  go_region_held3 (fun w' => w'.cell? ⟨B, 0, none⟩ = some sv ∧ w'.cell? ⟨C, 0, none⟩ = some (.int .i64 (p : Int)) ∧ w'.cell? ⟨C, 1, none⟩ = some (.int .i64 why))
    (first
      | go_keep
      | (go_split_ands
         refine ⟨?_, ?_, ?_⟩
         · ((rw [World.cell?_of_block (w := w1) (hb3.block B (by show B < _; omega))]); assumption)
         · ((rw [World.cell?_of_block (w := w1) (hb3.block C (by show C < _; omega))]); assumption)
         · ((rw [World.cell?_of_block (w := w1) (hb3.block C (by show C < _; omega))]); assumption)))
    (first | (go_at_call 13; refine HAT.out.mono ?_; rintro e w3 ⟨rfl, hb3⟩; have O3 := Lib.hid (HO.out.keep (w' := w3) fun k _ hk => hb3.block k (by omega)); obtain ⟨y0, y1, y2, y3, y4, y5, y6, y7, y8, y9, y10, z0, z1, z2, z3, z4, z5, z6, z7, z8, z9, z10⟩ := O3.out.cells))
  have hB3 := HBEL.out.trans (Below.trans (b := w1.drew) ⟨rfl, rfl, rfl, Nat.le_refl _, fun _ _ => rfl⟩ (hb3.mono (show B ≤ C + 1 by omega)))
  have hFO := O3.out.put1 (i := 0) (u := .int .i64 0).put1 (i := 1) (u := .string ⟨#[]⟩).put1 (i := 2) (u := .int .i64 0).put1 (i := 3) (u := .slice none 0 0).put1 (i := 4) (u := .slice none 0 0).put1 (i := 5) (u := .slice none 0 0).put1 (i := 6) (u := .slice none 0 0).put2 (i := 0) (u := .int .i64 q.at_).put2 (i := 1) (u := .int .i64 q.line).put2 (i := 2) (u := .int .i64 q.column).put3 (i := 0) (u := .int .i64 why)
  obtain ⟨W, hW⟩ : ∃ W, W = (((((((((((w3.setCell ⟨B + 1, 0, none⟩ (.int .i64 0)).setCell ⟨B + 1, 1, none⟩ (.string ⟨#[]⟩)).setCell ⟨B + 1, 2, none⟩ (.int .i64 0)).setCell ⟨B + 1, 3, none⟩ (.slice none 0 0)).setCell ⟨B + 1, 4, none⟩ (.slice none 0 0)).setCell ⟨B + 1, 5, none⟩ (.slice none 0 0)).setCell ⟨B + 1, 6, none⟩ (.slice none 0 0)).setCell ⟨B + 2, 0, none⟩ (.int .i64 q.at_)).setCell ⟨B + 2, 1, none⟩ (.int .i64 q.line)).setCell ⟨B + 2, 2, none⟩ (.int .i64 q.column)).setCell ⟨B + 3, 0, none⟩ (.int .i64 why)) := ⟨_, rfl⟩
  have hFB : Below B w W := by rw [hW]; exact (((((((((((hB3.setCell (by show B ≤ B + 1; omega) _).setCell (by show B ≤ B + 1; omega) _).setCell (by show B ≤ B + 1; omega) _).setCell (by show B ≤ B + 1; omega) _).setCell (by show B ≤ B + 1; omega) _).setCell (by show B ≤ B + 1; omega) _).setCell (by show B ≤ B + 1; omega) _).setCell (by show B ≤ B + 2; omega) _).setCell (by show B ≤ B + 2; omega) _).setCell (by show B ≤ B + 2; omega) _).setCell (by show B ≤ B + 3; omega) _)
  rw [← hW] at hFO ⊢
  have FIN := Lib.hid (show Own4 W B sv noTreeCells (placeCells (place src p)) [.int .i64 why] ∧ Below B w W from ⟨by rw [← HQ.out]; exact hFO, hFB⟩)
  clear hFO hFB hW hB3 hb3 O3 HQ HAT HCB HO HBEL HW hta
  exact ⟨rfl, _, rfl, _, results_none rfl _ _ _, rfl, rfl, FIN.out⟩
end
end Go.Proofs.YtkaeceedofmhbaaGreatDoor
