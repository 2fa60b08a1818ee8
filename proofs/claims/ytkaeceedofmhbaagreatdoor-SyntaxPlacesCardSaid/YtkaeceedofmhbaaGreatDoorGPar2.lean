/-
  syntax: Parse.
-/
import Derived.Test.YtkaeceedofmhbaaGreatDoorGPar1
import Derived.Test.YtkaeceedofmhbaaGreatDoorGBlk10
namespace Go.Proofs.YtkaeceedofmhbaaGreatDoor
open Go.RowKit Bk
attribute [local go_sem ↓] Go.wp_at_zero Go.wp_at_succ

section
variable {w : World} {sv : Value} {src : Bytes}

/-- Parse's own variables, new. -/
def start4 (w : World) (sv : Value) : World := (((w.alloc (.cells #[sv] 34)).alloc (.cells noTreeCells.toArray 28)).alloc (.cells noPlaceCells.toArray 30)).alloc (.cells #[.int .i64 0] 31)
theorem start4_size (w : World) (sv : Value) : (start4 w sv).heap.size = w.heap.size + 4 := by simp [start4]
theorem start4_own (w : World) (sv : Value) : Own4 (start4 w sv) w.heap.size sv noTreeCells noPlaceCells [.int .i64 0] := by
  have a1 : ∀ k, k < w.heap.size + 1 → (start4 w sv).heap[k]? = (w.alloc (.cells #[sv] 34)).heap[k]? := fun k hk => by
    unfold start4
    rw [heap_alloc_old _ _ (by simp; omega), heap_alloc_old _ _ (by simp; omega), heap_alloc_old _ _ (by simp; omega)]
  have a2 : ∀ k, k < w.heap.size + 2 → (start4 w sv).heap[k]? = ((w.alloc (.cells #[sv] 34)).alloc (.cells noTreeCells.toArray 28)).heap[k]? := fun k hk => by
    unfold start4
    rw [heap_alloc_old _ _ (by simp; omega), heap_alloc_old _ _ (by simp; omega)]
  have a3 : ∀ k, k < w.heap.size + 3 → (start4 w sv).heap[k]? = (((w.alloc (.cells #[sv] 34)).alloc (.cells noTreeCells.toArray 28)).alloc (.cells noPlaceCells.toArray 30)).heap[k]? := fun k hk => by
    unfold start4
    rw [heap_alloc_old _ _ (by simp; omega)]
  refine ⟨(a1 _ (by omega)).trans (heap_alloc_new w _), (a2 _ (by omega)).trans ?_, (a3 _ (by omega)).trans ?_, ?_⟩
  · have := heap_alloc_new (w.alloc (.cells #[sv] 34)) (.cells noTreeCells.toArray 28)
    simpa using this
  · have := heap_alloc_new ((w.alloc (.cells #[sv] 34)).alloc (.cells noTreeCells.toArray 28)) (.cells noPlaceCells.toArray 30)
    simpa using this
  · have := heap_alloc_new (((w.alloc (.cells #[sv] 34)).alloc (.cells noTreeCells.toArray 28)).alloc (.cells noPlaceCells.toArray 30)) (.cells #[.int .i64 0] 31)
    simpa [start4] using this
theorem start4_below (w : World) (sv : Value) : Below w.heap.size w (start4 w sv) := by
  unfold start4
  exact ((((Below.refl _ _).alloc (Nat.le_refl _) _).alloc (by simp) _).alloc (by simp; omega) _).alloc (by simp; omega) _

/-- The three results, as a frame that leaves reads them. -/
theorem results_parse {B : Nat} {v0 v1 v2 v3 v4 v5 v6 p0 p1 p2 n : Value} (h : Own4 w B sv [v0, v1, v2, v3, v4, v5, v6] [p0, p1, p2] [n]) (tmps : Array Value) (e2 : tmps[2]?.getD undef = .pointer (some ⟨B + 1, 0, none⟩)) (e3 : tmps[3]?.getD undef = .pointer (some ⟨B + 2, 0, none⟩)) (e4 : tmps[4]?.getD undef = .pointer (some ⟨B + 3, 0, none⟩)) :
    (results Tryz.f11 tmps).run Tryz.prog w = .ok (.tuple #[.agg #[v0, v1, v2, v3, v4, v5, v6], .agg #[p0, p1, p2], n]) w := by
  have a0 : w.cell? ⟨B + 1, 0, none⟩ = some v0 := cell_of_blk h.b1 0
  have a1 : w.cell? ⟨B + 1, 1, none⟩ = some v1 := cell_of_blk h.b1 1
  have a2 : w.cell? ⟨B + 1, 2, none⟩ = some v2 := cell_of_blk h.b1 2
  have a3 : w.cell? ⟨B + 1, 3, none⟩ = some v3 := cell_of_blk h.b1 3
  have a4 : w.cell? ⟨B + 1, 4, none⟩ = some v4 := cell_of_blk h.b1 4
  have a5 : w.cell? ⟨B + 1, 5, none⟩ = some v5 := cell_of_blk h.b1 5
  have a6 : w.cell? ⟨B + 1, 6, none⟩ = some v6 := cell_of_blk h.b1 6
  have b0 : w.cell? ⟨B + 2, 0, none⟩ = some p0 := cell_of_blk h.b2 0
  have b1 : w.cell? ⟨B + 2, 1, none⟩ = some p1 := cell_of_blk h.b2 1
  have b2 : w.cell? ⟨B + 2, 2, none⟩ = some p2 := cell_of_blk h.b2 2
  have d0 : w.cell? ⟨B + 3, 0, none⟩ = some n := cell_of_blk h.b3 0
  simp [results, Tryz.results11, go_sem, e2, e3, e4, a0, a1, a2, a3, a4, a5, a6, b0, b1, b2, d0]

set_option maxRecDepth 100000 in
set_option maxHeartbeats 4000000 in
theorem parse_long (ht : Txt (fun k => k < w.heap.size) w sv src) (hn : NilOK sv) (hb : src.length < 4611686018427387904) (hl : 1048576 < src.length) :
    Calls Tryz.prog 11 #[sv] w (ParseR w (.refused (place src 0) 3)) := by
  obtain ⟨q, hq⟩ : ∃ q, q = place src 0 := ⟨_, rfl⟩
  have HAT := Lib.hid (at_c (w := start4 w sv) 0 (ht.keep fun k hk => (start4_below w sv).block k hk) hn hb)
  have HO := Lib.hid (start4_own w sv)
  have HB := Lib.hid (start4_below w sv)
  have HZ := Lib.hid (start4_size w sv)
  obtain ⟨a, cap, rfl, _, _, _⟩ := ht
  obtain ⟨W0, hW0⟩ : ∃ W0, W0 = start4 w (.slice a src.length cap) := ⟨_, rfl⟩
  rw [← hW0] at HAT HO HB HZ
  rw [← hq] at HAT ⊢
  have hl2 : ((src.length : Nat) : Int) > 1048576 := by omega
  have hW : (((w.alloc (Obj.cells #[.slice a src.length cap] 34)).alloc (Obj.cells #[.int .i64 0, .string ⟨#[]⟩, .int .i64 0, .slice none 0 0, .slice none 0 0, .slice none 0 0, .slice none 0 0] 28)).alloc (Obj.cells #[.int .i64 0, .int .i64 0, .int .i64 0] 30)).alloc (Obj.cells #[.int .i64 0] 31) = W0 := hW0.symm
  have HW := Lib.hid hW
  clear hn hq hW hW0
  go_enter_defers Tryz.func11, Tryz.ntmps11
  go_wp2_with fail
  rw [HW.out, show w.heap.size + 1 + 1 + 1 = w.heap.size + 3 from rfl, show w.heap.size + 1 + 1 = w.heap.size + 2 from rfl]
  refine HAT.out.mono ?_
  rintro e w3 ⟨rfl, hb3⟩
  have O3 := Lib.hid (HO.out.keep (w' := w3) fun k _ hk => hb3.block k (by have := HZ.out; omega))
  obtain ⟨y0, y1, y2, y3, y4, y5, y6, y7, y8, y9, y10, z0, z1, z2, z3, z4, z5, z6, z7, z8, z9, z10⟩ := O3.out.cells
  unfold placeV
  go_wp2_with fail
  have hFO := O3.out.put1 (i := 0) (u := .int .i64 0).put1 (i := 1) (u := .string ⟨#[]⟩).put1 (i := 2) (u := .int .i64 0).put1 (i := 3) (u := .slice none 0 0).put1 (i := 4) (u := .slice none 0 0).put1 (i := 5) (u := .slice none 0 0).put1 (i := 6) (u := .slice none 0 0).put2 (i := 0) (u := .int .i64 q.at_).put2 (i := 1) (u := .int .i64 q.line).put2 (i := 2) (u := .int .i64 q.column).put3 (i := 0) (u := .int .i64 3)
  have hB3 := HB.out.trans (hb3.mono (show w.heap.size ≤ W0.heap.size by have := HZ.out; omega))
  obtain ⟨W, hW⟩ : ∃ W, W = (((((((((((w3.setCell ⟨w.heap.size + 1, 0, none⟩ (.int .i64 0)).setCell ⟨w.heap.size + 1, 1, none⟩ (.string ⟨#[]⟩)).setCell ⟨w.heap.size + 1, 2, none⟩ (.int .i64 0)).setCell ⟨w.heap.size + 1, 3, none⟩ (.slice none 0 0)).setCell ⟨w.heap.size + 1, 4, none⟩ (.slice none 0 0)).setCell ⟨w.heap.size + 1, 5, none⟩ (.slice none 0 0)).setCell ⟨w.heap.size + 1, 6, none⟩ (.slice none 0 0)).setCell ⟨w.heap.size + 2, 0, none⟩ (.int .i64 q.at_)).setCell ⟨w.heap.size + 2, 1, none⟩ (.int .i64 q.line)).setCell ⟨w.heap.size + 2, 2, none⟩ (.int .i64 q.column)).setCell ⟨w.heap.size + 3, 0, none⟩ (.int .i64 3)) := ⟨_, rfl⟩
  have hFB : Below w.heap.size w W := by rw [hW]; exact (((((((((((hB3.setCell (by show w.heap.size ≤ w.heap.size + 1; omega) _).setCell (by show w.heap.size ≤ w.heap.size + 1; omega) _).setCell (by show w.heap.size ≤ w.heap.size + 1; omega) _).setCell (by show w.heap.size ≤ w.heap.size + 1; omega) _).setCell (by show w.heap.size ≤ w.heap.size + 1; omega) _).setCell (by show w.heap.size ≤ w.heap.size + 1; omega) _).setCell (by show w.heap.size ≤ w.heap.size + 1; omega) _).setCell (by show w.heap.size ≤ w.heap.size + 2; omega) _).setCell (by show w.heap.size ≤ w.heap.size + 2; omega) _).setCell (by show w.heap.size ≤ w.heap.size + 2; omega) _).setCell (by show w.heap.size ≤ w.heap.size + 3; omega) _)
  rw [← hW] at hFO ⊢
  have HR := results_parse hFO
  clear hW hB3 hb3 O3 y0 y1 y2 y3 y4 y5 y6 y7 y8 y9 y10 z0 z1 z2 z3 z4 z5 z6 z7 z8 z9 z10
  exact ⟨_, HR _ rfl rfl rfl, rfl, hFB⟩

def outOf (src : Bytes) : Res TreeV → Out
  | .ok t _ => .tree t
  | .bad .fuel => .fuel
  | .bad (.stop a y) => .refused (place src a) y

section
variable {X : Nat → Prop} {H : Frozen} {r : Nat} {st : St} {i : Value} {f : RefV} {v : RdS} {ic nc : List Value}
theorem RdP.put_name (h : RdP X H w r sv src st v ic nc) (hi : FInts H i f.index) :
    RdP X H (((w.setCell ⟨r, 14, none⟩ (str f.word)).setCell ⟨r, 15, none⟩ (.int .i64 f.at_)).setCell ⟨r, 16, none⟩ i) r sv src { st with tname := f } { v with tv := i } ic nc ∧ Fr X w (((w.setCell ⟨r, 14, none⟩ (str f.word)).setCell ⟨r, 15, none⟩ (.int .i64 f.at_)).setCell ⟨r, 16, none⟩ i) := by
  have hb := blk_set (blk_set (blk_set h.blk 14 (str f.word)) 15 (.int .i64 f.at_)) 16 i
  have hk : ∀ k, k ≠ r → (((w.setCell ⟨r, 14, none⟩ (str f.word)).setCell ⟨r, 15, none⟩ (.int .i64 f.at_)).setCell ⟨r, 16, none⟩ i).heap[k]? = w.heap[k]? := fun k hk =>
    ((Below.heap_setCell _ _ _ _ hk).trans (Below.heap_setCell _ _ _ _ hk)).trans (Below.heap_setCell _ _ _ _ hk)
  refine ⟨h.fields (by simp [World.setCell]) (fun k _ hne => hk k hne) hb (ownsRow_block h.want fun k hk' => hk k (fun e => h.r_ne_w (e ▸ hk'))) rfl rfl rfl rfl rfl hi h.ato h.tol h.badl h.openl, (((Fr.refl X w).setCell h.xr _).setCell h.xr _).setCell h.xr _⟩
theorem RdP.put_top (h : RdP X H w r sv src st v ic nc) (u : Value) : RdP X H (w.setCell ⟨r, 19, none⟩ u) r sv src st { v with top := u } ic nc ∧ Fr X w (w.setCell ⟨r, 19, none⟩ u) := by
  have hb := blk_set h.blk 19 u
  have hk : ∀ k, k ≠ r → (w.setCell ⟨r, 19, none⟩ u).heap[k]? = w.heap[k]? := fun k hk => Below.heap_setCell _ _ _ _ hk
  exact ⟨h.fields (by simp [World.setCell]) (fun k _ hne => hk k hne) hb (ownsRow_block h.want fun k hk' => hk k (fun e => h.r_ne_w (e ▸ hk'))) rfl rfl rfl rfl rfl h.trel h.ato h.tol h.badl h.openl, (Fr.refl X w).setCell h.xr _⟩
end

/-- What is behind the policy's own block; behind its name. -/
def parse3 (src : Bytes) (top : List Int) : M TreeV := fun st => if st.at_ < src.length then fail src st else .ok { pos := st.pos, name := st.tname, items := st.items, nodes := st.nodes, top := top } st
def parse2 (src : Bytes) (n : Nat) (f : RefV) : M TreeV := fun st => M.bind (block src n .own) (parse3 src) { st with tname := f }
def parse1 (src : Bytes) (n : Nat) : M TreeV := fun st => M.bind (must src 30) (fun _ => M.bind (word src) (parse2 src n)) { st with pos := st.at_ }
theorem parseM_eq (n : Nat) : parseM src n = M.bind (next src) (fun _ => parse1 src n) := rfl

set_option maxRecDepth 100000 in
set_option maxHeartbeats 8000000 in
theorem parse_short (n : Nat) (hg : Glob w) (ht : Txt (fun k => k < w.heap.size) w sv src) (hn : NilOK sv) (hl : low ≤ w.heap.size) (hs : src.length ≤ 1048576) (hf : parseM src n {} ≠ .bad .fuel) :
    Calls Tryz.prog 11 #[sv] w (ParseR w (outOf src (parseM src n {}))) := by
  obtain ⟨T, hT⟩ : ∃ T, T = parseM src n {} := ⟨_, rfl⟩
  rw [← hT]
  have FU := Lib.hid (show T ≠ .bad .fuel by rw [hT]; exact hf)
  rw [parseM_eq] at hT
  have EQ0 := Lib.hid hT
  have NX := Lib.hid next_c
  have FL := Lib.hid fail_c
  have hRD := RdOK.start hg ht hs hl (start4_below w sv)
  have hO := start4_own w sv
  have hB := start4_below w sv
  have hZ := start4_size w sv
  obtain ⟨a, cap, rfl, _, _, _⟩ := id ht
  obtain ⟨sv, hsv⟩ : ∃ sv, sv = Value.slice a src.length cap := ⟨_, rfl⟩
  obtain ⟨W0, hW0⟩ : ∃ W0, W0 = start4 w (.slice a src.length cap) := ⟨_, rfl⟩
  rw [← hW0] at hRD hO hB hZ
  obtain ⟨B, hBB⟩ : ∃ B, B = w.heap.size := ⟨_, rfl⟩
  rw [← hBB] at hO hB hZ
  obtain ⟨r, hr0⟩ : ∃ r, r = W0.heap.size := ⟨_, rfl⟩
  obtain ⟨X, hX⟩ : ∃ X : Nat → Prop, X = fun k => k < W0.heap.size := ⟨_, rfl⟩
  obtain ⟨W1, hW1⟩ : ∃ W1, W1 = W0.alloc (Obj.cells #[.slice a src.length cap, .int .i64 0, .int .i64 0, .int .i64 0, .int .u64 0, .string ⟨#[]⟩, .int .i64 0, .int .i64 0, .int .i64 0, .slice none 0 0, .bool false, .bool false, .int .i64 0, .int .i64 0, .string ⟨#[]⟩, .int .i64 0, .slice none 0 0, .slice none 0 0, .slice none 0 0, .slice none 0 0] 64) := ⟨_, rfl⟩
  rw [← hX, ← hW1, ← hr0] at hRD
  have hB1 : Below B w W1 := by rw [hW1]; exact hB.alloc (by omega) _
  have hO1 : Own4 W1 B (.slice a src.length cap) noTreeCells noPlaceCells [.int .i64 0] := by
    rw [hW1]; exact hO.keep fun k _ hk => heap_alloc_old W0 _ (by omega)
  have hxB : ∀ k, B ≤ k → k < B + 4 → X k := fun k _ hk => by rw [hX]; show k < W0.heap.size; omega
  have hxl : ∀ k, k < B → X k := fun k hk => by rw [hX]; show k < W0.heap.size; omega
  have hxg : ∀ k, ¬ X k → B ≤ k := fun k hk => by
    rw [hX] at hk; have : ¬ k < W0.heap.size := hk; omega
  have hxn : ∀ k, ¬ X k → B + 4 ≤ k := fun k hk => by
    rw [hX] at hk; have : ¬ k < W0.heap.size := hk; omega
  have KEEP := Lib.hid (show ∀ w', Fr X W1 w' → Own4 w' B (.slice a src.length cap) noTreeCells noPlaceCells [.int .i64 0] ∧ Below B w w' from fun w' hfr => ⟨hO1.keep fun k h1 h2 => hfr.block k (hxB k h1 h2), hB1.trans (hfr.below hxl)⟩)
  have PANIC := Lib.hid (show ∀ (p : Nat) (why : Int) (tmps : Array Value) (w' : World), T = .bad (.stop p why) → Fr X W1 w' → tmps[2]?.getD undef = .pointer (some ⟨B + 1, 0, none⟩) → tmps[3]?.getD undef = .pointer (some ⟨B + 2, 0, none⟩) → tmps[4]?.getD undef = .pointer (some ⟨B + 3, 0, none⟩) →
      ∀ (d : Deferred), d = { target := .fn (Fn.func 23) #[.pointer (some ⟨B, 0, none⟩), .pointer (some ⟨B + 1, 0, none⟩), .pointer (some ⟨B + 2, 0, none⟩), .pointer (some ⟨B + 3, 0, none⟩)], args := #[] } →
      bodyPostD Tryz.prog Tryz.f11 (ParseR w (outOf src T)) (Exit.panic [{ v := haltV p why, recovered := false }]) { tmps := tmps, defers := [d] } w' from by
    intro p why tmps w' hTp hfr e2 e3 e4 d hd
    subst hd
    obtain ⟨hO', hB'⟩ := KEEP.out w' hfr
    refine leaves_cons (f := 23) (args := #[.pointer (some ⟨B, 0, none⟩), .pointer (some ⟨B + 1, 0, none⟩), .pointer (some ⟨B + 2, 0, none⟩), .pointer (some ⟨B + 3, 0, none⟩)]) (by simp) (by simp [go_sem]) ?_
    refine (catch_halt (X := fun k => k < B) B p why [] (fun _ h => h) hO' (by rw [hBB]; exact ht.keep fun k hk => hB'.block k (by rw [hBB]; exact hk)) hn (by omega)).mono ?_
    rintro e u' w'' ⟨rfl, rfl, hO2, hB2⟩
    refine ⟨_, results_parse hO2 tmps e2 e3 e4, ?_⟩
    rw [hTp]
    exact ⟨rfl, by rw [← hBB]; exact hB'.trans hB2⟩)
  have RD0 := Lib.hid hRD
  have HB := Lib.hid hBB
  have HXB := Lib.hid hxB
  have HXN := Lib.hid hxn
  have hW : (((w.alloc (Obj.cells #[.slice a src.length cap] 34)).alloc (Obj.cells #[.int .i64 0, .string ⟨#[]⟩, .int .i64 0, .slice none 0 0, .slice none 0 0, .slice none 0 0, .slice none 0 0] 28)).alloc (Obj.cells #[.int .i64 0, .int .i64 0, .int .i64 0] 30)).alloc (Obj.cells #[.int .i64 0] 31) = W0 := hW0.symm
  have HW := Lib.hid hW
  have HW1 := Lib.hid hW1
  have c0 : W0.cell? ⟨w.heap.size, 0, none⟩ = some (.slice a src.length cap) := by rw [← hBB]; exact cell_of_blk hO.b0 0
  have HR0 := Lib.hid hr0
  have hs2 : ¬ ((src.length : Nat) : Int) > 1048576 := by omega
  have hmf : ∀ (fn : Fn) (first cap : Array Value) (w : World), (Instr.makeFunc fn first cap).run Tryz.prog w = .ok (.func fn first cap) w := fun _ _ _ _ => rfl
  clear hg ht hn hf hT hRD hO hB hZ hsv hBB hr0 hX hW1 hB1 hO1 hxB hxl hxg hxn hW hW0 sv
  go_enter_defers Tryz.func11, Tryz.ntmps11
  go_upto_region 4 with (fail)
  rw [HW.out, show w.heap.size + 1 + 1 + 1 = w.heap.size + 3 from rfl, show w.heap.size + 1 + 1 = w.heap.size + 2 from rfl]
  go_wp2_with fail
  rw [← HW1.out, ← HR0.out, ← HB.out]
  refine (NX.out _ _ _ _ _ _ _ RD0.out).mono ?_
  intro e w1 hp
  rcases hp.elimG with ⟨a1, st1, v1, H1, hr, rfl, le, hR, hv, hfr⟩ | ⟨p, why, hr, rfl, hfr⟩
  rotate_left
  · have EQp := Lib.hid (EQ0.out.trans (bind_bad hr))
    have FRp := Lib.hid (hfr)
    clear hfr hr hp
    exact PANIC.out _ _ _ _ EQp.out FRp.out rfl rfl rfl _ rfl
  obtain rfl : v1 = .tuple #[] := hv
  have EQ1 := Lib.hid (show T = M.bind (must src 30) (fun _ => M.bind (word src) (parse2 src n)) { st1 with pos := st1.at_ } from EQ0.out.trans (bind_ok hr))
  have g1 := hR.c1
  have g13 := hR.c13
  have f13 := hR.free 13
  have hput := hR.put (st' := { st1 with pos := st1.at_ }) 13 (.int .i64 (st1.at_ : Int)) (fun v => by simp [rdCells]) rfl rfl rfl rfl hR.ato hR.tol hR.badl hR.openl
  have FR1 := Lib.hid (hfr.trans hput.2)
  have RD1 := Lib.hid hput.1
  obtain ⟨w2, hw2⟩ : ∃ w2, w2 = w1.setCell ⟨r, 13, none⟩ (.int .i64 (st1.at_ : Int)) := ⟨_, rfl⟩
  rw [← hw2] at FR1 RD1
  clear hfr hr hp hR le hput c0
  go_wp2_with fail
  rw [← hw2]
  clear hw2 g1 g13 f13
  refine (must_c NX FL 30 RD1.out (fun e => FU.out (EQ1.out.trans (bind_bad e)))).mono ?_
  intro e w3 hp
  rcases hp.elimG with ⟨a3, st3, v3, H3, hr, rfl, le, hR, hv, hfr⟩ | ⟨p, why, hr, rfl, hfr⟩
  rotate_left
  · have EQp := Lib.hid (EQ1.out.trans (bind_bad hr))
    have FRp := Lib.hid (FR1.out.trans hfr)
    clear hfr hr hp
    exact PANIC.out _ _ _ _ EQp.out FRp.out rfl rfl rfl _ rfl
  obtain rfl : v3 = .tuple #[] := hv
  have EQ3 := Lib.hid (show T = M.bind (word src) (parse2 src n) st3 from EQ1.out.trans (bind_ok hr))
  have FR3 := Lib.hid (FR1.out.trans hfr)
  have RD3 := Lib.hid hR
  clear hfr hr hp hR le
  go_wp2_with fail
  refine (rword_c NX FL RD3.out).mono ?_
  intro e w4 hp
  rcases hp.elimG with ⟨f, st4, v4, H4, hr, rfl, le, hR, hv, hfr⟩ | ⟨p, why, hr, rfl, hfr⟩
  rotate_left
  · have EQp := Lib.hid (EQ3.out.trans (bind_bad hr))
    have FRp := Lib.hid (FR3.out.trans hfr)
    clear hfr hr hp
    exact PANIC.out _ _ _ _ EQp.out FRp.out rfl rfl rfl _ rfl
  obtain ⟨i4, rfl, hi4⟩ := hv
  obtain ⟨ia, il, ic, hsl⟩ := FInts.slice hi4
  subst hsl
  have EQ4 := Lib.hid (show T = M.bind (block src n .own) (parse3 src) { st4 with tname := f } from EQ3.out.trans (bind_ok hr))
  obtain ⟨v4, ic4, nc4, hP⟩ := hR
  have g14 := cell_of_blk hP.blk 14
  have g15 := cell_of_blk hP.blk 15
  have g16 := cell_of_blk hP.blk 16
  simp only [rdCells, List.getElem?_cons_succ, List.getElem?_cons_zero] at g14 g15 g16
  have f14 := free_of_blk hP.blk 14
  have f15 := free_of_blk hP.blk 15
  have f16 := free_of_blk hP.blk 16
  have hput := hP.put_name hi4
  have FR4 := Lib.hid ((FR3.out.trans hfr).trans hput.2)
  have RD4 := Lib.hid (show RdOK X H4 _ r _ src _ from ⟨_, _, _, hput.1⟩)
  obtain ⟨w5, hw5⟩ : ∃ w5, w5 = ((w4.setCell ⟨r, 14, none⟩ (.string ⟨f.word.toArray⟩)).setCell ⟨r, 15, none⟩ (.int .i64 f.at_)).setCell ⟨r, 16, none⟩ (.slice ia il ic) := ⟨_, rfl⟩
  rw [show ((w4.setCell ⟨r, 14, none⟩ (str f.word)).setCell ⟨r, 15, none⟩ (.int .i64 f.at_)).setCell ⟨r, 16, none⟩ (.slice ia il ic) = w5 from hw5.symm] at FR4 RD4
  clear hfr hr hp hP le hput hi4
  go_wp2_with fail
  rw [← hw5]
  clear hw5 g14 g15 g16 f14 f15 f16
  refine ((all_c n).block .own _ _ _ _ _ _ _ RD4.out (fun e => FU.out (EQ4.out.trans (bind_bad e)))).mono ?_
  intro e w6 hp
  rcases hp.elimG with ⟨top, st9, v6, H6, hr, rfl, le, hR, hv, hfr⟩ | ⟨p, why, hr, rfl, hfr⟩
  rotate_left
  · have EQp := Lib.hid (EQ4.out.trans (bind_bad hr))
    have FRp := Lib.hid (FR4.out.trans hfr)
    clear hfr hr hp
    exact PANIC.out _ _ _ _ EQp.out FRp.out rfl rfl rfl _ rfl
  have hv' : FInts H6 v6 top := hv
  obtain ⟨ka, kl, kc, hsl⟩ := FInts.slice hv'
  subst hsl
  have EQ6 := Lib.hid (show T = parse3 src top st9 from EQ4.out.trans (bind_ok hr))
  obtain ⟨v6, ic6, nc6, hP⟩ := hR
  have g19 := cell_of_blk hP.blk 19
  simp only [rdCells, List.getElem?_cons_succ, List.getElem?_cons_zero] at g19
  have f19 := free_of_blk hP.blk 19
  have hput := hP.put_top (.slice ka kl kc)
  obtain ⟨w7, hw7⟩ : ∃ w7, w7 = w6.setCell ⟨r, 19, none⟩ (.slice ka kl kc) := ⟨_, rfl⟩
  rw [← hw7] at hput
  have FR7 := Lib.hid ((FR4.out.trans hfr).trans hput.2)
  have HP7 := Lib.hid hput.1
  have HTOP := Lib.hid hv'
  have c1 : w7.cell? ⟨r, 1, none⟩ = some (.int .i64 (st9.at_ : Int)) := cell_of_blk HP7.out.blk 1
  have cb : w7.cell? ⟨B, 0, none⟩ = some (.slice a src.length cap) := cell_of_blk (KEEP.out w7 FR7.out).1.b0 0
  clear hfr hr hp hP le hput hv hv'
  go_upto_region 10 with (fail)
  rw [← hw7]
  clear hw7 g19 f19
  go_quiet (fail)
  obtain ⟨w8, hw8⟩ : ∃ w8, w8 = w7.drewN nq := ⟨_, rfl⟩
  have HP8 := Lib.hid (show RdP X H6 w8 r (.slice a src.length cap) src st9 { v6 with top := .slice ka kl kc } ic6 nc6 by rw [hw8]; exact HP7.out.world (Nat.le_refl _) fun _ _ => rfl)
  have FR8 := Lib.hid (show Fr X W1 w8 by rw [hw8]; exact FR7.out.drewN nq)
  rw [← hw8]
  clear hw8 c1 cb
  by_cases hlt : st9.at_ < src.length
  · have EQ7 := Lib.hid (show T = .bad (.stop (st9.at_ + failAt src st9) 60) by rw [EQ6.out]; unfold parse3; rw [if_pos hlt]; rfl)
    go_wp2_with fail
    refine (FL.out _ _ _ _ _ _ _ ⟨_, _, _, HP8.out⟩).mono ?_
    rintro e w9 ⟨rfl, hfr⟩
    have FRp := Lib.hid (FR8.out.trans hfr)
    clear hfr
    exact PANIC.out _ _ _ _ EQ7.out FRp.out rfl rfl rfl _ rfl
  · have EQ7 := Lib.hid (show T = .ok { pos := st9.pos, name := st9.tname, items := st9.items, nodes := st9.nodes, top := top } st9 by rw [EQ6.out]; unfold parse3; rw [if_neg hlt])
    obtain ⟨ta, tl, tc, etv⟩ : ∃ p q s, v6.tv = .slice p q s := FInts.slice HP8.out.trel
    obtain ⟨ja, jl, jc, eiv⟩ : ∃ p q s, v6.iv = .slice p q s := by
      rcases HP8.out.items.2 with ⟨e, _⟩ | ⟨g, cap, cur, e, _⟩
      · exact ⟨_, _, _, e⟩
      · exact ⟨_, _, _, e⟩
    obtain ⟨xa, xl, xc, env⟩ : ∃ p q s, v6.nv = .slice p q s := by
      rcases HP8.out.nodes.2 with ⟨e, _⟩ | ⟨g, cap, cur, e, _⟩
      · exact ⟨_, _, _, e⟩
      · exact ⟨_, _, _, e⟩
    have c13 : w8.cell? ⟨r, 13, none⟩ = some (.int .i64 st9.pos) := cell_of_blk HP8.out.blk 13
    have c14 : w8.cell? ⟨r, 14, none⟩ = some (.string ⟨st9.tname.word.toArray⟩) := cell_of_blk HP8.out.blk 14
    have c15 : w8.cell? ⟨r, 15, none⟩ = some (.int .i64 st9.tname.at_) := cell_of_blk HP8.out.blk 15
    have c16 : w8.cell? ⟨r, 16, none⟩ = some (.slice ta tl tc) := by rw [← etv]; exact cell_of_blk HP8.out.blk 16
    have c17 : w8.cell? ⟨r, 17, none⟩ = some (.slice ja jl jc) := by rw [← eiv]; exact cell_of_blk HP8.out.blk 17
    have c18 : w8.cell? ⟨r, 18, none⟩ = some (.slice xa xl xc) := by rw [← env]; exact cell_of_blk HP8.out.blk 18
    have c19 : w8.cell? ⟨r, 19, none⟩ = some (.slice ka kl kc) := cell_of_blk HP8.out.blk 19
    have hKP := KEEP.out w8 FR8.out
    have hO := hKP.1
    obtain ⟨y0, y1, y2, y3, y4, y5, y6, y7, y8, y9, y10, z0, z1, z2, z3, z4, z5, z6, z7, z8, z9, z10⟩ := hO.cells
    obtain ⟨H8, hle8, hH8, hx8, ht8⟩ := HP8.out.tree HTOP.out
    rw [show ({ v6 with top := .slice ka kl kc } : RdS).tv = v6.tv from rfl, show ({ v6 with top := .slice ka kl kc } : RdS).iv = v6.iv from rfl, show ({ v6 with top := .slice ka kl kc } : RdS).nv = v6.nv from rfl, etv, eiv, env] at ht8
    have HT8 := Lib.hid ht8
    have HH8 := Lib.hid hH8
    have HX8 := Lib.hid hx8
    have HO8 := Lib.hid hO
    have HB8 := Lib.hid hKP.2
    clear etv eiv env hKP hO hle8 hH8 hx8 ht8
    go_wp2_with fail
    have hFO := HO8.out.put1 (i := 0) (u := .int .i64 st9.pos).put1 (i := 1) (u := .string ⟨st9.tname.word.toArray⟩).put1 (i := 2) (u := .int .i64 st9.tname.at_).put1 (i := 3) (u := .slice ta tl tc).put1 (i := 4) (u := .slice ja jl jc).put1 (i := 5) (u := .slice xa xl xc).put1 (i := 6) (u := .slice ka kl kc).put2 (i := 0) (u := .int .i64 0).put2 (i := 1) (u := .int .i64 0).put2 (i := 2) (u := .int .i64 0).put3 (i := 0) (u := .int .i64 0)
    obtain ⟨W, hW⟩ : ∃ W, W = (((((((((((w8.setCell ⟨B + 1, 0, none⟩ (.int .i64 st9.pos)).setCell ⟨B + 1, 1, none⟩ (.string ⟨st9.tname.word.toArray⟩)).setCell ⟨B + 1, 2, none⟩ (.int .i64 st9.tname.at_)).setCell ⟨B + 1, 3, none⟩ (.slice ta tl tc)).setCell ⟨B + 1, 4, none⟩ (.slice ja jl jc)).setCell ⟨B + 1, 5, none⟩ (.slice xa xl xc)).setCell ⟨B + 1, 6, none⟩ (.slice ka kl kc)).setCell ⟨B + 2, 0, none⟩ (.int .i64 0)).setCell ⟨B + 2, 1, none⟩ (.int .i64 0)).setCell ⟨B + 2, 2, none⟩ (.int .i64 0)).setCell ⟨B + 3, 0, none⟩ (.int .i64 0)) := ⟨_, rfl⟩
    have hFR : ∀ k, ¬ X k → W.heap[k]? = w8.heap[k]? := fun k hk => by
      have h4 := HXN.out k hk
      rw [hW]
      exact ((((((((((Below.heap_setCell _ _ _ _ (show k ≠ B + 3 by omega)).trans (Below.heap_setCell _ _ _ _ (show k ≠ B + 2 by omega))).trans (Below.heap_setCell _ _ _ _ (show k ≠ B + 2 by omega))).trans (Below.heap_setCell _ _ _ _ (show k ≠ B + 2 by omega))).trans (Below.heap_setCell _ _ _ _ (show k ≠ B + 1 by omega))).trans (Below.heap_setCell _ _ _ _ (show k ≠ B + 1 by omega))).trans (Below.heap_setCell _ _ _ _ (show k ≠ B + 1 by omega))).trans (Below.heap_setCell _ _ _ _ (show k ≠ B + 1 by omega))).trans (Below.heap_setCell _ _ _ _ (show k ≠ B + 1 by omega))).trans (Below.heap_setCell _ _ _ _ (show k ≠ B + 1 by omega))).trans (Below.heap_setCell _ _ _ _ (show k ≠ B + 1 by omega))
    have hFB : Below B w W := by rw [hW]; exact (((((((((((HB8.out.setCell (by show B ≤ B + 1; omega) _).setCell (by show B ≤ B + 1; omega) _).setCell (by show B ≤ B + 1; omega) _).setCell (by show B ≤ B + 1; omega) _).setCell (by show B ≤ B + 1; omega) _).setCell (by show B ≤ B + 1; omega) _).setCell (by show B ≤ B + 1; omega) _).setCell (by show B ≤ B + 2; omega) _).setCell (by show B ≤ B + 2; omega) _).setCell (by show B ≤ B + 2; omega) _).setCell (by show B ≤ B + 3; omega) _)
    rw [← hW] at hFO ⊢
    have hRS := results_parse hFO
    have FIN := Lib.hid (show ParseR w (outOf src T) (.returned (.tuple #[.agg #[.int .i64 st9.pos, .string ⟨st9.tname.word.toArray⟩, .int .i64 st9.tname.at_, .slice ta tl tc, .slice ja jl jc, .slice xa xl xc, .slice ka kl kc], .agg #[.int .i64 0, .int .i64 0, .int .i64 0], .int .i64 0])) W from by
      rw [EQ7.out]
      exact ⟨H8, _, rfl, HT8.out, HH8.out.keep fun k c hk => hFR k (HX8.out k c hk), fun k c hk => by rw [← HB.out]; have := HXN.out k (HX8.out k c hk); omega, by rw [← HB.out]; exact hFB⟩)
    have HRS := Lib.hid hRS
    clear hFO hFR hFB hW hRS y0 y1 y2 y3 y4 y5 y6 y7 y8 y9 y10 z0 z1 z2 z3 z4 z5 z6 z7 z8 z9 z10 c13 c14 c15 c16 c17 c18 c19
    refine leaves_cons (f := 23) (args := #[.pointer (some ⟨B, 0, none⟩), .pointer (some ⟨B + 1, 0, none⟩), .pointer (some ⟨B + 2, 0, none⟩), .pointer (some ⟨B + 3, 0, none⟩)]) (by simp) (by simp [go_sem]) ?_
    refine (catch_idle _ _ _ _ W).mono ?_
    rintro e u' w'' ⟨rfl, rfl, rfl⟩
    exact ⟨_, HRS.out _ rfl rfl rfl, FIN.out⟩

theorem parse_c (n : Nat) (hg : Glob w) (ht : Txt (fun k => k < w.heap.size) w sv src) (hn : NilOK sv) (hb : src.length < 4611686018427387904) (hl : low ≤ w.heap.size) (hf : parseN src n ≠ .fuel) :
    Calls Tryz.prog 11 #[sv] w (ParseR w (parseN src n)) := by
  unfold parseN at hf ⊢
  by_cases h : 1048576 < src.length
  · rw [if_pos h]; exact parse_long ht hn hb h
  · rw [if_neg h] at hf ⊢
    have := parse_short n hg ht hn hl (by omega) (fun e => hf (by rw [e]))
    unfold outOf at this
    exact this
end
end Go.Proofs.YtkaeceedofmhbaaGreatDoor
