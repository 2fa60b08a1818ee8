/-
  syntax: the tables of declarations, and the blocks that stand over one.
  Printed by gen/blk8.py.
  syntax: item.
  Printed by gen/blk8.py.
  syntax: blocks, items and groups, whole: one induction.
-/
import Derived.Test.YtkaeceedofmhbaaGreatDoorGBlk6
import Derived.Test.YtkaeceedofmhbaaGreatDoorGBlk7
import Derived.Deep.RegionLaw
import Derived.Deep.DeepCutAuto
namespace Go.Proofs.YtkaeceedofmhbaaGreatDoor
open Go.RowKit Bk
attribute [local go_sem ↓] Go.wp_at_zero Go.wp_at_succ


theorem flat_at (r : Nat) : ∀ (ds : List (Int × Int × Rd)) (j : Nat) (d : Int × Int × Rd), ds[j]? = some d → ∀ (i : Nat) (v : Value), (declCells r d)[i]? = some v → (ds.flatMap (declCells r))[j * 3 + i]? = some v
  | [], j, d, h, _, _, _ => by simp at h
  | d0 :: ds, 0, d, h, i, v, hv => by
    obtain rfl : d0 = d := by simpa using h
    have hi : i < 3 := by have := (List.getElem?_eq_some_iff.1 hv).1; simpa [declCells] using this
    rw [List.flatMap_cons, Nat.zero_mul, Nat.zero_add, List.getElem?_append_left (by simpa [declCells] using hi)]; exact hv
  | d0 :: ds, j + 1, d, h, i, v, hv => by
    have hl : (declCells r d0).length = 3 := rfl
    rw [List.flatMap_cons, List.getElem?_append_right (by rw [hl, Nat.succ_mul]; omega), hl, show (j + 1) * 3 + i - 3 = j * 3 + i by rw [Nat.succ_mul]; omega]
    exact flat_at r ds j d (by simpa using h) i v hv
theorem table_at {w : World} {g r : Nat} {ds : List (Int × Int × Rd)} {t : TypeId} (h : w.heap[g]? = some (.cells (ds.flatMap (declCells r)).toArray t (0, 0))) : TableAt w g r ds := fun j d hd i v hv => by
  rw [cell_of_blk h]; exact flat_at r ds j d hd i v hv

set_option maxRecDepth 100000 in
set_option maxHeartbeats 4000000 in
theorem declarations_c (r : Nat) (w : World) : Calls Tryz.prog 77 #[.pointer (some ⟨r, 0, none⟩)] w (fun e w' => e = .returned (.slice (some ⟨w.heap.size, 0, none⟩) 14 14) ∧ w' = w.alloc (.cells #[.int .i64 38, .int .i64 6, .func (Fn.func 111) #[.pointer (some ⟨r, 0, none⟩)] #[], .int .i64 39, .int .i64 7, .func (Fn.func 112) #[.pointer (some ⟨r, 0, none⟩)] #[], .int .i64 41, .int .i64 8, .func (Fn.func 113) #[.pointer (some ⟨r, 0, none⟩)] #[], .int .i64 44, .int .i64 9, .func (Fn.func 114) #[.pointer (some ⟨r, 0, none⟩)] #[], .int .i64 48, .int .i64 10, .func (Fn.func 115) #[.pointer (some ⟨r, 0, none⟩)] #[], .int .i64 59, .int .i64 11, .func (Fn.func 116) #[.pointer (some ⟨r, 0, none⟩)] #[], .int .i64 64, .int .i64 12, .func (Fn.func 117) #[.pointer (some ⟨r, 0, none⟩)] #[], .int .i64 66, .int .i64 13, .func (Fn.func 118) #[.pointer (some ⟨r, 0, none⟩)] #[], .int .i64 73, .int .i64 14, .func (Fn.func 119) #[.pointer (some ⟨r, 0, none⟩)] #[], .int .i64 63, .int .i64 15, .func (Fn.func 119) #[.pointer (some ⟨r, 0, none⟩)] #[], .int .i64 74, .int .i64 22, .func (Fn.func 120) #[.pointer (some ⟨r, 0, none⟩)] #[], .int .i64 75, .int .i64 23, .func (Fn.func 121) #[.pointer (some ⟨r, 0, none⟩)] #[], .int .i64 78, .int .i64 24, .func (Fn.func 119) #[.pointer (some ⟨r, 0, none⟩)] #[], .int .i64 79, .int .i64 25, .func (Fn.func 122) #[.pointer (some ⟨r, 0, none⟩)] #[]] 114)) := by
  have hmf : ∀ (fn : Fn) (first cap : Array Value) (w : World), (Instr.makeFunc fn first cap).run Tryz.prog w = .ok (.func fn first cap) w := fun _ _ _ _ => rfl
  go_enter Tryz.func77, Tryz.ntmps77
  go_wp2_with fail
  go_ret
  exact ⟨rfl, rfl⟩

section
variable {X : Nat → Prop} {H : Frozen} {r : Nat} {sv : Value} {src : Bytes} {st : St} {w w1 : World}

set_option maxRecDepth 100000 in
set_option maxHeartbeats 4000000 in
theorem reach_c (n : Nat) (hi : InnerC n .reach) (hr : ∀ rd, ReadC n rd) : OneC (n + 1) .reach := by
  intro X H r sv src st w h hf
  obtain ⟨T, hT⟩ : ∃ T, T = one src (n + 1) .reach st := ⟨_, rfl⟩
  obtain ⟨w0, hw0⟩ : ∃ w0, w0 = w.alloc (Obj.cells #[.int .i64 51, .int .i64 16, .func (Fn.func 168) #[.pointer (some ⟨r, 0, none⟩)] #[]] 114) := ⟨_, rfl⟩
  have hbel : Below w.heap.size w w0 := by rw [hw0]; exact (Below.refl _ _).alloc (Nat.le_refl _) _
  have hblk : w0.heap[w.heap.size]? = some (.cells ((decls .reach).flatMap (declCells r)).toArray 114 (0, 0)) := by rw [hw0]; exact heap_alloc_new w _
  have fr0 : Fr X w w0 := by rw [hw0]; exact (Fr.refl X w).alloc h.xlt _
  have hsz : w0.heap.size = w.heap.size + 1 := by rw [hw0]; simp
  have RD0 := h.fence hbel
  obtain ⟨X1, hX1⟩ : ∃ X1, X1 = Fence X w.heap.size w0.heap.size := ⟨_, rfl⟩
  rw [← hX1] at RD0
  have hx1 : ∀ k, X k → X1 k := fun k hk => by rw [hX1]; exact .inl hk
  have hxg : X1 w.heap.size := by rw [hX1]; exact .inr ⟨Nat.le_refl _, by omega⟩
  have HC := Lib.hid (show Calls Tryz.prog 167 #[.pointer (some ⟨r, 0, none⟩), .func (Fn.func 153) #[.pointer (some ⟨r, 0, none⟩)] #[], .slice (some ⟨w.heap.size, 0, none⟩) 1 1] w0 (Post X1 w0 (one src (n + 1) .reach st) (Good rI X1 H r sv src)) from only_c n w.heap.size .reach (by decide) hi hr hxg (table_at hblk) RD0 hf)
  have HX1 := Lib.hid hx1
  have FR0 := Lib.hid fr0
  have RDX := Lib.hid h
  rw [← hT] at HC ⊢
  have EQ0 := Lib.hid hT
  have hmf : ∀ (fn : Fn) (first cap : Array Value) (w : World), (Instr.makeFunc fn first cap).run Tryz.prog w = .ok (.func fn first cap) w := fun _ _ _ _ => rfl
  clear hbel hblk fr0 hsz RD0 hX1 hx1 hxg h hf hi hr hT
  show Calls Tryz.prog 153 #[.pointer (some ⟨r, 0, none⟩)] w _
  go_enter Tryz.func153, Tryz.ntmps153
  go_wp2_with fail
  rw [← hw0]
  clear hw0
  refine HC.out.mono ?_
  intro e w2 hp
  rcases hp.elimG with ⟨k, st1, v1, H1, hr, rfl, le, hR, hv, hfr⟩ | ⟨p, why, hr, rfl, hfr⟩
  rotate_left
  · have EQp := Lib.hid hr
    have FRp := Lib.hid (FR0.out.trans (hfr.mono HX1.out))
    clear hfr hr hp
    go_wp2_with fail
    exact ⟨rfl, Post.stop EQp.out FRp.out⟩
  obtain rfl : v1 = .int .i64 k := hv
  have FW := FR0.out.trans (hfr.mono HX1.out)
  have FIN := Lib.hid (show Post X w T (Good rI X H r sv src) (.returned (.int .i64 k)) w2 from Post.ok hr ⟨H1, le, hR.back (RDX.out.txt.keep FW.block) RDX.out.gx HX1.out, rfl⟩ FW)
  clear hfr hr hp hR le FW
  go_wp2_with fail
  go_ret
  exact FIN.out

set_option maxRecDepth 100000 in
set_option maxHeartbeats 4000000 in
theorem part_c (n : Nat) (hi : InnerC n .part) (hr : ∀ rd, ReadC n rd) : OneC (n + 1) .part := by
  intro X H r sv src st w h hf
  obtain ⟨T, hT⟩ : ∃ T, T = one src (n + 1) .part st := ⟨_, rfl⟩
  obtain ⟨w0, hw0⟩ : ∃ w0, w0 = w.alloc (Obj.cells #[.int .i64 51, .int .i64 16, .func (Fn.func 168) #[.pointer (some ⟨r, 0, none⟩)] #[], .int .i64 54, .int .i64 17, .func (Fn.func 169) #[.pointer (some ⟨r, 0, none⟩)] #[]] 114) := ⟨_, rfl⟩
  have hbel : Below w.heap.size w w0 := by rw [hw0]; exact (Below.refl _ _).alloc (Nat.le_refl _) _
  have hblk : w0.heap[w.heap.size]? = some (.cells ((decls .part).flatMap (declCells r)).toArray 114 (0, 0)) := by rw [hw0]; exact heap_alloc_new w _
  have fr0 : Fr X w w0 := by rw [hw0]; exact (Fr.refl X w).alloc h.xlt _
  have hsz : w0.heap.size = w.heap.size + 1 := by rw [hw0]; simp
  have RD0 := h.fence hbel
  obtain ⟨X1, hX1⟩ : ∃ X1, X1 = Fence X w.heap.size w0.heap.size := ⟨_, rfl⟩
  rw [← hX1] at RD0
  have hx1 : ∀ k, X k → X1 k := fun k hk => by rw [hX1]; exact .inl hk
  have hxg : X1 w.heap.size := by rw [hX1]; exact .inr ⟨Nat.le_refl _, by omega⟩
  have HC := Lib.hid (show Calls Tryz.prog 167 #[.pointer (some ⟨r, 0, none⟩), .func (Fn.func 154) #[.pointer (some ⟨r, 0, none⟩)] #[], .slice (some ⟨w.heap.size, 0, none⟩) 2 2] w0 (Post X1 w0 (one src (n + 1) .part st) (Good rI X1 H r sv src)) from only_c n w.heap.size .part (by decide) hi hr hxg (table_at hblk) RD0 hf)
  have HX1 := Lib.hid hx1
  have FR0 := Lib.hid fr0
  have RDX := Lib.hid h
  rw [← hT] at HC ⊢
  have EQ0 := Lib.hid hT
  have hmf : ∀ (fn : Fn) (first cap : Array Value) (w : World), (Instr.makeFunc fn first cap).run Tryz.prog w = .ok (.func fn first cap) w := fun _ _ _ _ => rfl
  clear hbel hblk fr0 hsz RD0 hX1 hx1 hxg h hf hi hr hT
  show Calls Tryz.prog 154 #[.pointer (some ⟨r, 0, none⟩)] w _
  go_enter Tryz.func154, Tryz.ntmps154
  go_wp2_with fail
  rw [← hw0]
  clear hw0
  refine HC.out.mono ?_
  intro e w2 hp
  rcases hp.elimG with ⟨k, st1, v1, H1, hr, rfl, le, hR, hv, hfr⟩ | ⟨p, why, hr, rfl, hfr⟩
  rotate_left
  · have EQp := Lib.hid hr
    have FRp := Lib.hid (FR0.out.trans (hfr.mono HX1.out))
    clear hfr hr hp
    go_wp2_with fail
    exact ⟨rfl, Post.stop EQp.out FRp.out⟩
  obtain rfl : v1 = .int .i64 k := hv
  have FW := FR0.out.trans (hfr.mono HX1.out)
  have FIN := Lib.hid (show Post X w T (Good rI X H r sv src) (.returned (.int .i64 k)) w2 from Post.ok hr ⟨H1, le, hR.back (RDX.out.txt.keep FW.block) RDX.out.gx HX1.out, rfl⟩ FW)
  clear hfr hr hp hR le FW
  go_wp2_with fail
  go_ret
  exact FIN.out

set_option maxRecDepth 100000 in
set_option maxHeartbeats 4000000 in
theorem lane_c (n : Nat) (hi : InnerC n .lane) (hr : ∀ rd, ReadC n rd) : OneC (n + 1) .lane := by
  intro X H r sv src st w h hf
  obtain ⟨T, hT⟩ : ∃ T, T = one src (n + 1) .lane st := ⟨_, rfl⟩
  obtain ⟨w0, hw0⟩ : ∃ w0, w0 = w.alloc (Obj.cells #[.int .i64 49, .int .i64 18, .func (Fn.func 170) #[.pointer (some ⟨r, 0, none⟩)] #[]] 114) := ⟨_, rfl⟩
  have hbel : Below w.heap.size w w0 := by rw [hw0]; exact (Below.refl _ _).alloc (Nat.le_refl _) _
  have hblk : w0.heap[w.heap.size]? = some (.cells ((decls .lane).flatMap (declCells r)).toArray 114 (0, 0)) := by rw [hw0]; exact heap_alloc_new w _
  have fr0 : Fr X w w0 := by rw [hw0]; exact (Fr.refl X w).alloc h.xlt _
  have hsz : w0.heap.size = w.heap.size + 1 := by rw [hw0]; simp
  have RD0 := h.fence hbel
  obtain ⟨X1, hX1⟩ : ∃ X1, X1 = Fence X w.heap.size w0.heap.size := ⟨_, rfl⟩
  rw [← hX1] at RD0
  have hx1 : ∀ k, X k → X1 k := fun k hk => by rw [hX1]; exact .inl hk
  have hxg : X1 w.heap.size := by rw [hX1]; exact .inr ⟨Nat.le_refl _, by omega⟩
  have HC := Lib.hid (show Calls Tryz.prog 167 #[.pointer (some ⟨r, 0, none⟩), .func (Fn.func 156) #[.pointer (some ⟨r, 0, none⟩)] #[], .slice (some ⟨w.heap.size, 0, none⟩) 1 1] w0 (Post X1 w0 (one src (n + 1) .lane st) (Good rI X1 H r sv src)) from only_c n w.heap.size .lane (by decide) hi hr hxg (table_at hblk) RD0 hf)
  have HX1 := Lib.hid hx1
  have FR0 := Lib.hid fr0
  have RDX := Lib.hid h
  rw [← hT] at HC ⊢
  have EQ0 := Lib.hid hT
  have hmf : ∀ (fn : Fn) (first cap : Array Value) (w : World), (Instr.makeFunc fn first cap).run Tryz.prog w = .ok (.func fn first cap) w := fun _ _ _ _ => rfl
  clear hbel hblk fr0 hsz RD0 hX1 hx1 hxg h hf hi hr hT
  show Calls Tryz.prog 156 #[.pointer (some ⟨r, 0, none⟩)] w _
  go_enter Tryz.func156, Tryz.ntmps156
  go_wp2_with fail
  rw [← hw0]
  clear hw0
  refine HC.out.mono ?_
  intro e w2 hp
  rcases hp.elimG with ⟨k, st1, v1, H1, hr, rfl, le, hR, hv, hfr⟩ | ⟨p, why, hr, rfl, hfr⟩
  rotate_left
  · have EQp := Lib.hid hr
    have FRp := Lib.hid (FR0.out.trans (hfr.mono HX1.out))
    clear hfr hr hp
    go_wp2_with fail
    exact ⟨rfl, Post.stop EQp.out FRp.out⟩
  obtain rfl : v1 = .int .i64 k := hv
  have FW := FR0.out.trans (hfr.mono HX1.out)
  have FIN := Lib.hid (show Post X w T (Good rI X H r sv src) (.returned (.int .i64 k)) w2 from Post.ok hr ⟨H1, le, hR.back (RDX.out.txt.keep FW.block) RDX.out.gx HX1.out, rfl⟩ FW)
  clear hfr hr hp hR le FW
  go_wp2_with fail
  go_ret
  exact FIN.out

set_option maxRecDepth 100000 in
set_option maxHeartbeats 4000000 in
theorem run_c (n : Nat) (hi : InnerC n .run) (hr : ∀ rd, ReadC n rd) : OneC (n + 1) .run := by
  intro X H r sv src st w h hf
  obtain ⟨T, hT⟩ : ∃ T, T = one src (n + 1) .run st := ⟨_, rfl⟩
  obtain ⟨w0, hw0⟩ : ∃ w0, w0 = w.alloc (Obj.cells #[.int .i64 68, .int .i64 19, .func (Fn.func 196) #[.pointer (some ⟨r, 0, none⟩)] #[], .int .i64 69, .int .i64 20, .func (Fn.func 197) #[.pointer (some ⟨r, 0, none⟩)] #[]] 114) := ⟨_, rfl⟩
  have hbel : Below w.heap.size w w0 := by rw [hw0]; exact (Below.refl _ _).alloc (Nat.le_refl _) _
  have hblk : w0.heap[w.heap.size]? = some (.cells ((decls .run).flatMap (declCells r)).toArray 114 (0, 0)) := by rw [hw0]; exact heap_alloc_new w _
  have fr0 : Fr X w w0 := by rw [hw0]; exact (Fr.refl X w).alloc h.xlt _
  have hsz : w0.heap.size = w.heap.size + 1 := by rw [hw0]; simp
  have RD0 := h.fence hbel
  obtain ⟨X1, hX1⟩ : ∃ X1, X1 = Fence X w.heap.size w0.heap.size := ⟨_, rfl⟩
  rw [← hX1] at RD0
  have hx1 : ∀ k, X k → X1 k := fun k hk => by rw [hX1]; exact .inl hk
  have hxg : X1 w.heap.size := by rw [hX1]; exact .inr ⟨Nat.le_refl _, by omega⟩
  have HC := Lib.hid (show Calls Tryz.prog 167 #[.pointer (some ⟨r, 0, none⟩), .func (Fn.func 186) #[.pointer (some ⟨r, 0, none⟩)] #[], .slice (some ⟨w.heap.size, 0, none⟩) 2 2] w0 (Post X1 w0 (one src (n + 1) .run st) (Good rI X1 H r sv src)) from only_c n w.heap.size .run (by decide) hi hr hxg (table_at hblk) RD0 hf)
  have HX1 := Lib.hid hx1
  have FR0 := Lib.hid fr0
  have RDX := Lib.hid h
  rw [← hT] at HC ⊢
  have EQ0 := Lib.hid hT
  have hmf : ∀ (fn : Fn) (first cap : Array Value) (w : World), (Instr.makeFunc fn first cap).run Tryz.prog w = .ok (.func fn first cap) w := fun _ _ _ _ => rfl
  clear hbel hblk fr0 hsz RD0 hX1 hx1 hxg h hf hi hr hT
  show Calls Tryz.prog 186 #[.pointer (some ⟨r, 0, none⟩)] w _
  go_enter Tryz.func186, Tryz.ntmps186
  go_wp2_with fail
  rw [← hw0]
  clear hw0
  refine HC.out.mono ?_
  intro e w2 hp
  rcases hp.elimG with ⟨k, st1, v1, H1, hr, rfl, le, hR, hv, hfr⟩ | ⟨p, why, hr, rfl, hfr⟩
  rotate_left
  · have EQp := Lib.hid hr
    have FRp := Lib.hid (FR0.out.trans (hfr.mono HX1.out))
    clear hfr hr hp
    go_wp2_with fail
    exact ⟨rfl, Post.stop EQp.out FRp.out⟩
  obtain rfl : v1 = .int .i64 k := hv
  have FW := FR0.out.trans (hfr.mono HX1.out)
  have FIN := Lib.hid (show Post X w T (Good rI X H r sv src) (.returned (.int .i64 k)) w2 from Post.ok hr ⟨H1, le, hR.back (RDX.out.txt.keep FW.block) RDX.out.gx HX1.out, rfl⟩ FW)
  clear hfr hr hp hR le FW
  go_wp2_with fail
  go_ret
  exact FIN.out

set_option maxRecDepth 100000 in
set_option maxHeartbeats 4000000 in
theorem need_c (n : Nat) (hi : InnerC n .need) (hr : ∀ rd, ReadC n rd) : OneC (n + 1) .need := by
  intro X H r sv src st w h hf
  obtain ⟨T, hT⟩ : ∃ T, T = one src (n + 1) .need st := ⟨_, rfl⟩
  obtain ⟨w0, hw0⟩ : ∃ w0, w0 = w.alloc (Obj.cells #[.int .i64 71, .int .i64 21, .func (Fn.func 195) #[.pointer (some ⟨r, 0, none⟩)] #[]] 114) := ⟨_, rfl⟩
  have hbel : Below w.heap.size w w0 := by rw [hw0]; exact (Below.refl _ _).alloc (Nat.le_refl _) _
  have hblk : w0.heap[w.heap.size]? = some (.cells ((decls .need).flatMap (declCells r)).toArray 114 (0, 0)) := by rw [hw0]; exact heap_alloc_new w _
  have fr0 : Fr X w w0 := by rw [hw0]; exact (Fr.refl X w).alloc h.xlt _
  have hsz : w0.heap.size = w.heap.size + 1 := by rw [hw0]; simp
  have RD0 := h.fence hbel
  obtain ⟨X1, hX1⟩ : ∃ X1, X1 = Fence X w.heap.size w0.heap.size := ⟨_, rfl⟩
  rw [← hX1] at RD0
  have hx1 : ∀ k, X k → X1 k := fun k hk => by rw [hX1]; exact .inl hk
  have hxg : X1 w.heap.size := by rw [hX1]; exact .inr ⟨Nat.le_refl _, by omega⟩
  have HC := Lib.hid (show Calls Tryz.prog 167 #[.pointer (some ⟨r, 0, none⟩), .func (Fn.func 185) #[.pointer (some ⟨r, 0, none⟩)] #[], .slice (some ⟨w.heap.size, 0, none⟩) 1 1] w0 (Post X1 w0 (one src (n + 1) .need st) (Good rI X1 H r sv src)) from only_c n w.heap.size .need (by decide) hi hr hxg (table_at hblk) RD0 hf)
  have HX1 := Lib.hid hx1
  have FR0 := Lib.hid fr0
  have RDX := Lib.hid h
  rw [← hT] at HC ⊢
  have EQ0 := Lib.hid hT
  have hmf : ∀ (fn : Fn) (first cap : Array Value) (w : World), (Instr.makeFunc fn first cap).run Tryz.prog w = .ok (.func fn first cap) w := fun _ _ _ _ => rfl
  clear hbel hblk fr0 hsz RD0 hX1 hx1 hxg h hf hi hr hT
  show Calls Tryz.prog 185 #[.pointer (some ⟨r, 0, none⟩)] w _
  go_enter Tryz.func185, Tryz.ntmps185
  go_wp2_with fail
  rw [← hw0]
  clear hw0
  refine HC.out.mono ?_
  intro e w2 hp
  rcases hp.elimG with ⟨k, st1, v1, H1, hr, rfl, le, hR, hv, hfr⟩ | ⟨p, why, hr, rfl, hfr⟩
  rotate_left
  · have EQp := Lib.hid hr
    have FRp := Lib.hid (FR0.out.trans (hfr.mono HX1.out))
    clear hfr hr hp
    go_wp2_with fail
    exact ⟨rfl, Post.stop EQp.out FRp.out⟩
  obtain rfl : v1 = .int .i64 k := hv
  have FW := FR0.out.trans (hfr.mono HX1.out)
  have FIN := Lib.hid (show Post X w T (Good rI X H r sv src) (.returned (.int .i64 k)) w2 from Post.ok hr ⟨H1, le, hR.back (RDX.out.txt.keep FW.block) RDX.out.gx HX1.out, rfl⟩ FW)
  clear hfr hr hp hR le FW
  go_wp2_with fail
  go_ret
  exact FIN.out

end
end Go.Proofs.YtkaeceedofmhbaaGreatDoor
namespace Go.Proofs.YtkaeceedofmhbaaGreatDoor
open Go.RowKit Bk
attribute [local go_sem ↓] Go.wp_at_zero Go.wp_at_succ

set_option maxRecDepth 100000 in
set_option maxHeartbeats 4000000 in
theorem item_c (n : Nat) (hi : InnerC n .item) (hr : ∀ rd, ReadC n rd) : OneC (n + 1) .item := by
  intro X H r sv src st w h hf
  obtain ⟨T, hT⟩ : ∃ T, T = one src (n + 1) .item st := ⟨_, rfl⟩
  rw [← hT]
  have FU := Lib.hid (show T ≠ .bad .fuel by rw [hT]; exact hf)
  rw [one_not_own (by decide)] at hT
  have EQ0 := Lib.hid hT
  have NX := Lib.hid next_c
  have FL := Lib.hid fail_c
  have HR := Lib.hid hr
  have RDX := Lib.hid h
  have HI := Lib.hid (show Calls Tryz.prog 76 #[.pointer (some ⟨r, 0, none⟩), .func (Fn.func 51) #[.pointer (some ⟨r, 0, none⟩)] #[]] w (Post X w (inner src n .item st) (Good rOpt X H r sv src)) from hi _ _ _ _ _ _ w h (fun e => FU.out (EQ0.out.trans (bind_bad e))))
  obtain ⟨ds, hds⟩ : ∃ ds, ds = decls .item := ⟨_, rfl⟩
  have HDS := Lib.hid hds
  rw [← hds] at EQ0
  obtain ⟨N, hN⟩ : ∃ N, N = ds.length := ⟨_, rfl⟩
  have h14 : N = 14 := by rw [hN, hds]; rfl
  have HN := Lib.hid hN
  have HNL := Lib.hid (show N ≤ 14 by omega)
  have HD := Lib.hid (show ∀ w1 : World, Calls Tryz.prog 77 #[.pointer (some ⟨r, 0, none⟩)] w1 (fun e w' => e = .returned (.slice (some ⟨w1.heap.size, 0, none⟩) N N) ∧ w' = w1.alloc (.cells #[.int .i64 38, .int .i64 6, .func (Fn.func 111) #[.pointer (some ⟨r, 0, none⟩)] #[], .int .i64 39, .int .i64 7, .func (Fn.func 112) #[.pointer (some ⟨r, 0, none⟩)] #[], .int .i64 41, .int .i64 8, .func (Fn.func 113) #[.pointer (some ⟨r, 0, none⟩)] #[], .int .i64 44, .int .i64 9, .func (Fn.func 114) #[.pointer (some ⟨r, 0, none⟩)] #[], .int .i64 48, .int .i64 10, .func (Fn.func 115) #[.pointer (some ⟨r, 0, none⟩)] #[], .int .i64 59, .int .i64 11, .func (Fn.func 116) #[.pointer (some ⟨r, 0, none⟩)] #[], .int .i64 64, .int .i64 12, .func (Fn.func 117) #[.pointer (some ⟨r, 0, none⟩)] #[], .int .i64 66, .int .i64 13, .func (Fn.func 118) #[.pointer (some ⟨r, 0, none⟩)] #[], .int .i64 73, .int .i64 14, .func (Fn.func 119) #[.pointer (some ⟨r, 0, none⟩)] #[], .int .i64 63, .int .i64 15, .func (Fn.func 119) #[.pointer (some ⟨r, 0, none⟩)] #[], .int .i64 74, .int .i64 22, .func (Fn.func 120) #[.pointer (some ⟨r, 0, none⟩)] #[], .int .i64 75, .int .i64 23, .func (Fn.func 121) #[.pointer (some ⟨r, 0, none⟩)] #[], .int .i64 78, .int .i64 24, .func (Fn.func 119) #[.pointer (some ⟨r, 0, none⟩)] #[], .int .i64 79, .int .i64 25, .func (Fn.func 122) #[.pointer (some ⟨r, 0, none⟩)] #[]] 114)) from fun w1 => by rw [h14]; exact declarations_c r w1)
  have hmf : ∀ (fn : Fn) (first cap : Array Value) (w : World), (Instr.makeFunc fn first cap).run Tryz.prog w = .ok (.func fn first cap) w := fun _ _ _ _ => rfl
  clear h hf hT hi hr hds hN h14
  show Calls Tryz.prog 51 #[.pointer (some ⟨r, 0, none⟩)] w _
  go_enter Tryz.func51, Tryz.ntmps51
  go_wp2_with fail
  refine HI.out.mono ?_
  intro e w1 hp
  rcases hp.elimG with ⟨o, st1, v1, H1, hr, rfl, le, hR, hv, hfr⟩ | ⟨p, why, hr, rfl, hfr⟩
  rotate_left
  · have EQp := Lib.hid (EQ0.out.trans (bind_bad hr))
    have FRp := Lib.hid hfr
    clear hfr hr hp
    go_wp2_with fail
    exact ⟨rfl, Post.stop EQp.out FRp.out⟩
  have EQ1 := Lib.hid (EQ0.out.trans (bind_ok hr))
  have RD1 := Lib.hid hR
  have FR1 := Lib.hid hfr
  have LE1 := Lib.hid le
  clear hr hp hR hfr le
  cases o with
  | some k =>
    obtain rfl : v1 = .tuple #[.int .i64 k, .bool true] := hv
    have FIN := Lib.hid (show Post X w T (Good rI X H r sv src) (.returned (.int .i64 k)) w1 from Post.ok (EQ1.out.trans rfl) ⟨H1, LE1.out, RD1.out, rfl⟩ FR1.out)
    go_wp2_with fail
    go_ret
    exact FIN.out
  | none =>
    obtain rfl : v1 = .tuple #[.int .i64 0, .bool false] := hv
    have EQ2 := Lib.hid (show T = declOn src (fun rd x => Bk.read src n rd x) (ds.drop 0) st1 from EQ1.out)
    clear hmf
    go_wp2_with fail
    refine (HD.out w1).mono ?_
    rintro e wy ⟨rfl, hwy⟩
    have hbel : Below w1.heap.size w1 wy := by rw [hwy]; exact (Below.refl _ _).alloc (Nat.le_refl _) _
    have hblk : wy.heap[w1.heap.size]? = some (.cells (ds.flatMap (declCells r)).toArray 114 (0, 0)) := by rw [hwy, HDS.out]; exact heap_alloc_new w1 _
    have hsz : wy.heap.size = w1.heap.size + 1 := by rw [hwy]; simp
    have RDY' := RD1.out.fence hbel
    have FRW := Lib.hid (show Fr X w wy by rw [hwy]; exact FR1.out.alloc RD1.out.xlt _)
    obtain ⟨g, hg⟩ : ∃ g, g = w1.heap.size := ⟨_, rfl⟩
    rw [← hg] at hblk RDY' hsz ⊢
    obtain ⟨XY, hXY⟩ : ∃ XY, XY = Fence X g wy.heap.size := ⟨_, rfl⟩
    rw [← hXY] at RDY'
    have RDY := Lib.hid RDY'
    have HXY := Lib.hid (show ∀ k, X k → XY k from fun k hk => by rw [hXY]; exact .inl hk)
    have HG := Lib.hid (show XY g by rw [hXY]; exact .inr ⟨Nat.le_refl _, by omega⟩)
    have HT := Lib.hid (table_at hblk)
    have FRY := Lib.hid (Fr.refl XY wy)
    clear hbel hblk hsz RDY' hXY hg hwy HD
    go_wp2_with fail
    go_loopg [21] (N + 1) (fun g' s23 wr => ∃ (j : Nat) (stj : St) (Hj : Frozen), j ≤ N ∧ N < g' + j ∧ s23 = .int .i64 (j : Int) ∧ Hid (RdOK XY Hj wr r sv src stj ∧ Fr XY wy wr ∧ Le H Hj ∧ T = declOn src (fun rd x => Bk.read src n rd x) (ds.drop j) stj))
    case atStart => exact ⟨0, st1, H1, by omega, by omega, rfl, Lib.hid ⟨RDY.out, FRY.out, LE1.out, EQ2.out⟩⟩
    case round =>
      obtain ⟨j, st2, H2, hjN, hjg, rfl, hrel⟩ := hrel
      obtain ⟨hR, hF, hL, hE⟩ := hrel.out
      have RD2 := Lib.hid hR
      have FR2 := Lib.hid hF
      have LE2 := Lib.hid hL
      have EQ3 := Lib.hid hE
      clear hrel hR hF hL hE
      by_cases hj : j < N
      · have hjd : j < ds.length := by have := HN.out; omega
        obtain ⟨⟨kw, kd, rd⟩, hd⟩ : ∃ d, ds[j]? = some d := ⟨_, List.getElem?_eq_getElem hjd⟩
        have hgw : wr.heap[g]? = wy.heap[g]? := FR2.out.block g HG.out
        have t0 : wr.cell? ⟨g, j * 3, none⟩ = some (.int .i64 kw) := (World.cell?_of_block (w := wy) (a := ⟨g, j * 3, none⟩) hgw).trans (HT.out j _ hd 0 _ rfl)
        have t1 : wr.cell? ⟨g, j * 3 + 1, none⟩ = some (.int .i64 kd) := (World.cell?_of_block (w := wy) (a := ⟨g, j * 3 + 1, none⟩) hgw).trans (HT.out j _ hd 1 _ rfl)
        obtain ⟨fr, hfr⟩ : ∃ f, f = readFn rd := ⟨_, rfl⟩
        have t2 : wr.cell? ⟨g, j * 3 + 2, none⟩ = some (.func (Fn.func fr) #[.pointer (some ⟨r, 0, none⟩)] #[]) := by rw [hfr]; exact (World.cell?_of_block (w := wy) (a := ⟨g, j * 3 + 2, none⟩) hgw).trans (HT.out j _ hd 2 _ rfl)
        have HFR := Lib.hid hfr
        have hdr : ds.drop j = (kw, kd, rd) :: ds.drop (j + 1) := by
          rw [List.drop_eq_getElem_cons hjd]; congr 1
          rw [List.getElem?_eq_getElem hjd] at hd; exact Option.some.inj hd
        have EQ4 := Lib.hid (show T = M.bind (see kw) (fun q => if q = true then (do let i ← begin_ src kd; let x ← row i; let x ← Bk.read src n rd x; end_ i x : M Int) else declOn src (fun rd x => Bk.read src n rd x) (ds.drop (j + 1))) st2 by rw [EQ3.out, hdr, declOn]; rfl)
        clear hfr hd hgw hdr hjd
        go_upto_region 6 with (fail)
        refine wp_region_lit ?_
        iterate 3
          refine wpList_step (fun K hK => ?_)
          go_simp
          refine hK _ _ ?_
          clear hK K
        refine wpList_step (fun K hK => ?_)
        refine step_store_cells (by rfl) _ _ _ (by rfl) wr.heap.size 0 (by rfl) [.int .i64 kw, .int .i64 kd, .func (Fn.func fr) #[.pointer (some ⟨r, 0, none⟩)] #[]] (by rfl) declSize ?_ ?_ (by
          intro u hu
          simp only [List.mem_cons, List.not_mem_nil, or_false] at hu
          rcases hu with rfl | rfl | rfl <;> rfl) ?_
        · intro j hj
          rw [Nat.zero_add, cell_of_blk (heap_alloc_new wr _) j, List.getElem?_eq_getElem (by simpa using hj)]; rfl
        · intro j _
          exact free_of_blk (heap_alloc_new wr _) _
        rw [setCells_decl wr _ [.int .i64 kw, .int .i64 kd, .func (Fn.func fr) #[.pointer (some ⟨r, 0, none⟩)] #[]] (by rfl) rfl (by
          intro u hu
          simp only [List.mem_cons, List.not_mem_nil, or_false] at hu
          rcases hu with rfl | rfl | rfl <;> rfl)]
        go_simp
        refine hK _ _ ?_
        clear hK K
        refine wpList_nil ?_
        obtain ⟨o3, ho3⟩ : ∃ o3 : Obj, o3 = .cells #[.int .i64 kw, .int .i64 kd, .func (Fn.func fr) #[.pointer (some ⟨r, 0, none⟩)] #[]] 114 := ⟨_, rfl⟩
        rw [← ho3]
        obtain ⟨w3, hw3⟩ : ∃ w3, w3 = wr.alloc o3 := ⟨_, rfl⟩
        have hbel : Below wr.heap.size wr w3 := by rw [hw3]; exact (Below.refl _ _).alloc (Nat.le_refl _) _
        have hblk : w3.heap[wr.heap.size]? = some o3 := by rw [hw3]; exact heap_alloc_new wr _
        rw [ho3] at hblk
        have hsz : w3.heap.size = wr.heap.size + 1 := by rw [hw3]; simp
        have RD3' := RD2.out.fence hbel
        have FW3 := Lib.hid (show Fr XY wr w3 by rw [hw3]; exact (Fr.refl XY wr).alloc RD2.out.xlt _)
        rw [← hw3]
        obtain ⟨B, hB⟩ : ∃ B, B = wr.heap.size := ⟨_, rfl⟩
        rw [← hB] at hblk RD3' hsz ⊢
        obtain ⟨X1, hX1⟩ : ∃ X1, X1 = Fence XY B w3.heap.size := ⟨_, rfl⟩
        rw [← hX1] at RD3'
        have hx1 : ∀ k, XY k → X1 k := fun k hk => by rw [hX1]; exact .inl hk
        have hxB : X1 B := by rw [hX1]; exact .inr ⟨Nat.le_refl _, by omega⟩
        have RD3 := Lib.hid RD3'
        have HX1 := Lib.hid hx1
        have HXB := Lib.hid hxB
        have HB := Lib.hid hB
        have HBLK := Lib.hid hblk
        have d0 : w3.cell? ⟨B, 0, none⟩ = some (.int .i64 kw) := cell_of_blk (cs := [.int .i64 kw, .int .i64 kd, .func (Fn.func fr) #[.pointer (some ⟨r, 0, none⟩)] #[]]) hblk 0
        clear hbel hblk hsz RD3' hw3 ho3 hB hX1 hx1 hxB t0 t1 t2
        go_wp2_with fail
        refine (see_g kw RD3.out (fun e => FU.out (EQ4.out.trans (bind_bad e)))).mono ?_
        intro e w4 hp
        rcases hp.elimG with ⟨q, st4, v4, H4, hr, rfl, le, hR, hv, hfr⟩ | ⟨p, why, hr, rfl, hfr⟩
        rotate_left
        · have EQp := Lib.hid (EQ4.out.trans (bind_bad hr))
          have FRp := Lib.hid (FR2.out.trans (FW3.out.trans (hfr.mono HX1.out)))
          clear hfr hr hp
          go_wp2_with fail
          exact ⟨rfl, Post.stop EQp.out (FRW.out.trans (FRp.out.mono HXY.out))⟩
        obtain rfl : v4 = .bool q := hv
        have RD4 := Lib.hid hR
        have FW4 := Lib.hid (FW3.out.trans (hfr.mono HX1.out))
        have LE4 := Lib.hid (LE2.out.trans le)
        have EQ5 := Lib.hid (EQ4.out.trans (bind_ok hr))
        have HBL4 := Lib.hid (show w4.heap[B]? = _ from (hfr.block B HXB.out).trans HBLK.out)
        clear hfr hr hp hR le d0
        cases q with
        | false =>
          have EQ6 := Lib.hid (show T = declOn src (fun rd x => Bk.read src n rd x) (ds.drop (j + 1)) st4 from EQ5.out)
          have RDX := Lib.hid (RD4.out.back (RD2.out.txt.keep FW4.out.block) RD2.out.gx HX1.out)
          have e1 : IntKind.i64.wrap ((j : Int) + 1) = (j : Int) + 1 := IntWalk.i64_in _ ⟨by omega, by have := HNL.out; omega⟩
          go_wp2_with fail
          go_roundg (N - j)
          case measure => omega
          case rel => exact ⟨j + 1, st4, H4, by omega, by omega, by simp, Lib.hid ⟨RDX.out, FR2.out.trans FW4.out, LE4.out, EQ6.out⟩⟩
        | true =>
          have EQ6 := Lib.hid (show T = M.bind (begin_ src kd) (fun i => M.bind (row i) (fun x => M.bind (Bk.read src n rd x) (fun x => end_ i x))) st4 from EQ5.out)
          have d1 : w4.cell? ⟨B, 1, none⟩ = some (.int .i64 kd) := cell_of_blk (cs := [.int .i64 kw, .int .i64 kd, .func (Fn.func fr) #[.pointer (some ⟨r, 0, none⟩)] #[]]) HBL4.out 1
          go_wp2_with fail
          refine (begin_c kd RD4.out (fun e => FU.out (EQ6.out.trans (bind_bad e)))).mono ?_
          intro e w5 hp
          rcases hp.elimG with ⟨k, st5, v5, H5, hr, rfl, le, hR, hv, hfr⟩ | ⟨p, why, hr, rfl, hfr⟩
          rotate_left
          · have EQp := Lib.hid (EQ6.out.trans (bind_bad hr))
            have FRp := Lib.hid (FR2.out.trans (FW4.out.trans (hfr.mono HX1.out)))
            clear hfr hr hp
            go_wp2_with fail
            exact ⟨rfl, Post.stop EQp.out (FRW.out.trans (FRp.out.mono HXY.out))⟩
          obtain rfl : v5 = .int .i64 (k : Int) := hv
          obtain ⟨hk, hit⟩ := begin_row hr
          have hkx : st5.items[k]? = some { kind := kd, pos := st4.at_ } := by rw [hit, hk]; simp
          obtain ⟨g5, cap, cs, c17, hx, hcl, hc⟩ := hR.item_at hkx
          obtain ⟨N5, hN5⟩ : ∃ N5, N5 = st5.items.length := ⟨_, rfl⟩
          rw [← hN5] at c17
          have hkN : k < N5 := by rw [hN5, hit, hk]; simp
          have HKN := Lib.hid (show k < st5.items.length by rw [← hN5]; exact hkN)
          have EQ7 := Lib.hid (EQ6.out.trans (bind_ok hr))
          have RD5 := Lib.hid hR
          have FW5 := Lib.hid (FW4.out.trans (hfr.mono HX1.out))
          have LE5 := Lib.hid (LE4.out.trans le)
          have HBL5 := Lib.hid (show w5.heap[B]? = _ from (hfr.block B HXB.out).trans HBL4.out)
          have HX := Lib.hid hx
          have HCL := Lib.hid hcl
          have HC := Lib.hid hc
          have HKX := Lib.hid hkx
          clear hr hp hR hfr le hN5 hx hcl hc hkx hk hit d1
          go_upto_region 9 with (fail)
          refine wp_region_lit ?_
          iterate 7
            refine wpList_step (fun K hK => ?_)
            go_simp
            refine hK _ _ ?_
            clear hK K
          refine wpList_step (fun K hK => ?_)
          refine step_load_cells (by rfl) _ _ (by rfl) g5 (k * 21) (by rfl) cs item_agg (by rw [HCL.out]; exact itemSize) HC.out ?_
          refine hK _ _ ?_
          clear hK K
          refine wpList_step (fun K hK => ?_)
          go_simp
          refine hK _ _ ?_
          clear hK K
          refine wpList_step (fun K hK => ?_)
          refine step_store_cells (by rfl) _ _ _ (by rfl) w5.heap.size 0 (by rfl) cs (by rfl) (by rw [HCL.out]; exact itemSize) ?_ ?_ HX.out.one ?_
          · intro j hj
            rw [HCL.out] at hj
            rw [Nat.zero_add, cell_of_blk (heap_alloc_new w5 _) j, List.getElem?_eq_getElem (by simpa using hj)]; rfl
          · intro j _
            exact free_of_blk (heap_alloc_new w5 _) _
          rw [setCells_new w5 _ cs (by rw [HCL.out]; rfl) HCL.out HX.out.one]
          go_simp
          refine hK _ _ ?_
          clear hK K
          refine wpList_nil ?_
          obtain ⟨s6, hs, hI, hfr⟩ := ItP.start RD5.out HX.out rfl ⟨Int.le_refl 0, by show (0 : Int) < _; decide⟩
          have IP6 := Lib.hid hI
          have FW6 := Lib.hid (FW5.out.trans (hfr.mono HX1.out))
          have HBL6 := Lib.hid ((hfr.block B HXB.out).trans HBL5.out)
          obtain ⟨x6, hx6⟩ : ∃ x6 : ItemV, x6 = { kind := kd, pos := st4.at_ } := ⟨_, rfl⟩
          rw [← hx6] at IP6
          obtain ⟨w6, hw⟩ : ∃ w6, w6 = w5.alloc (.cells cs.toArray 40) := ⟨_, rfl⟩
          rw [← hw] at IP6 FW6 HBL6 ⊢
          obtain ⟨b, hb⟩ : ∃ b, b = w5.heap.size := ⟨_, rfl⟩
          rw [← hb] at IP6 ⊢
          have EQ8 := Lib.hid (show T = M.bind (Bk.read src n rd x6) (fun x => end_ k x) st5 from EQ7.out.trans (bind_ok (show row k st5 = .ok x6 st5 by unfold row; rw [List.getD_eq_getElem?_getD, HKX.out, hx6]; rfl)))
          have d2 : w6.cell? ⟨B, 2, none⟩ = some (.func (Fn.func fr) #[.pointer (some ⟨r, 0, none⟩)] #[]) := cell_of_blk (cs := [.int .i64 kw, .int .i64 kd, .func (Fn.func fr) #[.pointer (some ⟨r, 0, none⟩)] #[]]) HBL6.out 2
          clear hs hI hfr hx6 hw hb
          have HC6 := Lib.hid (HR.out rd _ _ _ _ _ _ w6 b x6 ⟨_, IP6.out⟩ (fun e => FU.out (EQ8.out.trans (bind_bad e))))
          rw [← HFR.out] at HC6
          have hcf : ∀ w, (callFunc fr #[.pointer (some ⟨r, 0, none⟩), .pointer (some ⟨b, 0, none⟩)]).run Tryz.prog w = .ok (.enter fr #[.pointer (some ⟨r, 0, none⟩), .pointer (some ⟨b, 0, none⟩)]) w := fun w => by rw [HFR.out]; exact read_enter rd _ w
          go_wp2_with fail
          clear hcf
          refine HC6.out.mono ?_
          intro e w7 hp
          rcases hp.elimI with ⟨x7, st7, v7, H7, y7, hr, rfl, le, ⟨s7, hI⟩, hv, hfr⟩ | ⟨p, why, hr, rfl, hfr⟩
          rotate_left
          · have EQp := Lib.hid (EQ8.out.trans (bind_bad hr))
            have FRp := Lib.hid (FR2.out.trans (FW6.out.trans (hfr.mono HX1.out)))
            clear hfr hr hp
            go_wp2_with fail
            exact ⟨rfl, Post.stop EQp.out (FRW.out.trans (FRp.out.mono HXY.out))⟩
          obtain ⟨hv1, hv2⟩ := hv
          obtain rfl : x7 = y7 := hv1
          obtain rfl : v7 = .tuple #[] := hv2
          have HK7 := Lib.hid (Nat.lt_of_lt_of_le HKN.out ((keep_all n).2.2.2.2.2 rd x6 _ _ _ hr))
          have EQ9 := Lib.hid (show T = end_ k x7 st7 from EQ8.out.trans (bind_ok hr))
          obtain ⟨H8, hle, hR8, hxR⟩ := hI.done
          have FW7 := Lib.hid (FW6.out.trans (hfr.mono HX1.out))
          have LE8 := Lib.hid ((LE5.out.trans le).trans hle)
          have RD8 := Lib.hid hR8
          have HXR := Lib.hid hxR
          obtain ⟨c7, hc7⟩ : ∃ c7, c7 = itemCells x7 s7 := ⟨_, rfl⟩
          rw [← hc7] at HXR
          have HC7 := Lib.hid (show ∀ (j : Nat) (v : Value), c7[j]? = some v → w7.cell? ⟨b, 0 + j, none⟩ = some v from fun j v hj => by rw [Nat.zero_add, cell_of_blk hI.blk, ← hc7]; exact hj)
          have HL7 := Lib.hid (show c7.length = 21 by rw [hc7]; rfl)
          clear hr hp hI le hfr hle hR8 hxR hc7 d2
          go_upto_region 11 with (fail)
          refine wp_region_lit ?_
          iterate 2
            refine wpList_step (fun K hK => ?_)
            go_simp
            refine hK _ _ ?_
            clear hK K
          refine wpList_step (fun K hK => ?_)
          refine step_load_cells (by rfl) _ _ (by rfl) b 0 (by rfl) c7 item_agg (by rw [HL7.out]; exact itemSize) HC7.out ?_
          refine hK _ _ ?_
          clear hK K
          go_wp2_with fail
          refine (end_c k HXR.out HK7.out RD8.out).mono ?_
          intro e w9 hp
          rcases hp.elimG with ⟨k9, st9, v9, H9, hr, rfl, le, hR, hv, hfr⟩ | ⟨p, why, hr, rfl, hfr⟩
          rotate_left
          · have EQp := Lib.hid (EQ9.out.trans hr)
            have FRp := Lib.hid (FR2.out.trans (FW7.out.trans (hfr.mono HX1.out)))
            clear hfr hr hp
            go_wp2_with fail
            exact ⟨rfl, Post.stop EQp.out (FRW.out.trans (FRp.out.mono HXY.out))⟩
          obtain rfl : v9 = .int .i64 k9 := hv
          have FW9 := FW7.out.trans (hfr.mono HX1.out)
          have FWY := FRW.out.trans ((FR2.out.trans FW9).mono HXY.out)
          have FIN := Lib.hid (show Post X w T (Good rI X H r sv src) (.returned (.int .i64 k9)) w9 from Post.ok (EQ9.out.trans hr) ⟨H9, LE8.out.trans le, hR.back (RDX.out.txt.keep FWY.block) RDX.out.gx (fun k hk => HX1.out k (HXY.out k hk)), rfl⟩ FWY)
          clear FWY
          clear hfr hr hp hR le FW9
          go_wp2_with fail
          go_ret
          exact FIN.out
      · have EQ4 := Lib.hid (show T = .bad (.stop (st2.at_ + failAt src st2) 60) by rw [EQ3.out, List.drop_eq_nil_of_le (by have := HN.out; omega), declOn]; rfl)
        go_wp2_with fail
        refine (FL.out _ _ _ _ _ _ _ RD2.out).mono ?_
        rintro e w3 ⟨rfl, hfr⟩
        have FIN := Lib.hid (FR2.out.trans hfr)
        clear hfr
        go_wp2_with fail
        exact ⟨rfl, Post.stop EQ4.out (FRW.out.trans (FIN.out.mono HXY.out))⟩
end Go.Proofs.YtkaeceedofmhbaaGreatDoor
namespace Go.Proofs.YtkaeceedofmhbaaGreatDoor
open Go.RowKit Bk

structure AllC (n : Nat) : Prop where
  block : ∀ u, BlockC n u
  one : ∀ u, OneC n u
  group : GroupC n
  inner : ∀ u, InnerC n u
  read : ∀ rd, ReadC n rd

theorem all_zero : AllC 0 := by
  refine ⟨fun u X H r sv src st w h hf => absurd ?_ hf, fun u X H r sv src st w h hf => absurd ?_ hf, fun X H r sv src st w h hf => absurd ?_ hf, fun u X H r sv src st w h hf => absurd ?_ hf, fun rd X H r sv src st w b x h hf => absurd ?_ hf⟩
  · rw [Bk.block]; rfl
  · rw [Bk.one]; rfl
  · rw [Bk.group]; rfl
  · rw [Bk.inner]; rfl
  · rw [Bk.read]; rfl

theorem all_c (n : Nat) : AllC n := by
  induction n using Nat.strongRecOn with
  | _ n ih =>
    cases n with
    | zero => exact all_zero
    | succ n =>
      have i := ih n (Nat.lt_succ_self n)
      refine ⟨fun u X H r sv src st w h hf => block_c n u (fun m hm => (ih m (Nat.lt_succ_of_lt hm)).one u) h hf, fun u => ?_, fun X H r sv src st w h hf => group_c n (i.block .item) h hf, fun u X H r sv src st w h hf => inner_c n u (i.block u) h hf, read_c n i.block⟩
      cases u with
      | own => exact own_c n i.group (i.one .item)
      | item => exact item_c n (i.inner _) i.read
      | reach => exact reach_c n (i.inner _) i.read
      | part => exact part_c n (i.inner _) i.read
      | lane => exact lane_c n (i.inner _) i.read
      | run => exact run_c n (i.inner _) i.read
      | need => exact need_c n (i.inner _) i.read
end Go.Proofs.YtkaeceedofmhbaaGreatDoor
