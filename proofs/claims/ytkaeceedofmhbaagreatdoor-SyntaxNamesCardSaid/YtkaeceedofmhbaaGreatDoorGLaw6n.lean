/-
  bulkheadlaw6: SyntaxNames, walked.
-/
import Derived.Test.YtkaeceedofmhbaaGreatDoorGLaw6
namespace Go.Proofs.YtkaeceedofmhbaaGreatDoor
open Go.RowKit Bk
attribute [local go_sem ↓] Go.wp_at_zero Go.wp_at_succ

def tree3 : TreeV := { pos := 0, name := { word := [115], at_ := 7 }, items := [{ kind := 1, pos := 11, name := { word := [97], at_ := 17 }, e := [4] }], nodes := [{ op := 2, n := 1, at_ := 21 }, { op := 2, n := 2, at_ := 25 }, { op := 1, s := [98], at_ := 29 }, { op := 27, kids := [1, 2], at_ := 27 }, { op := 25, kids := [0, 3], at_ := 23 }], top := [0] }
theorem parse_text3 : parseN text3 100 = .tree tree3 := by decide +kernel

/-- A cell of a block that is never written again. -/
theorem HeapOK.cell {H : Frozen} {w : World} (h : HeapOK H w) {g t : Nat} {cs : List Value} (hg : H g = some (t, cs)) {i : Nat} {v : Value} (hv : cs[i]? = some v) : w.cell? ⟨g, i, none⟩ = some v := by
  obtain ⟨cur, h1, h2⟩ := h g t cs hg
  rw [cell_of_any h1]
  have hi : i < cs.length := (List.getElem?_eq_some_iff.1 hv).1
  rw [← h2, List.getElem?_take, if_pos hi] at hv
  simpa using hv
theorem FRow.some {H : Frozen} {t : TypeId} {v : Value} {n : Nat} {cs : List Value} (h : FRow H t v n cs) (h0 : 0 < n) : ∃ g cap, v = .slice (some ⟨g, 0, none⟩) n cap ∧ n ≤ cap ∧ H g = some (t, cs) := by
  rcases h with ⟨a, c, _, e, _⟩ | ⟨g, cap, h1, _, h3, _, h5⟩
  · omega
  · exact ⟨g, cap, h1, h3, h5⟩
theorem FInts.some {H : Frozen} {v : Value} {l : List Int} (h : FInts H v l) (h0 : 0 < l.length) : ∃ g cap, v = .slice (some ⟨g, 0, none⟩) l.length cap ∧ l.length ≤ cap ∧ H g = some (3, ints l) := by
  rcases h with ⟨_, e, _⟩ | ⟨g, cap, h1, _, h3, _, h5⟩
  · omega
  · exact ⟨g, cap, h1, h3, h5⟩

/-- What is seen of the tree of the third text. -/
structure Seen3 (w : World) (gi gx g3 g4 p3 p4 : Nat) : Prop where
  u0 : w.cell? ⟨gi, 0, none⟩ = some (.int .i64 1)
  u1 : w.cell? ⟨gi, 1, none⟩ = some (.int .i64 11)
  x0 : w.cell? ⟨gx, 15, none⟩ = some (.int .i64 27)
  x1 : w.cell? ⟨gx, 16, none⟩ = some (.int .u64 0)
  x2 : w.cell? ⟨gx, 17, none⟩ = some (.string ⟨#[]⟩)
  x3 : w.cell? ⟨gx, 18, none⟩ = some (.slice (some ⟨g3, 0, none⟩) 2 p3)
  x4 : w.cell? ⟨gx, 19, none⟩ = some (.int .i64 27)
  y3 : w.cell? ⟨gx, 23, none⟩ = some (.slice (some ⟨g4, 0, none⟩) 2 p4)
  z0 : w.cell? ⟨g3, 0, none⟩ = some (.int .i64 1)
  z1 : w.cell? ⟨g3, 1, none⟩ = some (.int .i64 2)
  z4 : w.cell? ⟨g4, 1, none⟩ = some (.int .i64 3)
  li : gi < w.heap.size
  lx : gx < w.heap.size
  l3 : g3 < w.heap.size
  l4 : g4 < w.heap.size
theorem Seen3.keep {w w' : World} {gi gx g3 g4 p3 p4 : Nat} (h : Seen3 w gi gx g3 g4 p3 p4) (hs : w.heap.size ≤ w'.heap.size) (hk : ∀ k, k < w.heap.size → w'.heap[k]? = w.heap[k]?) : Seen3 w' gi gx g3 g4 p3 p4 := by
  have c : ∀ k i, k < w.heap.size → w'.cell? ⟨k, i, none⟩ = w.cell? ⟨k, i, none⟩ := fun k i hl => World.cell?_of_block (w := w) (a := ⟨k, i, none⟩) (hk k hl)
  exact ⟨(c _ _ h.li).trans h.u0, (c _ _ h.li).trans h.u1, (c _ _ h.lx).trans h.x0, (c _ _ h.lx).trans h.x1, (c _ _ h.lx).trans h.x2, (c _ _ h.lx).trans h.x3, (c _ _ h.lx).trans h.x4, (c _ _ h.lx).trans h.y3, (c _ _ h.l3).trans h.z0, (c _ _ h.l3).trans h.z1, (c _ _ h.l4).trans h.z4,
    Nat.lt_of_lt_of_le h.li hs, Nat.lt_of_lt_of_le h.lx hs, Nat.lt_of_lt_of_le h.l3 hs, Nat.lt_of_lt_of_le h.l4 hs⟩

theorem seen3 {H : Frozen} {w : World} {s : TreeS} {ic nc : List Value} (hT : TreeP H tree3 s ic nc) (hH : HeapOK H w) :
    ∃ gi ci gx cx gk ck g3 g4 p3 p4, s.nv = .slice none 0 0 ∧ s.iv = .slice (some ⟨gi, 0, none⟩) 1 ci ∧ s.xv = .slice (some ⟨gx, 0, none⟩) 5 cx ∧ s.kv = .slice (some ⟨gk, 0, none⟩) 1 ck ∧ Seen3 w gi gx g3 g4 p3 p4 := by
  obtain ⟨gi, ci, n2, hci, hgi⟩ := hT.iv.some (by decide)
  obtain ⟨gx, cx, n3, hcx, hgx⟩ := hT.xv.some (by decide)
  obtain ⟨gk, ck, n4, hck, hgk⟩ := hT.kv.some (by decide)
  have n1 := hT.nv.nil
  obtain ⟨c0, hc0, ha0⟩ := RowsR.at (k := 21) (fun a c hc => ItemR.length a c hc) 0 { kind := 1, pos := 11, name := { word := [97], at_ := 17 }, e := [4] } hT.irel rfl
  obtain ⟨c3, hc3, ha3⟩ := RowsR.at (k := 5) (fun a c hc => NodeR.length a c hc) 3 { op := 27, kids := [1, 2], at_ := 27 } hT.nrel rfl
  obtain ⟨c4, hc4, ha4⟩ := RowsR.at (k := 5) (fun a c hc => NodeR.length a c hc) 4 { op := 25, kids := [0, 3], at_ := 23 } hT.nrel rfl
  obtain ⟨s0, rfl, _⟩ := hc0
  obtain ⟨v3, rfl, hk3⟩ := hc3
  obtain ⟨v4, rfl, hk4⟩ := hc4
  obtain ⟨g3, p3, m3, hp3, hg3⟩ := hk3.some (by decide)
  obtain ⟨g4, p4, m4, hp4, hg4⟩ := hk4.some (by decide)
  subst m3 m4
  exact ⟨gi, ci, gx, cx, gk, ck, g3, g4, p3, p4, n1, n2, n3, n4, ⟨hH.cell hgi ((ha0 0 (by omega)).trans rfl), hH.cell hgi ((ha0 1 (by omega)).trans rfl), hH.cell hgx ((ha3 0 (by omega)).trans rfl), hH.cell hgx ((ha3 1 (by omega)).trans rfl), hH.cell hgx ((ha3 2 (by omega)).trans rfl),
    hH.cell hgx ((ha3 3 (by omega)).trans rfl), hH.cell hgx ((ha3 4 (by omega)).trans rfl), hH.cell hgx ((ha4 3 (by omega)).trans rfl), hH.cell hg3 rfl, hH.cell hg3 rfl, hH.cell hg4 rfl, hH.lt hgi, hH.lt hgx, hH.lt hg3, hH.lt hg4⟩⟩

set_option maxRecDepth 100000 in
set_option maxHeartbeats 4000000 in
theorem names_c {w : World} (hg : Glob w) (hl : low ≤ w.heap.size) : Calls Tryz.prog 3 #[] w fun e w' => e = .returned (.bool true) ∧ Below w.heap.size w w' := by
  have HG := Lib.hid hg
  have HL := Lib.hid hl
  have hcv := convert_bytes
  clear hg hl
  go_enter Tryz.func3, Tryz.ntmps3
  go_wp2_with fail
  obtain ⟨W1, hW1⟩ : ∃ W1, W1 = w.alloc (Obj.cells #[.int .u8 115, .int .u8 121, .int .u8 115, .int .u8 116, .int .u8 101, .int .u8 109, .int .u8 32, .int .u8 115, .int .u8 32, .int .u8 123, .int .u8 32, .int .u8 99, .int .u8 111, .int .u8 110, .int .u8 115, .int .u8 116, .int .u8 32, .int .u8 97, .int .u8 32, .int .u8 61, .int .u8 32, .int .u8 49, .int .u8 32, .int .u8 43, .int .u8 32, .int .u8 50, .int .u8 32, .int .u8 42, .int .u8 32, .int .u8 98, .int .u8 32, .int .u8 59, .int .u8 32, .int .u8 125] 5 (34, 35)) := ⟨_, rfl⟩
  have hB1 : Below w.heap.size w W1 := by rw [hW1]; exact (Below.refl _ _).alloc (Nat.le_refl _) _
  have hT1 : Txt (fun k => k < W1.heap.size) W1 (.slice (some ⟨w.heap.size, 0, none⟩) 34 34) text3 := txt_of_blk (s := text3) (by rw [hW1]; exact heap_alloc_new w _) rfl (by decide)
  have hS1 : low ≤ W1.heap.size := Nat.le_trans HL.out hB1.size
  rw [← hW1]
  refine (parse_tree parse_text3 (HG.out.below2 hB1 HL.out) hT1 (nilOK_some _ _ _) (by decide) hS1).mono ?_
  rintro e w2 ⟨H, s1, ic, nc, he, hT, hH, hX, hB⟩
  obtain ⟨gi, ci, gx, cx, gk, ck, g3, g4, p3, p4, n1, n2, n3, n4, hS⟩ := seen3 hT hH
  have he' : e = .returned (.tuple #[.agg #[Value.int .i64 0, .string ⟨#[115]⟩, .int .i64 7, .slice none 0 0, .slice (some ⟨gi, 0, none⟩) 1 ci, .slice (some ⟨gx, 0, none⟩) 5 cx, .slice (some ⟨gk, 0, none⟩) 1 ck], .agg #[.int .i64 0, .int .i64 0, .int .i64 0], .int .i64 0]) := by rw [he, n1, n2, n3, n4]; rfl
  subst he'
  have HBQ := Lib.hid (hB1.trans (hB.mono hB1.size))
  have HS := Lib.hid hS
  clear he hT hH hX hB n1 n2 n3 n4 hB1 hT1 hS1 hW1 hS
  go_upto_region 3 with (fail)
  obtain ⟨T1, hT1⟩ : ∃ T1 : Array Value, T1 = #[Value.int .i64 0, .string ⟨#[115]⟩, .int .i64 7, .slice none 0 0, .slice (some ⟨gi, 0, none⟩) 1 ci, .slice (some ⟨gx, 0, none⟩) 5 cx, .slice (some ⟨gk, 0, none⟩) 1 ck] := ⟨_, rfl⟩
  obtain ⟨W3, hW3⟩ : ∃ W3, W3 = (w2.alloc (Obj.cells T1 28)).alloc (Obj.cells #[Value.int .i64 0, .int .i64 0, .int .i64 0] 30) := ⟨_, rfl⟩
  have hZ3 : W3.heap.size = w2.heap.size + 2 := by rw [hW3]; simp
  have hB3 : Below w.heap.size w W3 := by rw [hW3]; exact (HBQ.out.alloc HBQ.out.size _).alloc (by have := HBQ.out.size; simp; omega) _
  have old3 : ∀ k, k < w2.heap.size → W3.heap[k]? = w2.heap[k]? := fun k hk => by rw [hW3, heap_alloc_old _ _ (by simp; omega), heap_alloc_old _ _ hk]
  have HS3 := Lib.hid (HS.out.keep (w' := W3) (by omega) old3)
  have k31 : W3.heap[w2.heap.size]? = some (.cells T1 28) := by rw [hW3, heap_alloc_old _ _ (by simp)]; exact heap_alloc_new w2 _
  have k32 : W3.heap[w2.heap.size + 1]? = some (.cells #[Value.int .i64 0, .int .i64 0, .int .i64 0] 30) := by
    have := heap_alloc_new (w2.alloc (Obj.cells T1 28)) (Obj.cells #[Value.int .i64 0, .int .i64 0, .int .i64 0] 30)
    rw [hW3]; simpa using this
  have K31 := Lib.hid k31
  have hW3' := hW3
  rw [hT1] at hW3' k31
  have a1 := cell_of_any k31 1
  have a2 := cell_of_any k31 2
  have a4 := cell_of_any k31 4
  have a5 := cell_of_any k31 5
  have a6 := cell_of_any k31 6
  have b0 := cell_of_any k32 0
  have b1 := cell_of_any k32 1
  have b2 := cell_of_any k32 2
  simp only [List.getElem?_toArray, List.getElem?_cons_succ, List.getElem?_cons_zero] at a1 a2 a4 a5 a6 b0 b1 b2
  have x0 := HS3.out.x0
  have x1 := HS3.out.x1
  have x2 := HS3.out.x2
  have x3 := HS3.out.x3
  have x4 := HS3.out.x4
  rw [← hW3']
  have HB3 := Lib.hid hB3
  have HT1 := Lib.hid hT1
  obtain ⟨B2, hB2⟩ : ∃ B2, B2 = w2.heap.size := ⟨_, rfl⟩
  rw [← hB2] at K31 a1 a2 a4 a5 a6 b0 b1 b2 hZ3 ⊢
  have HZ3 := Lib.hid hZ3
  clear k31 k32 hW3 hW3' hB3 old3 HBQ HS hT1 hB2 hZ3
  go_upto_region 6 with (fail)
  obtain ⟨W4, hW4⟩ : ∃ W4, W4 = W3.alloc (Obj.cells #[Value.int .i64 27, .int .u64 0, .string ⟨#[]⟩, .slice (some ⟨g3, 0, none⟩) 2 p3, .int .i64 27] 37) := ⟨_, rfl⟩
  have hB4 : Below w.heap.size w W4 := by rw [hW4]; exact HB3.out.alloc HB3.out.size _
  have hz3 := HZ3.out
  have hZ4 : W4.heap.size = B2 + 3 := by rw [hW4]; simp [hz3]
  have old4 : ∀ k, k < W3.heap.size → W4.heap[k]? = W3.heap[k]? := fun k hk => by rw [hW4]; exact heap_alloc_old _ _ hk
  have k41 := (old4 B2 (by omega)).trans K31.out
  have k43 : W4.heap[W3.heap.size]? = some (.cells #[Value.int .i64 27, .int .u64 0, .string ⟨#[]⟩, .slice (some ⟨g3, 0, none⟩) 2 p3, .int .i64 27] 37) := by rw [hW4]; exact heap_alloc_new W3 _
  have hS4 := HS3.out.keep (w' := W4) (by omega) old4
  rw [HT1.out] at k41
  clear a1 a2 a4 a5 a6 b0 b1 b2 x0 x1 x2 x3 x4
  have a4 := cell_of_any k41 4
  have a5 := cell_of_any k41 5
  have e0 := cell_of_any k43 0
  have e3 := cell_of_any k43 3
  simp only [List.getElem?_toArray, List.getElem?_cons_succ, List.getElem?_cons_zero] at a4 a5 e0 e3
  have u0 := hS4.u0
  have u1 := hS4.u1
  have y3 := hS4.y3
  have z0 := hS4.z0
  have z1 := hS4.z1
  have z4 := hS4.z4
  have HKN := Lib.hid (known_c (HG.out.below2 hB4 HL.out) (Nat.le_trans HL.out hB4.size))
  have HB4 := Lib.hid hB4
  rw [← hW4]
  clear hB4 hz3 hZ4 old4 k41 k43 hS4 hW4 HS3 HT1 K31 HZ3 HB3
  go_wp2_with fail
  refine HKN.out.mono ?_
  rintro e w5 ⟨rfl, hB⟩
  have HB5 := Lib.hid (HB4.out.trans (hB.mono HB4.out.size))
  clear hB
  go_wp2_with fail
  go_ret
  exact ⟨rfl, HB5.out⟩
end Go.Proofs.YtkaeceedofmhbaaGreatDoor
