/-
  bulkheadlaw6: known.
-/
import Derived.Test.YtkaeceedofmhbaaGreatDoorGPar2
import Derived.Lib.SmallJoins
namespace Go.Proofs.YtkaeceedofmhbaaGreatDoor
open Go.RowKit Bk
attribute [local go_sem ↓] Go.wp_at_zero Go.wp_at_succ

def text1 : Bytes := [115, 121, 115, 116, 101, 109, 32, 115, 32, 123, 32, 125]
def text2 : Bytes := [10, 115, 121, 115, 116, 101, 109, 32, 115, 32, 123, 32, 114, 120]
def text3 : Bytes := [115, 121, 115, 116, 101, 109, 32, 115, 32, 123, 32, 99, 111, 110, 115, 116, 32, 97, 32, 61, 32, 49, 32, 43, 32, 50, 32, 42, 32, 98, 32, 59, 32, 125]
theorem parse_text1 : parseN text1 100 = .tree { pos := 0, name := { word := [115], at_ := 7 } } := by decide +kernel
theorem parse_text2 : parseN text2 100 = .refused { at_ := 13, line := 2, column := 13 } 60 := by decide +kernel
theorem parse_nil : parseN [] 100 = .refused { at_ := 0, line := 1, column := 1 } 60 := by decide +kernel

theorem cell_of_any {w : World} {r t : Nat} {cs : Array Value} {fr : Nat × Nat} (h : w.heap[r]? = some (.cells cs t fr)) (i : Nat) : w.cell? ⟨r, i, none⟩ = cs[i]? := by simp [World.cell?, h]
/-- Bytes in a block, from its first cell on. -/
theorem txt_of_blk {w : World} {g t : Nat} {s : Bytes} {cs : Array Value} {fr : Nat × Nat} (h : w.heap[g]? = some (.cells cs t fr)) (hc : cs = (s.map fun c => Value.int .u8 (c.toNat : Int)).toArray) (hl : s.length ≤ maxLen) : Txt (fun k => k < w.heap.size) w (.slice (some ⟨g, 0, none⟩) s.length s.length) s := by
  subst hc
  refine ⟨_, _, rfl, Nat.le_refl _, hl, fun _ => ⟨g, 0, rfl, lt_of_block h, fun i hi => ?_⟩⟩
  rw [cell_of_any h, Nat.zero_add, List.getElem?_toArray, List.getElem?_map, List.getElem?_eq_getElem hi]; rfl
theorem nilOK_some (a : Addr) (n c : Nat) : NilOK (.slice (some a) n c) := fun _ _ h => by cases h

/-- Parse of a text that is refused. -/
theorem parse_refused {w : World} {sv : Value} {src : Bytes} {n : Nat} {p : PlaceV} {why : Int} (hp : parseN src n = .refused p why) (hg : Glob w) (ht : Txt (fun k => k < w.heap.size) w sv src) (hn : NilOK sv) (hb : src.length < 4611686018427387904) (hl : low ≤ w.heap.size) :
    Calls Tryz.prog 11 #[sv] w fun e w' => e = .returned (.tuple #[.agg #[.int .i64 0, .string ⟨#[]⟩, .int .i64 0, .slice none 0 0, .slice none 0 0, .slice none 0 0, .slice none 0 0], .agg #[.int .i64 p.at_, .int .i64 p.line, .int .i64 p.column], .int .i64 why]) ∧ Below w.heap.size w w' :=
  (parse_c n hg ht hn hb hl (by rw [hp]; exact fun h => by cases h)).mono fun e w' h => by rw [hp] at h; exact h
/-- Parse of a text that is taken. -/
theorem parse_tree {w : World} {sv : Value} {src : Bytes} {n : Nat} {t : TreeV} (hp : parseN src n = .tree t) (hg : Glob w) (ht : Txt (fun k => k < w.heap.size) w sv src) (hn : NilOK sv) (hb : src.length < 4611686018427387904) (hl : low ≤ w.heap.size) :
    Calls Tryz.prog 11 #[sv] w fun e w' => ∃ H s ic nc, e = .returned (.tuple #[.agg #[.int .i64 t.pos, str t.name.word, .int .i64 t.name.at_, s.nv, s.iv, s.xv, s.kv], .agg #[.int .i64 0, .int .i64 0, .int .i64 0], .int .i64 0]) ∧ TreeP H t s ic nc ∧ HeapOK H w' ∧ (∀ g c, H g = some c → w.heap.size ≤ g) ∧ Below w.heap.size w w' :=
  (parse_c n hg ht hn hb hl (by rw [hp]; exact fun h => by cases h)).mono fun e w' h => by
    rw [hp] at h
    obtain ⟨H, tv, h1, ⟨s, ic, nc, rfl, h2⟩, h3, h4, h5⟩ := h
    exact ⟨H, s, ic, nc, h1, h2, h3, h4, h5⟩
theorem FInts.nil {H : Frozen} {v : Value} (h : FInts H v []) : v = .slice none 0 0 := by
  rcases h with ⟨e, _⟩ | ⟨_, _, _, h0, _⟩
  · exact e
  · simp at h0
theorem FRow.nil {H : Frozen} {t : TypeId} {v : Value} {cs : List Value} (h : FRow H t v 0 cs) : ∃ a c, v = .slice a 0 c := by
  rcases h with ⟨a, c, e, _⟩ | ⟨_, _, _, h0, _⟩
  · exact ⟨a, c, e⟩
  · omega
theorem Glob.below2 {w w' : World} (h : Glob w) (hb : Below w.heap.size w w') (hl : low ≤ w.heap.size) : Glob w' := h.keep fun k hk => hb.block k (Nat.lt_of_lt_of_le hk hl)

theorem convert_bytes (w : World) (C : Array Value) (n c g : Nat) (hg : g = w.heap.size) : (convert 34 34 (.slice (some ⟨g, 0, none⟩) n c)).run Tryz.prog (w.alloc (.cells C 5)) = .ok (.slice (some ⟨g, 0, none⟩) n c) (w.alloc (.cells C 5 (C.size, C.size + 1))) :=
  Joins.run_convert_bytes_const_at w 34 5 C n c g hg Tryz.underlying34 Tryz.underlying5

set_option maxRecDepth 100000 in
set_option maxHeartbeats 4000000 in
theorem known_c {w : World} (hg : Glob w) (hl : low ≤ w.heap.size) : Calls Tryz.prog 12 #[] w fun e w' => e = .returned (.bool true) ∧ Below w.heap.size w w' := by
  have HG := Lib.hid hg
  have HL := Lib.hid hl
  have hcv := convert_bytes
  have HBP := Lib.hid (Below.refl w.heap.size w)
  clear hg hl
  go_enter Tryz.func12, Tryz.ntmps12
  go_wp2_with fail
  obtain ⟨W1, hW1⟩ : ∃ W1, W1 = w.alloc (Obj.cells #[.int .u8 115, .int .u8 121, .int .u8 115, .int .u8 116, .int .u8 101, .int .u8 109, .int .u8 32, .int .u8 115, .int .u8 32, .int .u8 123, .int .u8 32, .int .u8 125] 5 (12, 13)) := ⟨_, rfl⟩
  have hB1 : Below w.heap.size w W1 := by rw [hW1]; exact HBP.out.alloc HBP.out.size _
  have hT1 : Txt (fun k => k < W1.heap.size) W1 (.slice (some ⟨w.heap.size, 0, none⟩) 12 12) text1 := txt_of_blk (s := text1) (by rw [hW1]; exact heap_alloc_new w _) rfl (by decide)
  have hS1 : low ≤ W1.heap.size := Nat.le_trans HL.out hB1.size
  rw [← hW1]
  refine (parse_tree parse_text1 (HG.out.below2 hB1 HL.out) hT1 (nilOK_some _ _ _) (by decide) hS1).mono ?_
  rintro e w2 ⟨H1, s1, ic1, nc1, rfl, hT, hH, hX, hB⟩
  have n1 := hT.nv.nil
  obtain ⟨ia, ib, n2⟩ := hT.iv.nil
  obtain ⟨xa, xb, n3⟩ := hT.xv.nil
  have n4 := hT.kv.nil
  rw [n1, n2, n3, n4]
  have HBQ := Lib.hid (hB1.trans (hB.mono hB1.size))
  clear HBP hT hH hX hB n1 n2 n3 n4 hB1 hT1 hS1 hW1
  go_wp2_with fail
  obtain ⟨T1, hT1⟩ : ∃ T1 : Array Value, T1 = #[Value.int .i64 0, .string ⟨#[115]⟩, .int .i64 7, .slice none 0 0, .slice ia 0 ib, .slice xa 0 xb, .slice none 0 0] := ⟨_, rfl⟩
  obtain ⟨P0, hP0⟩ : ∃ P0 : Array Value, P0 = #[Value.int .i64 0, .int .i64 0, .int .i64 0] := ⟨_, rfl⟩
  obtain ⟨W3, hW3⟩ : ∃ W3, W3 = (w2.alloc (Obj.cells T1 28)).alloc (Obj.cells P0 30) := ⟨_, rfl⟩
  have hZ3 : W3.heap.size = w2.heap.size + 2 := by rw [hW3]; simp
  have hB3 : Below w.heap.size w W3 := by rw [hW3]; exact (HBQ.out.alloc HBQ.out.size _).alloc (by have := HBQ.out.size; simp; omega) _
  have k31 : W3.heap[w2.heap.size]? = some (.cells T1 28) := by rw [hW3, heap_alloc_old _ _ (by simp)]; exact heap_alloc_new w2 _
  have k32 : W3.heap[w2.heap.size + 1]? = some (.cells P0 30) := by
    have := heap_alloc_new (w2.alloc (Obj.cells T1 28)) (Obj.cells P0 30)
    rw [hW3]; simpa using this
  obtain ⟨W4, hW4⟩ : ∃ W4, W4 = W3.alloc (Obj.cells #[.int .u8 10, .int .u8 115, .int .u8 121, .int .u8 115, .int .u8 116, .int .u8 101, .int .u8 109, .int .u8 32, .int .u8 115, .int .u8 32, .int .u8 123, .int .u8 32, .int .u8 114, .int .u8 120] 5 (14, 15)) := ⟨_, rfl⟩
  have hB4 : Below w.heap.size w W4 := by rw [hW4]; exact hB3.alloc hB3.size _
  have hZ4 : W4.heap.size = w2.heap.size + 3 := by rw [hW4]; simp [hZ3]
  have k41 : W4.heap[w2.heap.size]? = some (.cells T1 28) := by rw [hW4, heap_alloc_old _ _ (by omega)]; exact k31
  have k42 : W4.heap[w2.heap.size + 1]? = some (.cells P0 30) := by rw [hW4, heap_alloc_old _ _ (by omega)]; exact k32
  have hT4 : Txt (fun k => k < W4.heap.size) W4 (.slice (some ⟨w2.heap.size + 1 + 1, 0, none⟩) 14 14) text2 := txt_of_blk (s := text2) (by rw [hW4, show w2.heap.size + 1 + 1 = W3.heap.size by omega]; exact heap_alloc_new W3 _) rfl (by decide)
  have hS4 : low ≤ W4.heap.size := Nat.le_trans HL.out hB4.size
  rw [← hT1, ← hP0, ← hW3, ← hW4]
  refine (parse_refused parse_text2 (HG.out.below2 hB4 HL.out) hT4 (nilOK_some _ _ _) (by decide) hS4).mono ?_
  rintro e w5 ⟨rfl, hB⟩
  have HB5 := Lib.hid (hB4.trans (hB.mono hB4.size))
  have K51 := Lib.hid ((hB.block _ (by omega)).trans k41)
  have K52 := Lib.hid ((hB.block _ (by omega)).trans k42)
  have HZ5 := Lib.hid (show w2.heap.size + 3 ≤ w5.heap.size by have := hB.size; omega)
  have HT1 := Lib.hid hT1
  have HP0 := Lib.hid hP0
  clear hB hB3 hB4 hZ3 hZ4 k31 k32 k41 k42 hT4 hS4 hW3 hW4 HBQ hT1 hP0
  go_wp2_with fail
  obtain ⟨T2, hT2⟩ : ∃ T2 : Array Value, T2 = #[Value.int .i64 0, .string ⟨#[]⟩, .int .i64 0, .slice none 0 0, .slice none 0 0, .slice none 0 0, .slice none 0 0] := ⟨_, rfl⟩
  obtain ⟨P2, hP2⟩ : ∃ P2 : Array Value, P2 = #[Value.int .i64 13, .int .i64 2, .int .i64 13] := ⟨_, rfl⟩
  obtain ⟨W6, hW6⟩ : ∃ W6, W6 = (w5.alloc (Obj.cells T2 28)).alloc (Obj.cells P2 30) := ⟨_, rfl⟩
  have hz5 := HZ5.out
  have hZ6 : W6.heap.size = w5.heap.size + 2 := by rw [hW6]; simp
  have hB6 : Below w.heap.size w W6 := by rw [hW6]; exact (HB5.out.alloc HB5.out.size _).alloc (by have := HB5.out.size; simp; omega) _
  have old6 : ∀ k, k < w5.heap.size → W6.heap[k]? = w5.heap[k]? := fun k hk => by rw [hW6, heap_alloc_old _ _ (by simp; omega), heap_alloc_old _ _ hk]
  have k63 : W6.heap[w5.heap.size]? = some (.cells T2 28) := by rw [hW6, heap_alloc_old _ _ (by simp)]; exact heap_alloc_new w5 _
  have k64 : W6.heap[w5.heap.size + 1]? = some (.cells P2 30) := by
    have := heap_alloc_new (w5.alloc (Obj.cells T2 28)) (Obj.cells P2 30)
    rw [hW6]; simpa using this
  have k61 := (old6 _ (by omega)).trans K51.out
  have k62 := (old6 _ (by omega)).trans K52.out
  have hT6 : Txt (fun k => k < W6.heap.size) W6 (.slice none 0 0) [] := ⟨none, 0, rfl, Nat.le_refl _, Nat.zero_le _, fun h => absurd rfl h⟩
  have hS6 : low ≤ W6.heap.size := Nat.le_trans HL.out hB6.size
  rw [← hT2, ← hP2, ← hW6]
  refine (parse_refused parse_nil (HG.out.below2 hB6 HL.out) hT6 (fun n c h => by cases h; exact ⟨rfl, rfl⟩) (by decide) hS6).mono ?_
  rintro e w7 ⟨rfl, hB⟩
  have k71 := (hB.block _ (by omega)).trans k61
  have k72 := (hB.block _ (by omega)).trans k62
  have k73 := (hB.block _ (by omega)).trans k63
  have k74 := (hB.block _ (by omega)).trans k64
  have hB7 := hB6.trans (hB.mono hB6.size)
  have hz7 : w5.heap.size + 2 ≤ w7.heap.size := by have := hB.size; omega
  go_upto_region 4 with (fail)
  obtain ⟨W8, hW8⟩ : ∃ W8, W8 = (w7.alloc (Obj.cells #[Value.int .i64 0, .string ⟨#[]⟩, .int .i64 0, .slice none 0 0, .slice none 0 0, .slice none 0 0, .slice none 0 0] 28)).alloc (Obj.cells #[Value.int .i64 0, .int .i64 1, .int .i64 1] 30) := ⟨_, rfl⟩
  have old8 : ∀ k, k < w7.heap.size → W8.heap[k]? = w7.heap[k]? := fun k hk => by rw [hW8, heap_alloc_old _ _ (by simp; omega), heap_alloc_old _ _ hk]
  have k76 : W8.heap[w7.heap.size + 1]? = some (.cells #[Value.int .i64 0, .int .i64 1, .int .i64 1] 30) := by
    have := heap_alloc_new (w7.alloc (Obj.cells #[Value.int .i64 0, .string ⟨#[]⟩, .int .i64 0, .slice none 0 0, .slice none 0 0, .slice none 0 0, .slice none 0 0] 28)) (Obj.cells #[Value.int .i64 0, .int .i64 1, .int .i64 1] 30)
    rw [hW8]; simpa using this
  have HB8 := Lib.hid (show Below w.heap.size w W8 by rw [hW8]; exact (hB7.alloc hB7.size _).alloc (by have := hB7.size; simp; omega) _)
  replace k71 := (old8 _ (by omega)).trans k71
  replace k72 := (old8 _ (by omega)).trans k72
  replace k73 := (old8 _ (by omega)).trans k73
  replace k74 := (old8 _ (by omega)).trans k74
  rw [HT1.out] at k71
  rw [HP0.out] at k72
  rw [hT2] at k73
  rw [hP2] at k74
  have a1 := cell_of_any k71 1
  have a2 := cell_of_any k71 4
  have b0 := cell_of_any k72 0
  have b1 := cell_of_any k72 1
  have b2 := cell_of_any k72 2
  have d1 := cell_of_any k73 1
  have e0 := cell_of_any k74 0
  have e1 := cell_of_any k74 1
  have e2 := cell_of_any k74 2
  have f0 := cell_of_any k76 0
  have f1 := cell_of_any k76 1
  have f2 := cell_of_any k76 2
  simp only [List.getElem?_toArray, List.getElem?_cons_succ, List.getElem?_cons_zero] at a1 a2 b0 b1 b2 d1 e0 e1 e2 f0 f1 f2
  rw [← hW8]
  clear hB hB6 hZ6 old6 k61 k62 k63 k64 k71 k72 k73 k74 hT6 hS6 hW6 hT2 hP2 HB5 K51 K52 HZ5 HT1 HP0 old8 k76 hW8 hB7 hz5 hz7
  go_wp2_with fail
  go_ret
  exact ⟨rfl, HB8.out⟩
end Go.Proofs.YtkaeceedofmhbaaGreatDoor
