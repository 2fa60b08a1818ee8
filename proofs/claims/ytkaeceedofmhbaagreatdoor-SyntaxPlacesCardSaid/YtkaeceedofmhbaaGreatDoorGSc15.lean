/-
  scan: Reserved.
  scan: single; the closure of sign.
-/
import Derived.Test.YtkaeceedofmhbaaGreatDoorGSc6
import Derived.Lib.SlicesS
import Derived.Lib.Bytealg
namespace Go.Proofs.YtkaeceedofmhbaaGreatDoor
open Go.RowKit Bk

def wordsText : Bytes := List.intercalate [32] words
def wordsObj : Obj := .cells (words.map str).toArray 9

theorem words_fields : Lib.fields (⟨wordsText.toArray⟩ : ByteArray).data.toList = words := by decide +kernel
theorem words_ascii : ∀ (j : Nat) b, (⟨wordsText.toArray⟩ : ByteArray).data.toList[j]? = some b → b.toNat < 128 := by
  intro j b h
  have key : ∀ b ∈ wordsText, b.toNat < 128 := by decide +kernel
  exact key b (List.mem_of_getElem? h)

theorem fields_c (s : ByteArray) (hs : s = ⟨wordsText.toArray⟩) (w : World) (hg : Glob w) :
    Calls Tryz.prog 109 #[.string s] w fun e w' => e = .returned (.slice (some ⟨w.heap.size, 0, none⟩) 50 50) ∧ w.alloc wordsObj = w' := by
  subst hs
  refine (Tryz.strings_Fields _ w (by decide +kernel) words_ascii hg.space).mono ?_
  rw [words_fields]
  rintro e w' ⟨rfl, rfl⟩
  exact ⟨rfl, rfl⟩

theorem idxFrom_map (v : Bytes) : ∀ (l : List Bytes) (i : Nat), Lib.idxFromS (l.map fun x => (⟨x.toArray⟩ : ByteArray)) ⟨v.toArray⟩ i = match l.findIdx? (· == v) with | some k => ((i + k : Nat) : Int) | none => -1
  | [], i => rfl
  | x :: l, i => by
    have ih := idxFrom_map v l (i + 1)
    rw [List.map_cons, Lib.idxFromS, List.findIdx?_cons]
    by_cases h : x = v
    · subst h; simp
    · have h1 : ¬ (⟨x.toArray⟩ : ByteArray) = ⟨v.toArray⟩ := fun e => h (by injection e with e; simpa using e)
      have h2 : (x == v) = false := by simpa using h
      rw [if_neg h1, ih, h2]
      cases l.findIdx? (· == v) with
      | none => rfl
      | some k => exact congrArg Int.ofNat (show i + 1 + k = i + (k + 1) by omega)

theorem index_c (v : Bytes) (w : World) :
    Calls Tryz.prog 126 #[.slice (some ⟨w.heap.size, 0, none⟩) 50 50, str v] (w.alloc wordsObj) fun e w' =>
      e = .returned (.int .i64 (match words.findIdx? (· == v) with | some k => (k : Int) | none => -1)) ∧ w.alloc wordsObj = w' := by
  refine (Tryz.slices_Index_string w.heap.size 0 50 50 (words.map fun x => ⟨x.toArray⟩) ⟨v.toArray⟩ (w.alloc wordsObj) (by decide +kernel) (by decide) ?_).mono ?_
  · intro j hj
    unfold wordsObj
    rw [cell_of_blk (cs := words.map str) (t := 9) (heap_alloc_new w _)]
    simp only [List.length_map] at hj
    simp [List.getElem?_eq_getElem hj, List.getD_eq_getElem?_getD]
  · rintro e w' ⟨rfl, rfl⟩
    refine ⟨?_, rfl⟩
    rw [List.take_of_length_le (by decide +kernel), Lib.idxOfS, idxFrom_map]
    cases words.findIdx? (· == v) <;> simp

set_option maxRecDepth 100000 in
theorem reserved_c (v : Bytes) (w : World) (hg : Glob w) :
    Calls Tryz.prog 79 #[str v] w fun e w' => e = .returned (.int .i64 (reserved v)) ∧ w.alloc wordsObj = w' := by
  have HG := Lib.hid hg
  have HI := Lib.hid (index_c v w)
  unfold reserved
  cases hk : words.findIdx? (· == v) with
  | none =>
    rw [hk] at HI
    clear hg hk
    go_enter Tryz.func79, Tryz.ntmps79
    go_wp2_with fail
    refine (fields_c _ (by kernel_rfl) _ HG.out).mono ?_
    rintro e w1 ⟨rfl, rfl⟩
    go_wp2_with fail
    refine HI.out.mono ?_
    rintro e w1 ⟨rfl, rfl⟩
    go_wp2_with fail
    go_ret
    exact ⟨rfl, rfl⟩
  | some k =>
    rw [hk] at HI
    have hk50 : k < 50 := by
      have := (List.findIdx?_eq_some_iff_findIdx_eq.1 hk).1
      simpa [words] using this
    have d : decide ((k : Int) ≥ 0) = true := by simp
    have e1 : IntKind.i64.wrap (30 + (k : Int)) = 30 + (k : Int) := IntWalk.i64_in _ ⟨by omega, by omega⟩
    clear hg hk
    go_enter Tryz.func79, Tryz.ntmps79
    go_wp2_with fail
    refine (fields_c _ (by kernel_rfl) _ HG.out).mono ?_
    rintro e w1 ⟨rfl, rfl⟩
    go_wp2_with fail
    refine HI.out.mono ?_
    rintro e w1 ⟨rfl, rfl⟩
    go_wp2_with fail
    go_ret
    exact ⟨rfl, rfl⟩
end Go.Proofs.YtkaeceedofmhbaaGreatDoor
namespace Go.Proofs.YtkaeceedofmhbaaGreatDoor
open Go.RowKit Bk

theorem index_sign (ch : UInt8) (w : World) :
    Calls Tryz.prog 133 #[.string ⟨#[123, 125, 91, 93, 40, 41, 59, 44]⟩, .int .u8 (ch.toNat : Int)] w fun e w' => e = .returned (.int .i64 (Lib.indexByte [123, 125, 91, 93, 40, 41, 59, 44] ch)) ∧ w = w' := by
  refine (Tryz.strings_IndexByte _ _ w).mono ?_
  rintro e w' ⟨rfl, rfl⟩
  have e : (ch.toNat : Int).toNat.toUInt8 = ch := by simp
  rw [e]
  exact ⟨rfl, rfl⟩

theorem single_other {ch : UInt8} (h1 : ch ≠ 124) (h2 : ch ≠ 94) (h3 : ch ≠ 38) (h4 : ch ≠ 43) (h5 : ch ≠ 45) (h6 : ch ≠ 42) (h7 : ch ≠ 47) (h8 : ch ≠ 37) :
    IntKind.i64.wrap (4 + Lib.indexByte [123, 125, 91, 93, 40, 41, 59, 44] ch) = single ch := by
  have key : ∀ n : Fin 256, n.val = 124 ∨ n.val = 94 ∨ n.val = 38 ∨ n.val = 43 ∨ n.val = 45 ∨ n.val = 42 ∨ n.val = 47 ∨ n.val = 37 ∨
      IntKind.i64.wrap (4 + Lib.indexByte [123, 125, 91, 93, 40, 41, 59, 44] (UInt8.ofNat n.val)) = single (UInt8.ofNat n.val) := by decide +kernel
  have := key ⟨ch.toNat, ch.toNat_lt⟩
  simp only [UInt8.ofNat_toNat] at this
  have n : ∀ y : UInt8, ch ≠ y → ch.toNat ≠ y.toNat := fun y h e => h (UInt8.toNat_inj.1 e)
  rcases this with h | h | h | h | h | h | h | h | h
  · exact absurd h (n 124 h1)
  · exact absurd h (n 94 h2)
  · exact absurd h (n 38 h3)
  · exact absurd h (n 43 h4)
  · exact absurd h (n 45 h5)
  · exact absurd h (n 42 h6)
  · exact absurd h (n 47 h7)
  · exact absurd h (n 37 h8)
  · exact h

theorem byte_ne {x y : UInt8} (h : x ≠ y) : ((x.toNat : Int) == (y.toNat : Int)) = false := by
  rw [beq_eq_false_iff_ne]; intro e; exact h (UInt8.toNat_inj.1 (by omega))

theorem single_c (ch : UInt8) (w : World) : Calls Tryz.prog 91 #[.int .u8 (ch.toNat : Int)] w fun e w' => e = .returned (.int .i64 (single ch)) ∧ w = w' := by
  by_cases h1 : ch = 124
  · subst h1
    go_enter Tryz.func91, Tryz.ntmps91
    go_wp2
    go_ret
    exact ⟨rfl, rfl⟩
  by_cases h2 : ch = 94
  · subst h2
    go_enter Tryz.func91, Tryz.ntmps91
    go_wp2
    go_ret
    exact ⟨rfl, rfl⟩
  by_cases h3 : ch = 38
  · subst h3
    go_enter Tryz.func91, Tryz.ntmps91
    go_wp2
    go_ret
    exact ⟨rfl, rfl⟩
  by_cases h4 : ch = 43
  · subst h4
    go_enter Tryz.func91, Tryz.ntmps91
    go_wp2
    go_ret
    exact ⟨rfl, rfl⟩
  by_cases h5 : ch = 45
  · subst h5
    go_enter Tryz.func91, Tryz.ntmps91
    go_wp2
    go_ret
    exact ⟨rfl, rfl⟩
  by_cases h6 : ch = 42
  · subst h6
    go_enter Tryz.func91, Tryz.ntmps91
    go_wp2
    go_ret
    exact ⟨rfl, rfl⟩
  by_cases h7 : ch = 47
  · subst h7
    go_enter Tryz.func91, Tryz.ntmps91
    go_wp2
    go_ret
    exact ⟨rfl, rfl⟩
  by_cases h8 : ch = 37
  · subst h8
    go_enter Tryz.func91, Tryz.ntmps91
    go_wp2
    go_ret
    exact ⟨rfl, rfl⟩
  have a1 : ((ch.toNat : Int) == 124) = false := byte_ne (y := 124) h1
  have a2 : ((ch.toNat : Int) == 94) = false := byte_ne (y := 94) h2
  have a3 : ((ch.toNat : Int) == 38) = false := byte_ne (y := 38) h3
  have a4 : ((ch.toNat : Int) == 43) = false := byte_ne (y := 43) h4
  have a5 : ((ch.toNat : Int) == 45) = false := byte_ne (y := 45) h5
  have a6 : ((ch.toNat : Int) == 42) = false := byte_ne (y := 42) h6
  have a7 : ((ch.toNat : Int) == 47) = false := byte_ne (y := 47) h7
  have a8 : ((ch.toNat : Int) == 37) = false := byte_ne (y := 37) h8
  have hv := single_other h1 h2 h3 h4 h5 h6 h7 h8
  have HI := Lib.hid (index_sign ch w)
  obtain ⟨v, hv'⟩ : ∃ v, v = Lib.indexByte [123, 125, 91, 93, 40, 41, 59, 44] ch := ⟨_, rfl⟩
  rw [← hv'] at hv HI
  clear hv' h1 h2 h3 h4 h5 h6 h7 h8
  go_enter Tryz.func91, Tryz.ntmps91
  go_wp2_with fail
  refine HI.out.mono ?_
  rintro e w1 ⟨rfl, rfl⟩
  go_wp2_with fail
  go_ret
  exact ⟨rfl, rfl⟩

section
variable {X : Nat → Prop} {c : Nat} {sv : Value} {s : Bytes} {p b : Nat} {t : Tok} {g0 g1 g2 : Nat}

/-- What the closure of sign reads: the cursor's and the lexeme's addresses, the byte behind. -/
structure TwoR (w : World) (c b : Nat) (nx : Int) (g0 g1 g2 : Nat) : Prop where
  a0 : w.cell? ⟨g0, 0, none⟩ = some (.pointer (some ⟨c, 0, none⟩))
  a1 : w.cell? ⟨g1, 0, none⟩ = some (.pointer (some ⟨b, 0, none⟩))
  a2 : w.cell? ⟨g2, 0, none⟩ = some (.int .u8 nx)
  n0 : ¬ g0 = c ∧ ¬ g0 = b ∧ ¬ g1 = c ∧ ¬ g1 = b ∧ ¬ g2 = c ∧ ¬ g2 = b

theorem two_yes (w : World) (nx dbl sgl : Int) (h : CT X w c sv s p b t) (g : TwoR w c b nx g0 g1 g2) (hl : p + 1 ≤ s.length) (hd : (dbl != 0) = true) :
    Calls Tryz.prog 90 #[.int .u8 nx, .int .i64 dbl, .int .i64 sgl, .pointer (some ⟨g1, 0, none⟩), .pointer (some ⟨g2, 0, none⟩), .pointer (some ⟨g0, 0, none⟩)] w fun e w' =>
      e = .returned (.bool true) ∧ CT X w' c sv s (p + 1) b { t with kind := dbl } ∧ Fr X w w' := by
  have HC := Lib.hid h
  have hne : ¬ c = b := h.ne
  have hne' : ¬ b = c := fun e => h.ne e.symm
  have c1 := h.cur.c1
  have f1 := h.cur.free 1
  have t0 : w.cell? ⟨b, 0, none⟩ = some (.int .i64 t.kind) := h.cell 0
  have tf := h.tfree 0
  have hlen := h.cur.slen
  have cw : IntKind.i64.wrap ((p : Int) + 1) = (p : Int) + 1 := IntWalk.i64_in _ ⟨by omega, by omega⟩
  obtain ⟨a0, a1, a2, n0, n1, n2, n3, n4, n5⟩ := g
  have m0 : ¬ c = g0 := fun e => n0 e.symm
  have m1 : ¬ b = g0 := fun e => n1 e.symm
  have m2 : ¬ c = g1 := fun e => n2 e.symm
  have m3 : ¬ b = g1 := fun e => n3 e.symm
  have m4 : ¬ c = g2 := fun e => n4 e.symm
  have m5 : ¬ b = g2 := fun e => n5 e.symm
  clear h
  go_enter Tryz.func90, Tryz.ntmps90
  go_wp2_with fail
  go_ret
  exact ⟨rfl, (((HC.out.put (t' := { t with kind := sgl }) 0 _ rfl).put (t' := { t with kind := dbl }) 0 _ rfl).step hl), (((Fr.refl X w).setCell HC.out.xb _).setCell HC.out.xb _).setCell HC.out.cur.xc _⟩

theorem two_no (w : World) (nx snd dbl sgl : Int) (h : CT X w c sv s p b t) (g : TwoR w c b nx g0 g1 g2) (hn : (nx == snd) = false) :
    Calls Tryz.prog 90 #[.int .u8 snd, .int .i64 dbl, .int .i64 sgl, .pointer (some ⟨g1, 0, none⟩), .pointer (some ⟨g2, 0, none⟩), .pointer (some ⟨g0, 0, none⟩)] w fun e w' =>
      e = .returned (.bool (sgl != 0)) ∧ CT X w' c sv s p b { t with kind := sgl } ∧ Fr X w w' := by
  have HC := Lib.hid h
  have hne : ¬ c = b := h.ne
  have hne' : ¬ b = c := fun e => h.ne e.symm
  have t0 : w.cell? ⟨b, 0, none⟩ = some (.int .i64 t.kind) := h.cell 0
  have tf := h.tfree 0
  obtain ⟨a0, a1, a2, n0, n1, n2, n3, n4, n5⟩ := g
  have m1 : ¬ b = g0 := fun e => n1 e.symm
  have m3 : ¬ b = g1 := fun e => n3 e.symm
  have m5 : ¬ b = g2 := fun e => n5 e.symm
  clear h
  go_enter Tryz.func90, Tryz.ntmps90
  go_wp2_with fail
  go_ret
  exact ⟨rfl, HC.out.put (t' := { t with kind := sgl }) 0 _ rfl, (Fr.refl X w).setCell HC.out.xb _⟩
end
end Go.Proofs.YtkaeceedofmhbaaGreatDoor
