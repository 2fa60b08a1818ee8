/-
  The reader in memory: what blocks hold, which of them are never written again (H: a block, its cells), which are another's (X), and what a step leaves as it was.
  A reader at its block: what its fields, its three growing lists and the things in them are; how that is handed on.
  syntax: how a reader is handed to and fro between functions that hold blocks of their own.
  A row of bytes of the call's own: append of one byte, and the string of it (after the words that print.sh writes for this seat).
-/
import Derived.Test.YtkaeceedofmhbaaGreatDoorProg
import Derived.WalkKit
import Derived.Deep.Draws
import Derived.Test.YtkaeceedofmhbaaGreatDoorGPKeep
import Derived.Test.YtkaeceedofmhbaaGreatDoorShelf
import Derived.Maps.AppendAt
import Derived.Lib.Hide
import Derived.Deep.AppendLies
import Derived.Lib.ConvBytes
import Derived.Laws.BytesArg
import Derived.Laws.OwnMore
import Derived.Deep.OwnRows
import Derived.Below
namespace Go.Proofs.YtkaeceedofmhbaaGreatDoor
open Go.RowKit Bk

abbrev str (s : Bytes) : Value := .string ⟨s.toArray⟩
def ints (l : List Int) : List Value := l.map (.int .i64)

/-- Blocks that are never written again: of each the type and the first cells. -/
abbrev Frozen := Nat → Option (TypeId × List Value)

def HeapOK (H : Frozen) (w : World) : Prop :=
  ∀ g t cs, H g = some (t, cs) → ∃ cur, w.heap[g]? = some (.cells cur t (0, 0)) ∧ cur.toList.take cs.length = cs

/-- A slice of such a block. -/
def FSlice (H : Frozen) (t : TypeId) (v : Value) (n : Nat) (cs : List Value) : Prop :=
  (v = .slice none 0 0 ∧ n = 0 ∧ cs = []) ∨ ∃ g cap, v = .slice (some ⟨g, 0, none⟩) n cap ∧ 0 < n ∧ n ≤ cap ∧ cap ≤ maxLen ∧ H g = some (t, cs)

def Le (H H' : Frozen) : Prop := ∀ g c, H g = some c → H' g = some c

theorem Le.refl (H : Frozen) : Le H H := fun _ _ h => h
theorem Le.trans {A B C : Frozen} (h : Le A B) (k : Le B C) : Le A C := fun g c x => k g c (h g c x)

theorem FSlice.mono {H H' : Frozen} {t : TypeId} {v : Value} {n : Nat} {cs : List Value} (h : FSlice H t v n cs) (le : Le H H') : FSlice H' t v n cs := by
  rcases h with h | ⟨g, cap, h1, h2, h3, h4, h5⟩
  · exact .inl h
  · exact .inr ⟨g, cap, h1, h2, h3, h4, le _ _ h5⟩

/-- Rows of cells, one for each thing of a list. -/
def RowsR {α : Type} (R : α → List Value → Prop) : List α → List Value → Prop
  | [], cs => cs = []
  | a :: l, cs => ∃ c cs', cs = c ++ cs' ∧ R a c ∧ RowsR R l cs'

theorem RowsR.imp {α : Type} {R S : α → List Value → Prop} (h : ∀ a c, R a c → S a c) : ∀ {l : List α} {cs : List Value}, RowsR R l cs → RowsR S l cs
  | [], _, k => k
  | _ :: _, _, ⟨c, cs', e, r, k⟩ => ⟨c, cs', e, h _ _ r, RowsR.imp h k⟩

theorem RowsR.snoc {α : Type} {R : α → List Value → Prop} {a : α} {c : List Value} (r : R a c) : ∀ {l : List α} {cs : List Value}, RowsR R l cs → RowsR R (l ++ [a]) (cs ++ c)
  | [], _, k => by subst k; exact ⟨c, [], by simp, r, rfl⟩
  | _ :: _, _, ⟨c', cs', e, r', k⟩ => ⟨c', cs' ++ c, by rw [e, List.append_assoc], r', RowsR.snoc r k⟩

theorem RowsR.length {α : Type} {R : α → List Value → Prop} {k : Nat} (hk : ∀ a c, R a c → c.length = k) : ∀ {l : List α} {cs : List Value}, RowsR R l cs → cs.length = l.length * k
  | [], _, h => by subst h; simp
  | _ :: l, _, ⟨c, cs', e, r, h⟩ => by
    have := RowsR.length hk h
    rw [e, List.length_append, hk _ _ r, this, List.length_cons, Nat.succ_mul]; omega

/-- The i-th row. -/
theorem RowsR.at {α : Type} {R : α → List Value → Prop} {k : Nat} (hk : ∀ a c, R a c → c.length = k) : ∀ {l : List α} {cs : List Value} (i : Nat) (a : α), RowsR R l cs → l[i]? = some a → ∃ c, R a c ∧ ∀ j, j < k → cs[i * k + j]? = c[j]?
  | [], _, i, a, _, h => by simp at h
  | b :: l, _, 0, a, ⟨c, cs', e, r, h⟩, ha => by
    simp at ha; subst ha
    refine ⟨c, r, fun j hj => ?_⟩
    rw [e, Nat.zero_mul, Nat.zero_add, List.getElem?_append_left (by rw [hk _ _ r]; exact hj)]
  | b :: l, _, i + 1, a, ⟨c, cs', e, r, h⟩, ha => by
    obtain ⟨c', r', g⟩ := RowsR.at hk i a h (by simpa using ha)
    refine ⟨c', r', fun j hj => ?_⟩
    rw [e, List.getElem?_append_right (by rw [hk _ _ r, Nat.succ_mul]; omega), hk _ _ r]
    have : (i + 1) * k + j - k = i * k + j := by rw [Nat.succ_mul]; omega
    rw [this]; exact g j hj

/-- The i-th row, set. -/
theorem RowsR.set {α : Type} {R : α → List Value → Prop} {k : Nat} (hk : ∀ a c, R a c → c.length = k) {a : α} {c : List Value} (r : R a c) : ∀ {l : List α} {cs : List Value} (i : Nat), i < l.length → RowsR R l cs →
    RowsR R (l.set i a) (cs.take (i * k) ++ c ++ cs.drop (i * k + k))
  | [], _, i, h, _ => by simp at h
  | b :: l, _, 0, _, ⟨c', cs', e, r', h⟩ => by
    refine ⟨c, cs', ?_, r, h⟩
    have e' := hk _ _ r'
    rw [e]; simp [← e']
  | b :: l, _, i + 1, hi, ⟨c', cs', e, r', h⟩ => by
    have g := RowsR.set hk r i (by simpa using hi) h
    have e' := hk _ _ r'
    refine ⟨c', _, ?_, r', g⟩
    rw [e]
    have h1 : (i + 1) * k = c'.length + i * k := by rw [Nat.succ_mul, e']; omega
    rw [h1, List.take_append, List.drop_append]
    have h2 : c'.length + i * k - c'.length = i * k := by omega
    have h3 : c'.length + i * k + k - c'.length = i * k + k := by omega
    rw [List.take_of_length_le (by omega), h2, h3, List.drop_eq_nil_of_le (by omega)]
    simp

def FInts (H : Frozen) (v : Value) (l : List Int) : Prop := FSlice H 3 v l.length (ints l)

def RefR (H : Frozen) (r : RefV) (cs : List Value) : Prop := ∃ v, cs = [str r.word, .int .i64 r.at_, v] ∧ FInts H v r.index

def FRefs (H : Frozen) (v : Value) (l : List RefV) : Prop := ∃ cs, RowsR (RefR H) l cs ∧ FSlice H 24 v l.length cs

/-- The slices of an item: name, from, to, over, params, e, kids, else. -/
structure ItemS where
  nv : Value
  fv : Value
  tv : Value
  ov : Value
  pv : Value
  ev : Value
  kv : Value
  lv : Value

def itemCells (x : ItemV) (s : ItemS) : List Value :=
  [.int .i64 x.kind, .int .i64 x.pos, str x.name.word, .int .i64 x.name.at_, s.nv, str x.frm.word, .int .i64 x.frm.at_, s.fv, str x.to_.word, .int .i64 x.to_.at_, s.tv, str x.over.word, .int .i64 x.over.at_, s.ov,
    s.pv, s.ev, .int .i64 x.flags, .int .i64 x.how, str x.text, s.kv, s.lv]

/-- But for params and expressions. -/
structure ItemP (H : Frozen) (x : ItemV) (s : ItemS) : Prop where
  nv : FInts H s.nv x.name.index
  fv : FInts H s.fv x.frm.index
  tv : FInts H s.tv x.to_.index
  ov : FInts H s.ov x.over.index
  kv : FInts H s.kv x.kids
  lv : FInts H s.lv x.els

def ItemR (H : Frozen) (x : ItemV) (cs : List Value) : Prop := ∃ s, cs = itemCells x s ∧ ItemP H x s ∧ FRefs H s.pv x.params ∧ FInts H s.ev x.e

def NodeR (H : Frozen) (n : NodeV) (cs : List Value) : Prop := ∃ v, cs = [.int .i64 n.op, .int .u64 n.n, str n.s, v, .int .i64 n.at_] ∧ FInts H v n.kids

theorem RefR.length {H : Frozen} (r : RefV) (cs : List Value) (h : RefR H r cs) : cs.length = 3 := by obtain ⟨v, rfl, _⟩ := h; rfl
theorem ItemR.length {H : Frozen} (x : ItemV) (cs : List Value) (h : ItemR H x cs) : cs.length = 21 := by obtain ⟨s, rfl, _⟩ := h; rfl
theorem NodeR.length {H : Frozen} (x : NodeV) (cs : List Value) (h : NodeR H x cs) : cs.length = 5 := by obtain ⟨s, rfl, _⟩ := h; rfl

theorem FInts.mono {H H' : Frozen} {v : Value} {l : List Int} (h : FInts H v l) (le : Le H H') : FInts H' v l := FSlice.mono h le
theorem RefR.mono {H H' : Frozen} (le : Le H H') {r : RefV} {cs : List Value} (h : RefR H r cs) : RefR H' r cs := by obtain ⟨v, e, h⟩ := h; exact ⟨v, e, h.mono le⟩
theorem FRefs.mono {H H' : Frozen} {v : Value} {l : List RefV} (h : FRefs H v l) (le : Le H H') : FRefs H' v l := by
  obtain ⟨cs, h, k⟩ := h; exact ⟨cs, h.imp (fun _ _ => RefR.mono le), k.mono le⟩
theorem ItemP.mono {H H' : Frozen} {x : ItemV} {s : ItemS} (h : ItemP H x s) (le : Le H H') : ItemP H' x s :=
  ⟨h.nv.mono le, h.fv.mono le, h.tv.mono le, h.ov.mono le, h.kv.mono le, h.lv.mono le⟩
theorem ItemR.mono {H H' : Frozen} (le : Le H H') {x : ItemV} {cs : List Value} (h : ItemR H x cs) : ItemR H' x cs := by
  obtain ⟨s, e, h1, h2, h3⟩ := h; exact ⟨s, e, h1.mono le, h2.mono le, h3.mono le⟩
theorem NodeR.mono {H H' : Frozen} (le : Le H H') {x : NodeV} {cs : List Value} (h : NodeR H x cs) : NodeR H' x cs := by
  obtain ⟨s, e, h⟩ := h; exact ⟨s, e, h.mono le⟩

/-- The blocks of X are as they were; nothing else of the world has turned but what is new. -/
structure Fr (X : Nat → Prop) (w w' : World) : Prop where
  os : w'.os = w.os
  tape : w'.tape = w.tape
  output : w'.output = w.output
  size : w.heap.size ≤ w'.heap.size
  block : ∀ k, X k → w'.heap[k]? = w.heap[k]?

theorem Fr.refl (X : Nat → Prop) (w : World) : Fr X w w := ⟨rfl, rfl, rfl, Nat.le_refl _, fun _ _ => rfl⟩
theorem Fr.trans {X : Nat → Prop} {a b c : World} (h : Fr X a b) (k : Fr X b c) : Fr X a c :=
  ⟨k.os.trans h.os, k.tape.trans h.tape, k.output.trans h.output, Nat.le_trans h.size k.size, fun i hi => (k.block i hi).trans (h.block i hi)⟩
theorem Fr.mono {X Y : Nat → Prop} {a b : World} (h : Fr X a b) (k : ∀ i, Y i → X i) : Fr Y a b := ⟨h.os, h.tape, h.output, h.size, fun i hi => h.block i (k i hi)⟩
theorem Fr.drew {X : Nat → Prop} {a w : World} (h : Fr X a w) : Fr X a w.drew := ⟨h.os, h.tape, h.output, h.size, h.block⟩
theorem Fr.drewN {X : Nat → Prop} {a w : World} (h : Fr X a w) (n : Nat) : Fr X a (w.drewN n) := ⟨h.os, h.tape, h.output, h.size, h.block⟩
theorem Fr.alloc {X : Nat → Prop} {a w : World} (h : Fr X a w) (hX : ∀ k, X k → k < w.heap.size) (o : Obj) : Fr X a (w.alloc o) :=
  h.trans ⟨rfl, rfl, rfl, by simp, fun k hk => Below.heap_alloc _ _ _ (hX k hk)⟩
theorem Fr.setCell {X : Nat → Prop} {a w : World} (h : Fr X a w) {p : Addr} (hp : ¬ X p.block) (u : Value) : Fr X a (w.setCell p u) :=
  h.trans ⟨rfl, rfl, rfl, by simp [World.setCell], fun k hk => Below.heap_setCell _ _ _ _ (fun e => hp (e ▸ hk))⟩
theorem Fr.grown {X : Nat → Prop} {a w w' : World} {row : Option Nat} (h : Fr X a w) (hg : w.grownBy w' row) (hX : ∀ k, X k → k < w.heap.size) (hr : ∀ k, row = some k → ¬ X k) : Fr X a w' :=
  h.trans ⟨hg.os, hg.tape, hg.output, hg.size, fun k hk => hg.block k (hX k hk) (fun e => hr k e.symm hk)⟩
theorem Fr.below {X : Nat → Prop} {B : Nat} {w w' : World} (h : Fr X w w') (hX : ∀ k, k < B → X k) : Below B w w' := ⟨h.os, h.tape, h.output, h.size, fun k hk => h.block k (hX k hk)⟩
theorem Fr.cell {X : Nat → Prop} {w w' : World} (h : Fr X w w') {p : Addr} (hp : X p.block) : w'.cell? p = w.cell? p := World.cell?_of_block (w := w) (h.block p.block hp)
theorem Fr.frozen {X : Nat → Prop} {w w' : World} (h : Fr X w w') {p : Addr} (hp : X p.block) : w'.frozen? p = w.frozen? p := World.frozen?_of_block (w := w) (h.block p.block hp)

end Go.Proofs.YtkaeceedofmhbaaGreatDoor
namespace Go.Proofs.YtkaeceedofmhbaaGreatDoor
open Go.RowKit Bk

/-- The package-level variables that are read: what they hold. -/
structure Glob (w : World) : Prop where
  classes : ∀ i, i < 128 → w.cell? ⟨1, i, none⟩ = some (.int .u8 (classTab.getD i 0 : Nat))
  space : Lib.TabIs Tryz.prog w "strings.asciiSpace" .u8 Lib.asciiSpaceTab
  syn : ∃ a, w.cell? ⟨5, 0, none⟩ = some (.iface 216 (.pointer (some a)))
  rng : ∃ a, w.cell? ⟨6, 0, none⟩ = some (.iface 216 (.pointer (some a)))

/-- Blocks below this one hold package-level variables. -/
def low : Nat := 11

theorem Glob.keep {w w' : World} (h : Glob w) (hk : ∀ k, k < low → w'.heap[k]? = w.heap[k]?) : Glob w' := by
  have c : ∀ k i, k < low → w'.cell? ⟨k, i, none⟩ = w.cell? ⟨k, i, none⟩ := fun k i hl => World.cell?_of_block (w := w) (a := ⟨k, i, none⟩) (hk k hl)
  refine ⟨fun i hi => (c _ i (by decide)).trans (h.classes i hi), ?_, ?_, ?_⟩
  · have e : Tryz.prog.globalNamed "strings.asciiSpace" = some 3 := by kernel_rfl
    have s := h.space
    unfold Lib.TabIs World.var? at s ⊢
    rw [e] at s ⊢
    simp only [Option.bind_some] at s ⊢
    rw [hk 3 (by decide)]
    exact s
  · obtain ⟨a, h⟩ := h.syn; exact ⟨a, (c _ 0 (by decide)).trans h⟩
  · obtain ⟨a, h⟩ := h.rng; exact ⟨a, (c _ 0 (by decide)).trans h⟩

/-- A text that lies in memory, in a block of X. -/
def Txt (X : Nat → Prop) (w : World) (v : Value) (s : Bytes) : Prop :=
  ∃ a cap, v = .slice a s.length cap ∧ s.length ≤ cap ∧ cap ≤ maxLen ∧
    (s ≠ [] → ∃ b off, a = some ⟨b, off, none⟩ ∧ X b ∧ ∀ i (h : i < s.length), w.cell? ⟨b, off + i, none⟩ = some (.int .u8 (s[i].toNat : Int)))

structure RdS where
  wv : Value
  iv : Value
  nv : Value
  tv : Value
  top : Value

def rdCells (sv : Value) (st : St) (v : RdS) : List Value :=
  [sv, .int .i64 st.at_, .int .i64 st.to_, .int .i64 st.tok.kind, .int .u64 st.tok.n, str st.tok.s, .int .i64 st.tok.at_, .int .i64 st.tok.end_, .int .i64 st.bad, v.wv, .bool st.name, .bool st.num, .int .i64 st.opened,
    .int .i64 st.pos, str st.tname.word, .int .i64 st.tname.at_, v.tv, v.iv, v.nv, v.top]

structure RdP (X : Nat → Prop) (H : Frozen) (w : World) (r : Nat) (sv : Value) (src : Bytes) (st : St) (v : RdS) (ic nc : List Value) : Prop where
  blk : w.heap[r]? = some (.cells (rdCells sv st v).toArray 64 (0, 0))
  want : w.ownsRow 0 3 1 v.wv st.want.length (ints st.want)
  items : w.ownsRow 0 40 21 v.iv st.items.length ic
  irel : RowsR (ItemR H) st.items ic
  nodes : w.ownsRow 0 37 5 v.nv st.nodes.length nc
  nrel : RowsR (NodeR H) st.nodes nc
  trel : FInts H v.tv st.tname.index
  xr : ¬ X r
  xw : ∀ k, v.wv.ownBlock = some k → ¬ X k
  xi : ∀ k, v.iv.ownBlock = some k → ¬ X k
  xn : ∀ k, v.nv.ownBlock = some k → ¬ X k
  hr : H r = none
  hw : ∀ k, v.wv.ownBlock = some k → H k = none
  hi : ∀ k, v.iv.ownBlock = some k → H k = none
  hn : ∀ k, v.nv.ownBlock = some k → H k = none
  heap : HeapOK H w
  xlt : ∀ k, X k → k < w.heap.size
  xh : ∀ k, X k → H k = none
  txt : Txt X w sv src
  slen : src.length ≤ 1048576
  ato : st.at_ ≤ st.to_
  tol : st.to_ ≤ src.length
  badl : st.bad ≤ src.length
  openl : st.opened ≤ 32
  glob : Glob w
  gx : ∀ k, k < low → X k

def RdOK (X : Nat → Prop) (H : Frozen) (w : World) (r : Nat) (sv : Value) (src : Bytes) (st : St) : Prop := ∃ v ic nc, RdP X H w r sv src st v ic nc

theorem HeapOK.lt {H : Frozen} {w : World} (h : HeapOK H w) {k : Nat} {c : TypeId × List Value} (hk : H k = some c) : k < w.heap.size := by
  obtain ⟨cur, h, _⟩ := h k c.1 c.2 hk; exact lt_of_block h

theorem cell_of_blk {w : World} {r t : Nat} {cs : List Value} (h : w.heap[r]? = some (.cells cs.toArray t (0, 0))) (i : Nat) : w.cell? ⟨r, i, none⟩ = cs[i]? := by simp [World.cell?, h]
theorem free_of_blk {w : World} {r t : Nat} {cs : Array Value} (h : w.heap[r]? = some (.cells cs t (0, 0))) (i : Nat) : w.frozen? ⟨r, i, none⟩ = false := by simp [World.frozen?, h]
theorem blk_set {w : World} {r t : Nat} {cs : List Value} (h : w.heap[r]? = some (.cells cs.toArray t (0, 0))) (i : Nat) (u : Value) : (w.setCell ⟨r, i, none⟩ u).heap[r]? = some (.cells (cs.set i u).toArray t (0, 0)) := by
  have hlt := lt_of_block h
  have h' : w.heap[r] = .cells cs.toArray t (0, 0) := by simpa [Array.getElem?_eq_getElem hlt] using h
  show (w.heap.modify r _)[r]? = _
  rw [Array.getElem?_eq_getElem (by simpa using hlt), Array.getElem_modify_self, h']
  simp

/-- The type of the block of a row that is owned. -/
theorem ownsRow_type {w : World} {base e size : Nat} {v : Value} {n : Nat} {xs : List Value} (h : w.ownsRow base e size v n xs) {k : Nat} (hk : v.ownBlock = some k) : ∃ cur, w.heap[k]? = some (.cells cur e (0, 0)) := by
  rcases h.2 with ⟨rfl, _⟩ | ⟨g, cap, cur, rfl, _, hg, _⟩
  · simp [Value.ownBlock] at hk
  · simp [Value.ownBlock] at hk; subst hk; exact ⟨cur, hg⟩

theorem ownsRow_block {w w' : World} {base e size : Nat} {v : Value} {n : Nat} {xs : List Value} (h : w.ownsRow base e size v n xs) (hk : ∀ k, v.ownBlock = some k → w'.heap[k]? = w.heap[k]?) : w'.ownsRow base e size v n xs := by
  refine ⟨h.1, ?_⟩
  rcases h.2 with h2 | ⟨g, cap, cur, rfl, hb, hg, r⟩
  · exact .inl h2
  · exact .inr ⟨g, cap, cur, rfl, hb, by rw [hk g rfl]; exact hg, r⟩

theorem Txt.keep {X : Nat → Prop} {w w' : World} {v : Value} {s : Bytes} (h : Txt X w v s) (hk : ∀ k, X k → w'.heap[k]? = w.heap[k]?) : Txt X w' v s := by
  obtain ⟨a, cap, e, h1, h2, h3⟩ := h
  refine ⟨a, cap, e, h1, h2, fun hs => ?_⟩
  obtain ⟨b, off, ha, hx, hc⟩ := h3 hs
  exact ⟨b, off, ha, hx, fun i hi => (World.cell?_of_block (w := w) (hk b hx)).trans (hc i hi)⟩

theorem HeapOK.keep {H : Frozen} {w w' : World} (h : HeapOK H w) (hk : ∀ k c, H k = some c → w'.heap[k]? = w.heap[k]?) : HeapOK H w' := by
  intro g t cs hg
  obtain ⟨cur, h1, h2⟩ := h g t cs hg
  exact ⟨cur, by rw [hk g _ hg]; exact h1, h2⟩

section
variable {X : Nat → Prop} {H : Frozen} {w : World} {r : Nat} {sv : Value} {src : Bytes} {st : St} {v : RdS} {ic nc : List Value}

theorem RdP.r_ne_w (h : RdP X H w r sv src st v ic nc) : v.wv.ownBlock ≠ some r := fun e => by
  obtain ⟨cur, hc⟩ := ownsRow_type h.want e; rw [h.blk] at hc; cases hc
theorem RdP.r_ne_i (h : RdP X H w r sv src st v ic nc) : v.iv.ownBlock ≠ some r := fun e => by
  obtain ⟨cur, hc⟩ := ownsRow_type h.items e; rw [h.blk] at hc; cases hc
theorem RdP.r_ne_n (h : RdP X H w r sv src st v ic nc) : v.nv.ownBlock ≠ some r := fun e => by
  obtain ⟨cur, hc⟩ := ownsRow_type h.nodes e; rw [h.blk] at hc; cases hc
theorem RdP.w_ne_i (h : RdP X H w r sv src st v ic nc) {k : Nat} (a : v.wv.ownBlock = some k) : v.iv.ownBlock ≠ some k := fun e => by
  obtain ⟨cur, hc⟩ := ownsRow_type h.items e; obtain ⟨cur', hc'⟩ := ownsRow_type h.want a; rw [hc] at hc'; cases hc'
theorem RdP.w_ne_n (h : RdP X H w r sv src st v ic nc) {k : Nat} (a : v.wv.ownBlock = some k) : v.nv.ownBlock ≠ some k := fun e => by
  obtain ⟨cur, hc⟩ := ownsRow_type h.nodes e; obtain ⟨cur', hc'⟩ := ownsRow_type h.want a; rw [hc] at hc'; cases hc'
theorem RdP.i_ne_n (h : RdP X H w r sv src st v ic nc) {k : Nat} (a : v.iv.ownBlock = some k) : v.nv.ownBlock ≠ some k := fun e => by
  obtain ⟨cur, hc⟩ := ownsRow_type h.nodes e; obtain ⟨cur', hc'⟩ := ownsRow_type h.items a; rw [hc] at hc'; cases hc'
theorem RdP.lt (h : RdP X H w r sv src st v ic nc) : r < w.heap.size := lt_of_block h.blk

/-- All blocks but the reader's own four are as they were. -/
def Beside (w w' : World) (r : Nat) (v : RdS) : Prop :=
  ∀ k, k < w.heap.size → k ≠ r → v.wv.ownBlock ≠ some k → v.iv.ownBlock ≠ some k → v.nv.ownBlock ≠ some k → w'.heap[k]? = w.heap[k]?

theorem RdP.beside_x (h : RdP X H w r sv src st v ic nc) {w' : World} (b : Beside w w' r v) : ∀ k, X k → w'.heap[k]? = w.heap[k]? := fun k hk =>
  b k (h.xlt k hk) (fun e => h.xr (e ▸ hk)) (fun e => h.xw k e hk) (fun e => h.xi k e hk) (fun e => h.xn k e hk)

theorem RdP.beside_h (h : RdP X H w r sv src st v ic nc) {w' : World} (b : Beside w w' r v) : ∀ k c, H k = some c → w'.heap[k]? = w.heap[k]? := fun k c hk =>
  b k (h.heap.lt hk) (fun e => by rw [e, h.hr] at hk; cases hk) (fun e => by rw [h.hw k e] at hk; cases hk) (fun e => by rw [h.hi k e] at hk; cases hk) (fun e => by rw [h.hn k e] at hk; cases hk)

/-- The reader with its fields written anew, its lists as they were. -/
theorem RdP.fields (h : RdP X H w r sv src st v ic nc) {w' : World} {st' : St} {v' : RdS} (hs : w.heap.size ≤ w'.heap.size)
    (b : ∀ k, k < w.heap.size → k ≠ r → w'.heap[k]? = w.heap[k]?)
    (blk : w'.heap[r]? = some (.cells (rdCells sv st' v').toArray 64 (0, 0)))
    (want : w'.ownsRow 0 3 1 v'.wv st'.want.length (ints st'.want)) (ew : v'.wv.ownBlock = v.wv.ownBlock)
    (ei : v'.iv = v.iv) (en : v'.nv = v.nv) (ti : st'.items = st.items) (tn : st'.nodes = st.nodes) (tr : FInts H v'.tv st'.tname.index)
    (ato : st'.at_ ≤ st'.to_) (tol : st'.to_ ≤ src.length) (badl : st'.bad ≤ src.length) (openl : st'.opened ≤ 32) : RdP X H w' r sv src st' v' ic nc := by
  have bs : Beside w w' r v := fun k hk h1 _ _ _ => b k hk h1
  refine ⟨blk, want, ?_, ?_, ?_, ?_, tr, h.xr, ?_, ?_, ?_, h.hr, ?_, ?_, ?_, h.heap.keep (h.beside_h bs), fun k hk => Nat.lt_of_lt_of_le (h.xlt k hk) hs, h.xh, h.txt.keep (h.beside_x bs), h.slen, ato, tol, badl, openl, h.glob.keep fun k hk => h.beside_x bs k (h.gx k hk), h.gx⟩
  · rw [ei, ti]; exact ownsRow_block h.items fun k hk => b k ((h.items.lt k hk).2) (fun e => h.r_ne_i (e ▸ hk))
  · rw [ti]; exact h.irel
  · rw [en, tn]; exact ownsRow_block h.nodes fun k hk => b k ((h.nodes.lt k hk).2) (fun e => h.r_ne_n (e ▸ hk))
  · rw [tn]; exact h.nrel
  · rw [ew]; exact h.xw
  · rw [ei]; exact h.xi
  · rw [en]; exact h.xn
  · rw [ew]; exact h.hw
  · rw [ei]; exact h.hi
  · rw [en]; exact h.hn

/-- Other blocks turn, or are new; none is the reader's, none is of X or H. -/
theorem RdP.world (h : RdP X H w r sv src st v ic nc) {w' : World} (hs : w.heap.size ≤ w'.heap.size) (b : ∀ k, k < w.heap.size → w'.heap[k]? = w.heap[k]?) : RdP X H w' r sv src st v ic nc :=
  ⟨by rw [b r h.lt]; exact h.blk, ownsRow_block h.want fun k hk => b k (h.want.lt k hk).2, ownsRow_block h.items fun k hk => b k (h.items.lt k hk).2, h.irel, ownsRow_block h.nodes fun k hk => b k (h.nodes.lt k hk).2, h.nrel, h.trel,
    h.xr, h.xw, h.xi, h.xn, h.hr, h.hw, h.hi, h.hn, h.heap.keep fun k c hk => b k (h.heap.lt hk), fun k hk => Nat.lt_of_lt_of_le (h.xlt k hk) hs, h.xh, h.txt.keep fun k hk => b k (h.xlt k hk), h.slen, h.ato, h.tol, h.badl, h.openl, h.glob.keep fun k hk => b k (h.xlt k (h.gx k hk)), h.gx⟩
end

theorem RdOK.alloc {X : Nat → Prop} {H : Frozen} {w : World} {r : Nat} {sv : Value} {src : Bytes} {st : St} (h : RdOK X H w r sv src st) (o : Obj) : RdOK X H (w.alloc o) r sv src st := by
  obtain ⟨v, ic, nc, h⟩ := h
  exact ⟨v, ic, nc, h.world (by simp) fun k hk => Below.heap_alloc _ _ _ hk⟩
theorem RdOK.drew {X : Nat → Prop} {H : Frozen} {w : World} {r : Nat} {sv : Value} {src : Bytes} {st : St} (h : RdOK X H w r sv src st) : RdOK X H w.drew r sv src st := by
  obtain ⟨v, ic, nc, h⟩ := h
  exact ⟨v, ic, nc, h.world (Nat.le_refl _) fun k _ => rfl⟩
theorem RdOK.drewN {X : Nat → Prop} {H : Frozen} {w : World} {r : Nat} {sv : Value} {src : Bytes} {st : St} (h : RdOK X H w r sv src st) (n : Nat) : RdOK X H (w.drewN n) r sv src st := by
  obtain ⟨v, ic, nc, h⟩ := h
  exact ⟨v, ic, nc, h.world (Nat.le_refl _) fun k _ => rfl⟩

theorem heap_alloc_size (w : World) (o : Obj) : (w.alloc o).heap.size = w.heap.size + 1 := by simp

/-- A block that stood ahead of an allocation and an append to a row that it is not. -/
theorem grown_block {w w1 : World} {o : Obj} {row : Option Nat} (hg : (w.alloc o).grownBy w1 row) {k : Nat} (hk : k < w.heap.size) (hr : row ≠ some k) : w1.heap[k]? = w.heap[k]? :=
  (hg.block k (by simp; omega) (fun e => hr e.symm)).trans (Below.heap_alloc w o k hk)

/-- What an append hands back when it has added something is a slice that shows. -/
theorem own_shows {w : World} {base e size n : Nat} {v : Value} {xs : List Value} (h : w.ownsRow base e size v n xs) (hn : 0 < n) : ∃ g cap, v = .slice (some ⟨g, 0, none⟩) n cap := by
  rcases h.2 with ⟨_, h⟩ | ⟨g, cap, _, h, _⟩
  · omega
  · exact ⟨g, cap, h⟩

section
variable {X : Nat → Prop} {H : Frozen} {w w1 : World} {r : Nat} {sv : Value} {src : Bytes} {st : St} {v : RdS} {ic nc : List Value} {o : Obj} {v' : Value}

theorem RdP.want_append {k : Int} (h : RdP X H w r sv src st v ic nc) (hg : (w.alloc o).grownBy w1 v.wv.ownBlock) (ho : w1.ownsRow 0 3 1 v' (st.want.length + 1) (ints st.want ++ [.int .i64 k]))
    (hat : v'.ownBlock = v.wv.ownBlock ∨ v'.ownBlock = some (w.heap.size + 1)) :
    RdP X H (w1.setCell ⟨r, 9, none⟩ v') r sv src { st with want := st.want ++ [k] } { v with wv := v' } ic nc ∧ Fr X w (w1.setCell ⟨r, 9, none⟩ v') := by
  have hlt := h.lt
  have hs : w.heap.size ≤ (w1.setCell ⟨r, 9, none⟩ v').heap.size := by have := hg.size; simp [World.setCell] at this ⊢; omega
  have hb : ∀ k, k < w.heap.size → k ≠ r → v.wv.ownBlock ≠ some k → (w1.setCell ⟨r, 9, none⟩ v').heap[k]? = w.heap[k]? := fun k hk h1 h2 =>
    (Below.heap_setCell _ _ _ _ h1).trans (grown_block hg hk h2)
  have bs : Beside w (w1.setCell ⟨r, 9, none⟩ v') r v := fun k hk h1 h2 _ _ => hb k hk h1 h2
  have hr1 : w1.heap[r]? = w.heap[r]? := grown_block hg hlt h.r_ne_w
  have hnr : v'.ownBlock ≠ some r := by
    rcases hat with e | e
    · rw [e]; exact h.r_ne_w
    · rw [e]; simp; omega
  have new : ∀ k, v'.ownBlock = some k → ¬ X k ∧ H k = none := by
    intro k hk
    rcases hat with e | e
    · rw [e] at hk; exact ⟨h.xw k hk, h.hw k hk⟩
    · rw [e] at hk; simp at hk
      refine ⟨fun hx => ?_, ?_⟩
      · have := h.xlt k hx; omega
      · cases hc : H k with
        | none => rfl
        | some c => have := h.heap.lt hc; omega
  refine ⟨⟨?_, ?_, ?_, h.irel, ?_, h.nrel, h.trel, h.xr, fun k hk => (new k hk).1, h.xi, h.xn, h.hr, fun k hk => (new k hk).2, h.hi, h.hn, h.heap.keep (h.beside_h bs), fun k hk => Nat.lt_of_lt_of_le (h.xlt k hk) hs, h.xh, h.txt.keep (h.beside_x bs), h.slen, h.ato, h.tol, h.badl, h.openl, h.glob.keep fun k hk => h.beside_x bs k (h.gx k hk), h.gx⟩, ?_⟩
  · have := blk_set (w := w1) (by rw [hr1]; exact h.blk) 9 v'
    simpa [rdCells] using this
  · have e : ints st.want ++ [.int .i64 k] = ints (st.want ++ [k]) := by simp [ints]
    rw [← e]
    simpa using ownsRow_setCell_other ho (a := ⟨r, 9, none⟩) hnr v'
  · exact ownsRow_block h.items fun k hk => hb k (h.items.lt k hk).2 (fun e => h.r_ne_i (e ▸ hk)) (fun e => h.w_ne_i e hk)
  · exact ownsRow_block h.nodes fun k hk => hb k (h.nodes.lt k hk).2 (fun e => h.r_ne_n (e ▸ hk)) (fun e => h.w_ne_n e hk)
  · exact ⟨hg.os, hg.tape, hg.output, hs, h.beside_x bs⟩
end

/-- A halt, as a panic's value. -/
def haltV (p : Nat) (why : Int) : Value := .iface 60 (.agg #[.int .i64 p, .int .i64 why])

/-- What a step of the reader ends in: the state and value that the plain step tells, or its halt. -/
def Post {α : Type} (X : Nat → Prop) (w : World) (res : Res α) (good : α → St → Value → World → Prop) (e : Ending) (w' : World) : Prop :=
  match res with
  | .ok a st => ∃ v, e = .returned v ∧ good a st v w' ∧ Fr X w w'
  | .bad (.stop p why) => e = .panicked [{ v := haltV p why, recovered := false }] ∧ Fr X w w'
  | .bad .fuel => False

theorem Post.elim {α : Type} {X : Nat → Prop} {w w' : World} {res : Res α} {good : α → St → Value → World → Prop} {e : Ending} (h : Post X w res good e w') :
    (∃ a st v, res = .ok a st ∧ e = .returned v ∧ good a st v w' ∧ Fr X w w') ∨ (∃ p why, res = .bad (.stop p why) ∧ e = .panicked [{ v := haltV p why, recovered := false }] ∧ Fr X w w') := by
  unfold Post at h
  split at h
  · obtain ⟨v, h⟩ := h; exact .inl ⟨_, _, v, rfl, h⟩
  · exact .inr ⟨_, _, rfl, h⟩
  · exact h.elim

theorem Post.ok {α : Type} {X : Nat → Prop} {w w' : World} {res : Res α} {good : α → St → Value → World → Prop} {a : α} {st : St} {v : Value} (hr : res = .ok a st) (hg : good a st v w') (hf : Fr X w w') : Post X w res good (.returned v) w' := by
  subst hr; exact ⟨v, rfl, hg, hf⟩
theorem Post.stop {α : Type} {X : Nat → Prop} {w w' : World} {res : Res α} {good : α → St → Value → World → Prop} {p : Nat} {why : Int} (hr : res = .bad (.stop p why)) (hf : Fr X w w') : Post X w res good (.panicked [{ v := haltV p why, recovered := false }]) w' := by
  subst hr; exact ⟨rfl, hf⟩

theorem bind_ok {α β : Type} {m : M α} {f : α → M β} {st st' : St} {a : α} (h : m st = .ok a st') : (m >>= f) st = f a st' := by show M.bind m f st = _; simp [M.bind, h]
theorem bind_bad {α β : Type} {m : M α} {f : α → M β} {st : St} {e : Bk.Halt} (h : m st = .bad e) : (m >>= f) st = .bad e := by show M.bind m f st = _; simp [M.bind, h]
theorem pure_eq {α : Type} (a : α) (st : St) : (pure a : M α) st = .ok a st := rfl

end Go.Proofs.YtkaeceedofmhbaaGreatDoor
namespace Go.Proofs.YtkaeceedofmhbaaGreatDoor
open Go.RowKit Bk

theorem Txt.mono {X Y : Nat → Prop} {w : World} {v : Value} {s : Bytes} (h : Txt X w v s) (hxy : ∀ k, X k → Y k) : Txt Y w v s := by
  obtain ⟨a, cap, e, h1, h2, h3⟩ := h
  refine ⟨a, cap, e, h1, h2, fun hs => ?_⟩
  obtain ⟨b, off, ha, hx, hc⟩ := h3 hs
  exact ⟨b, off, ha, hxy b hx, hc⟩

def Frozen.put (H : Frozen) (g : Nat) (t : TypeId) (cs : List Value) : Frozen := fun k => if k = g then some (t, cs) else H k
theorem Frozen.put_self (H : Frozen) (g : Nat) (t : TypeId) (cs : List Value) : H.put g t cs g = some (t, cs) := if_pos rfl
theorem Frozen.put_other (H : Frozen) {g k : Nat} (t : TypeId) (cs : List Value) (h : k ≠ g) : H.put g t cs k = H k := if_neg h
theorem Frozen.le_put {H : Frozen} {g : Nat} (t : TypeId) (cs : List Value) (h : H g = none) : Le H (H.put g t cs) := fun k c hk => by
  have : k ≠ g := by rintro rfl; rw [h] at hk; cases hk
  rw [Frozen.put_other H t cs this]; exact hk

section
variable {X X' Y : Nat → Prop} {H : Frozen} {w w1 : World} {r : Nat} {sv : Value} {src : Bytes} {st : St} {v : RdS} {ic nc : List Value}

/-- What lies between X and X' is the caller's own: it may turn and grow. -/
theorem RdP.local (h : RdP X' H w r sv src st v ic nc) (ht : Txt X w sv src) (gx : ∀ k, k < low → X k) (hX : ∀ k, X k → X' k)
    (hb : ∀ k, k < w.heap.size → (X k ∨ ¬ X' k) → w1.heap[k]? = w.heap[k]?) (hXY : ∀ k, X k → Y k) (hy : ∀ k, Y k → X' k ∨ w.heap.size ≤ k) (hylt : ∀ k, Y k → k < w1.heap.size) : RdP Y H w1 r sv src st v ic nc := by
  have no : ∀ k, k < w.heap.size → ¬ X' k → ¬ Y k := fun k hk hn hyk => by rcases hy k hyk with h1 | h1; exact hn h1; omega
  have hh : ∀ k c, H k = some c → ¬ X' k := fun k c hk hx => by rw [h.xh k hx] at hk; cases hk
  have hxl : ∀ k, X k → w1.heap[k]? = w.heap[k]? := fun k hk => hb k (h.xlt k (hX k hk)) (.inl hk)
  refine ⟨by rw [hb r h.lt (.inr h.xr)]; exact h.blk, ownsRow_block h.want fun k hk => hb k (h.want.lt k hk).2 (.inr (h.xw k hk)), ownsRow_block h.items fun k hk => hb k (h.items.lt k hk).2 (.inr (h.xi k hk)), h.irel,
    ownsRow_block h.nodes fun k hk => hb k (h.nodes.lt k hk).2 (.inr (h.xn k hk)), h.nrel, h.trel, no r h.lt h.xr, fun k hk => no k (h.want.lt k hk).2 (h.xw k hk), fun k hk => no k (h.items.lt k hk).2 (h.xi k hk), fun k hk => no k (h.nodes.lt k hk).2 (h.xn k hk),
    h.hr, h.hw, h.hi, h.hn, h.heap.keep fun k c hk => hb k (h.heap.lt hk) (.inr (hh k c hk)), hylt, fun k hk => ?_, (ht.keep hxl).mono hXY, h.slen, h.ato, h.tol, h.badl, h.openl, h.glob.keep fun k hk => hxl k (gx k hk), fun k hk => hXY k (gx k hk)⟩
  rcases hy k hk with h1 | h1
  · exact h.xh k h1
  · cases hc : H k with
    | none => rfl
    | some c => have := h.heap.lt hc; omega
theorem RdOK.local (h : RdOK X' H w r sv src st) (ht : Txt X w sv src) (gx : ∀ k, k < low → X k) (hX : ∀ k, X k → X' k)
    (hb : ∀ k, k < w.heap.size → (X k ∨ ¬ X' k) → w1.heap[k]? = w.heap[k]?) (hXY : ∀ k, X k → Y k) (hy : ∀ k, Y k → X' k ∨ w.heap.size ≤ k) (hylt : ∀ k, Y k → k < w1.heap.size) : RdOK Y H w1 r sv src st := by
  obtain ⟨v, ic, nc, h⟩ := h
  exact ⟨v, ic, nc, h.local ht gx hX hb hXY hy hylt⟩

theorem RdOK.gx (h : RdOK X H w r sv src st) : ∀ k, k < low → X k := by obtain ⟨v, ic, nc, h⟩ := h; exact h.gx
theorem RdOK.txt (h : RdOK X H w r sv src st) : Txt X w sv src := by obtain ⟨v, ic, nc, h⟩ := h; exact h.txt
theorem RdOK.xlt (h : RdOK X H w r sv src st) : ∀ k, X k → k < w.heap.size := by obtain ⟨v, ic, nc, h⟩ := h; exact h.xlt
theorem RdOK.glob (h : RdOK X H w r sv src st) : Glob w := by obtain ⟨v, ic, nc, h⟩ := h; exact h.glob
theorem RdOK.slen (h : RdOK X H w r sv src st) : src.length ≤ 1048576 := by obtain ⟨v, ic, nc, h⟩ := h; exact h.slen
theorem RdOK.lt (h : RdOK X H w r sv src st) : r < w.heap.size := by obtain ⟨v, ic, nc, h⟩ := h; exact h.lt
theorem RdOK.xr (h : RdOK X H w r sv src st) : ¬ X r := by obtain ⟨v, ic, nc, h⟩ := h; exact h.xr
theorem RdOK.xh (h : RdOK X H w r sv src st) : ∀ k, X k → H k = none := by obtain ⟨v, ic, nc, h⟩ := h; exact h.xh
theorem RdOK.heap (h : RdOK X H w r sv src st) : HeapOK H w := by obtain ⟨v, ic, nc, h⟩ := h; exact h.heap
theorem RdOK.ato (h : RdOK X H w r sv src st) : st.at_ ≤ st.to_ := by obtain ⟨v, ic, nc, h⟩ := h; exact h.ato
theorem RdOK.tol (h : RdOK X H w r sv src st) : st.to_ ≤ src.length := by obtain ⟨v, ic, nc, h⟩ := h; exact h.tol
theorem RdOK.badl (h : RdOK X H w r sv src st) : st.bad ≤ src.length := by obtain ⟨v, ic, nc, h⟩ := h; exact h.badl
theorem RdOK.openl (h : RdOK X H w r sv src st) : st.opened ≤ 32 := by obtain ⟨v, ic, nc, h⟩ := h; exact h.openl

/-- The caller's own blocks are given up. -/
theorem RdOK.back (h : RdOK X' H w r sv src st) (ht : Txt X w sv src) (gx : ∀ k, k < low → X k) (hX : ∀ k, X k → X' k) : RdOK X H w r sv src st :=
  h.local ht gx hX (fun _ _ _ => rfl) (fun _ h => h) (fun k hk => .inl (hX k hk)) (fun k hk => h.xlt k (hX k hk))

/-- A row of the caller's own is never written again. -/
theorem RdOK.freeze (h : RdOK X' H w r sv src st) (ht : Txt X w sv src) (gx : ∀ k, k < low → X k) (hX : ∀ k, X k → X' k) {g : Nat} (hg : X' g) (hng : ¬ X g) {t : TypeId} {cur : Array Value} {cs : List Value}
    (hc : w.heap[g]? = some (.cells cur t (0, 0))) (hcs : cur.toList.take cs.length = cs) : RdOK X (H.put g t cs) w r sv src st ∧ Le H (H.put g t cs) := by
  have hb := h.back ht gx hX
  have hn := h.xh g hg
  have le := Frozen.le_put t cs hn
  refine ⟨?_, le⟩
  obtain ⟨v, ic, nc, h⟩ := h
  have b := h.local ht gx hX (fun _ _ _ => rfl) (fun _ h => h) (fun k hk => .inl (hX k hk)) (fun k hk => h.xlt k (hX k hk))
  have ne : ∀ k, ¬ X' k → k ≠ g := fun k hk e => hk (e ▸ hg)
  refine ⟨v, ic, nc, b.blk, b.want, b.items, b.irel.imp fun _ _ => ItemR.mono le, b.nodes, b.nrel.imp fun _ _ => NodeR.mono le, b.trel.mono le, b.xr, b.xw, b.xi, b.xn, ?_, ?_, ?_, ?_, ?_, b.xlt, ?_, b.txt, b.slen, b.ato, b.tol, b.badl, b.openl, b.glob, b.gx⟩
  · rw [Frozen.put_other _ _ _ (ne r h.xr)]; exact b.hr
  · intro k hk; rw [Frozen.put_other _ _ _ (ne k (h.xw k hk))]; exact b.hw k hk
  · intro k hk; rw [Frozen.put_other _ _ _ (ne k (h.xi k hk))]; exact b.hi k hk
  · intro k hk; rw [Frozen.put_other _ _ _ (ne k (h.xn k hk))]; exact b.hn k hk
  · intro k t' cs' hk
    by_cases e : k = g
    · subst e; rw [Frozen.put_self] at hk; cases hk; exact ⟨cur, hc, hcs⟩
    · rw [Frozen.put_other _ _ _ e] at hk; exact b.heap k t' cs' hk
  · intro k hk
    rw [Frozen.put_other _ _ _ (by rintro rfl; exact hng hk)]; exact b.xh k hk

/-- What a step hands back, beside the reader. -/
def Good {α : Type} (R : Frozen → α → Value → Prop) (X : Nat → Prop) (H : Frozen) (r : Nat) (sv : Value) (src : Bytes) (a : α) (st : St) (v : Value) (w : World) : Prop :=
  ∃ H', Le H H' ∧ RdOK X H' w r sv src st ∧ R H' a v
end

def rU : Frozen → Unit → Value → Prop := fun _ _ v => v = .tuple #[]
def rB : Frozen → Bool → Value → Prop := fun _ b v => v = .bool b
def rI : Frozen → Int → Value → Prop := fun _ k v => v = .int .i64 k
def rN : Frozen → Nat → Value → Prop := fun _ k v => v = .int .i64 (k : Int)
def rRef : Frozen → RefV → Value → Prop := fun H f v => ∃ i, v = .agg #[str f.word, .int .i64 f.at_, i] ∧ FInts H i f.index
def rInts : Frozen → List Int → Value → Prop := fun H l v => FInts H v l

section
variable {α β : Type} {m : M α} {f : α → M β} {st st' : St} {a : α}
theorem fuel_l (h : (m >>= f) st ≠ .bad .fuel) : m st ≠ .bad .fuel := fun e => h (bind_bad e)
theorem fuel_r (h : (m >>= f) st ≠ .bad .fuel) (hr : m st = .ok a st') : f a st' ≠ .bad .fuel := fun e => h (by rw [bind_ok hr]; exact e)
theorem fuel_ite {c : Prop} [Decidable c] {p q : M α} (hc : c) (h : (if c then p else q) st ≠ .bad .fuel) : p st ≠ .bad .fuel := by rwa [if_pos hc] at h
theorem fuel_ite' {c : Prop} [Decidable c] {p q : M α} (hc : ¬ c) (h : (if c then p else q) st ≠ .bad .fuel) : q st ≠ .bad .fuel := by rwa [if_neg hc] at h
theorem ite_t {c : Prop} [Decidable c] {p q : M α} (hc : c) : (if c then p else q) st = p st := by rw [if_pos hc]
theorem ite_f {c : Prop} [Decidable c] {p q : M α} (hc : ¬ c) : (if c then p else q) st = q st := by rw [if_neg hc]
end

section
variable {X : Nat → Prop} {H : Frozen} {w : World} {r : Nat} {sv : Value} {src : Bytes} {st : St}
theorem RdOK.c0 (h : RdOK X H w r sv src st) : w.cell? ⟨r, 0, none⟩ = some (sv) := by obtain ⟨v, ic, nc, h⟩ := h; exact cell_of_blk h.blk 0
theorem RdOK.c1 (h : RdOK X H w r sv src st) : w.cell? ⟨r, 1, none⟩ = some (.int .i64 st.at_) := by obtain ⟨v, ic, nc, h⟩ := h; exact cell_of_blk h.blk 1
theorem RdOK.c2 (h : RdOK X H w r sv src st) : w.cell? ⟨r, 2, none⟩ = some (.int .i64 st.to_) := by obtain ⟨v, ic, nc, h⟩ := h; exact cell_of_blk h.blk 2
theorem RdOK.c3 (h : RdOK X H w r sv src st) : w.cell? ⟨r, 3, none⟩ = some (.int .i64 st.tok.kind) := by obtain ⟨v, ic, nc, h⟩ := h; exact cell_of_blk h.blk 3
theorem RdOK.c4 (h : RdOK X H w r sv src st) : w.cell? ⟨r, 4, none⟩ = some (.int .u64 st.tok.n) := by obtain ⟨v, ic, nc, h⟩ := h; exact cell_of_blk h.blk 4
theorem RdOK.c5 (h : RdOK X H w r sv src st) : w.cell? ⟨r, 5, none⟩ = some (str st.tok.s) := by obtain ⟨v, ic, nc, h⟩ := h; exact cell_of_blk h.blk 5
theorem RdOK.c6 (h : RdOK X H w r sv src st) : w.cell? ⟨r, 6, none⟩ = some (.int .i64 st.tok.at_) := by obtain ⟨v, ic, nc, h⟩ := h; exact cell_of_blk h.blk 6
theorem RdOK.c7 (h : RdOK X H w r sv src st) : w.cell? ⟨r, 7, none⟩ = some (.int .i64 st.tok.end_) := by obtain ⟨v, ic, nc, h⟩ := h; exact cell_of_blk h.blk 7
theorem RdOK.c8 (h : RdOK X H w r sv src st) : w.cell? ⟨r, 8, none⟩ = some (.int .i64 st.bad) := by obtain ⟨v, ic, nc, h⟩ := h; exact cell_of_blk h.blk 8
theorem RdOK.c10 (h : RdOK X H w r sv src st) : w.cell? ⟨r, 10, none⟩ = some (.bool st.name) := by obtain ⟨v, ic, nc, h⟩ := h; exact cell_of_blk h.blk 10
theorem RdOK.c11 (h : RdOK X H w r sv src st) : w.cell? ⟨r, 11, none⟩ = some (.bool st.num) := by obtain ⟨v, ic, nc, h⟩ := h; exact cell_of_blk h.blk 11
theorem RdOK.c12 (h : RdOK X H w r sv src st) : w.cell? ⟨r, 12, none⟩ = some (.int .i64 st.opened) := by obtain ⟨v, ic, nc, h⟩ := h; exact cell_of_blk h.blk 12
theorem RdOK.c13 (h : RdOK X H w r sv src st) : w.cell? ⟨r, 13, none⟩ = some (.int .i64 st.pos) := by obtain ⟨v, ic, nc, h⟩ := h; exact cell_of_blk h.blk 13
theorem RdOK.c14 (h : RdOK X H w r sv src st) : w.cell? ⟨r, 14, none⟩ = some (str st.tname.word) := by obtain ⟨v, ic, nc, h⟩ := h; exact cell_of_blk h.blk 14
theorem RdOK.c15 (h : RdOK X H w r sv src st) : w.cell? ⟨r, 15, none⟩ = some (.int .i64 st.tname.at_) := by obtain ⟨v, ic, nc, h⟩ := h; exact cell_of_blk h.blk 15
theorem RdOK.free (h : RdOK X H w r sv src st) (i : Nat) : w.frozen? ⟨r, i, none⟩ = false := by obtain ⟨v, ic, nc, h⟩ := h; exact free_of_blk h.blk i

/-- One field written. -/
theorem RdOK.put (h : RdOK X H w r sv src st) {st' : St} (i : Nat) (u : Value) (he : ∀ v, (rdCells sv st v).set i u = rdCells sv st' v) (hw : st'.want = st.want) (hi : st'.items = st.items) (hn : st'.nodes = st.nodes) (ht : st'.tname.index = st.tname.index)
    (ato : st'.at_ ≤ st'.to_) (tol : st'.to_ ≤ src.length) (badl : st'.bad ≤ src.length) (openl : st'.opened ≤ 32) : RdOK X H (w.setCell ⟨r, i, none⟩ u) r sv src st' ∧ Fr X w (w.setCell ⟨r, i, none⟩ u) := by
  obtain ⟨v, ic, nc, h⟩ := h
  have hb := blk_set h.blk i u
  rw [he v] at hb
  have hk : ∀ k, k < w.heap.size → k ≠ r → (w.setCell ⟨r, i, none⟩ u).heap[k]? = w.heap[k]? := fun k _ hne => Below.heap_setCell _ _ _ _ hne
  refine ⟨⟨v, ic, nc, h.fields (st' := st') (v' := v) (by simp [World.setCell]) hk hb ?_ rfl rfl rfl hi hn (by rw [ht]; exact h.trel) ato tol badl openl⟩, (Fr.refl X w).setCell h.xr u⟩
  rw [hw]
  exact ownsRow_block h.want fun k hk' => hk k (h.want.lt k hk').2 (fun e => h.r_ne_w (e ▸ hk'))
end
end Go.Proofs.YtkaeceedofmhbaaGreatDoor
namespace Go.Proofs.YtkaeceedofmhbaaGreatDoor
open Go.RowKit

def nums (k : IntKind) (xs : List Int) : List Value := xs.map fun x => .int k x
theorem nums_length (k : IntKind) (xs : List Int) : (nums k xs).length = xs.length := by simp [nums]
theorem own_base {w : World} {base : Nat} {e : TypeId} {size n : Nat} {v : Value} {xs : List Value} (h : w.ownsRow base e size v n xs) (k : Nat) (hk : v.ownBlock = some k) : base ≤ k := by
  rcases h.2 with ⟨rfl, _⟩ | ⟨g, cap, cur, rfl, hb, _⟩
  · simp [Value.ownBlock] at hk
  · have : g = k := by simpa [Value.ownBlock] using hk
    omega
theorem own_lt {w : World} {base : Nat} {e : TypeId} {size n : Nat} {v : Value} {xs : List Value} (h : w.ownsRow base e size v n xs) (k : Nat) (hk : v.ownBlock = some k) : k < w.heap.size := by
  rcases h.2 with ⟨rfl, _⟩ | ⟨g, cap, cur, rfl, hb, hh, _⟩
  · simp [Value.ownBlock] at hk
  · have : g = k := by simpa [Value.ownBlock] using hk
    subst this
    exact (Array.getElem?_eq_some_iff.1 hh).1
theorem own_string {P : Program} {w : World} {base n : Nat} {e' src dst e : TypeId} {v : Value} {xs : List Int} (hs : P.underlying src = some (.slice e)) (he : P.underlying e = some (.int .u8)) (hd : P.underlying dst = some .string)
    (h : w.ownsRow base e' 1 v n (nums .u8 xs)) : (convert src dst v).run P w = .ok (.string (strOfNums xs)) w := by
  have hl : xs.length = n := by have := h.1; simp [nums] at this; exact this
  rcases h.2 with ⟨rfl, rfl⟩ | ⟨g, cap, cur, rfl, _⟩
  · obtain rfl : xs = [] := List.eq_nil_of_length_eq_zero hl
    exact run_convert_bytes_nil w src e hs he 0 0 dst hd
  · refine run_convert_bytes_arg w src e hs he g 0 n cap xs hl (fun i hi => ?_) dst hd
    have hc := h.cells (g := g) rfl i (.int .u8 (xs.getD i 0)) (by simp [nums, List.getElem?_eq_getElem (show i < xs.length by omega), List.getD_eq_getElem?_getD])
    have ha : (⟨g, 0, none⟩ : Addr).add i = ⟨g, 0 + i, none⟩ := by unfold Addr.add; split <;> simp_all
    rwa [ha] at hc
section
variable {P : Program} {ops : Array Oper} {rest : List Oper} {o : Oper} {a : Act} {Q : Exit → Act → World → Prop}
theorem print_append {w0 W : World} (base : Nat) (hgd : o.guard = none) (s x : Operand) (t e : TypeId) (z : Value) (bytes : Nat)
    (ho : o.op = .call { callee := .builtin .append, args := #[s, x], argTypes := #[t, t] })
    (ht : P.underlying t = some (.slice e)) (hinfo : (P.info? e).map (fun i => (i.zero, i.size, i.bytes)) = some (some z, 1, bytes)) (hz : z.cells.size = 1) (hb0 : 0 < bytes)
    (v : Value) (xs : List Value) (y : Value) (hs : a.eval s = v) (hx : a.eval x = .slice (some ⟨W.heap.size, 0, none⟩) 1 1) (h1 : y.oneCell' = true)
    (HO : W.ownsRow base e 1 v xs.length xs) (HB : Below base w0 W) (hbase : base ≤ W.heap.size) (hl : (xs.length + 1) * bytes ≤ 140737488355328)
    (h : ∀ v1 w1, w1.ownsRow base e 1 v1 (xs ++ [y]).length (xs ++ [y]) → Below base w0 w1 → W.grownBy w1 v.ownBlock → (v1.ownBlock = v.ownBlock ∨ ∃ b, v1.ownBlock = some b ∧ W.heap.size ≤ b) → wpList P ops Q rest (a.put o.dst v1) w1) :
    wpList P ops Q (o :: rest) a (W.alloc (.cells #[y] e)) := by
  obtain ⟨i0, hi, hzz⟩ := Option.map_eq_some_iff.1 hinfo
  simp only [Prod.mk.injEq] at hzz
  obtain ⟨hz0, hz1, hz2⟩ := hzz
  have hlen : xs.length + 1 ≤ 140737488355328 := Nat.le_trans (Nat.le_mul_of_pos_right _ hb0) hl
  refine wpList_append_own_at (W.alloc (.cells #[y] e)) hgd s x t ho base e i0 z 1 bytes ht hi hz0 hz1 hz2 hz (by omega) v xs.length xs hs (HO.alloc _) ⟨W.heap.size, 0, none⟩ 1 1 [y] hx rfl
    (World.news_of_block (cs := #[y]) (t := e) (fr := (0, 0)) (heap_alloc_new W _)) (by simpa using h1) (by simp only [maxLen]; omega) hl (by simp; omega) ?_
  intro v1 w1 hown hg _ hat
  refine h v1 w1 (by simpa using hown) ((HB.alloc hbase _).grown hg (by simp; omega) (own_base HO)) (World.grownBy.trans (World.grownBy_alloc W _ _) hg) ?_
  rcases hat with hat | hat
  · exact .inl hat
  · exact .inr ⟨_, hat, by simp⟩
theorem print_append_num {w0 W : World} (base : Nat) (hgd : o.guard = none) (s x : Operand) (t e : TypeId) (k : IntKind) (bytes : Nat)
    (ho : o.op = .call { callee := .builtin .append, args := #[s, x], argTypes := #[t, t] })
    (ht : P.underlying t = some (.slice e)) (hinfo : (P.info? e).map (fun i => (i.zero, i.size, i.bytes)) = some (some (.int k 0), 1, bytes)) (hb0 : 0 < bytes)
    (v : Value) (xs : List Int) (y : Int) (hs : a.eval s = v) (hx : a.eval x = .slice (some ⟨W.heap.size, 0, none⟩) 1 1)
    (HO : W.ownsRow base e 1 v xs.length (nums k xs)) (HB : Below base w0 W) (hbase : base ≤ W.heap.size) (hl : (xs.length + 1) * bytes ≤ 140737488355328)
    (h : ∀ v1 w1, w1.ownsRow base e 1 v1 (xs ++ [y]).length (nums k (xs ++ [y])) → Below base w0 w1 → W.grownBy w1 v.ownBlock → (v1.ownBlock = v.ownBlock ∨ ∃ b, v1.ownBlock = some b ∧ W.heap.size ≤ b) → wpList P ops Q rest (a.put o.dst v1) w1) :
    wpList P ops Q (o :: rest) a (W.alloc (.cells #[.int k y] e)) :=
  print_append base hgd s x t e (.int k 0) bytes ho ht hinfo rfl hb0 v (nums k xs) (.int k y) hs hx rfl (by rw [nums_length]; exact HO) HB hbase (by rw [nums_length]; exact hl)
    fun v1 w1 hown hB hg hat => h v1 w1 (by simpa [nums] using hown) hB hg hat
end
end Go.Proofs.YtkaeceedofmhbaaGreatDoor
