/-
  An item's beginning and its end.
  An item loaded into a block of its own: the pattern, tried at group's head (UNFINISHED: ends in sorry).
  A growing list of numbers in a local variable.
  An item laid anew in a block that stands.
  syntax: block, by what one rule does (UNDER WAY).
  syntax: own, by group and item.
-/
import Derived.Test.YtkaeceedofmhbaaGreatDoorGSy17
import Derived.Deep.WholeRow
import Derived.Deep.RegionLaw
import Derived.Deep.DeepCutAuto
namespace Go.Proofs.YtkaeceedofmhbaaGreatDoor
open Go.RowKit Bk

section
variable {X : Nat → Prop} {H H1 : Frozen} {w w1 : World} {r : Nat} {sv : Value} {src : Bytes} {st st1 : St} {b : Nat} {x x' : ItemV} {s s' : ItemS}

/-- The item, done with: its expressions are frozen. -/
theorem ItP.done (h : ItP X H w r sv src st b x s) : ∃ H1, Le H H1 ∧ RdOK X H1 w r sv src st ∧ ItemR H1 x (itemCells x s) := by
  by_cases he : x.e = []
  · exact ⟨H, Le.refl H, h.rd.back h.txt h.gx (fun _ hk => .inl hk), s, rfl, h.ip, h.ps, .inl ⟨h.enil he, by rw [he]; rfl, by rw [he]; rfl⟩⟩
  · have hpos : 0 < x.e.length := List.length_pos_iff.2 he
    obtain ⟨hlen, h2⟩ := h.erow
    rcases h2 with ⟨_, h0⟩ | ⟨g, cap, cur, e, _, hg, h1, h2, h3, h4⟩
    · omega
    · have hz := h.rd.freeze h.txt h.gx (fun _ hk => .inl hk) (g := g) (.inr (.inr (by rw [e]; rfl))) (h.xe g (by rw [e]; rfl)) hg (cs := ints x.e) (by rw [hlen]; exact h4)
      exact ⟨_, hz.2, hz.1, s, rfl, h.ip.mono hz.2, h.ps.mono hz.2, .inr ⟨g, cap, e, hpos, h1, h2, Frozen.put_self _ _ _ _⟩⟩

/-- An item without expressions, laid at a block of its own. -/
theorem ItP.start {cs : List Value} (h : RdOK X H w r sv src st) (hx : ItemR H x cs) (he : x.e = []) (hf : 0 ≤ x.flags ∧ x.flags < 9223372036854775808) :
    ∃ s, cs = itemCells x s ∧ ItP X H (w.alloc (.cells cs.toArray 40)) r sv src st w.heap.size x s ∧ Fr X w (w.alloc (.cells cs.toArray 40)) := by
  obtain ⟨s, rfl, ip, ps, ev⟩ := hx
  have hev : s.ev = .slice none 0 0 := by
    rcases ev with ⟨e, _⟩ | ⟨g, cap, _, hp, _⟩
    · exact e
    · rw [he] at hp; simp at hp
  have hbel : Below w.heap.size w (w.alloc (.cells (itemCells x s).toArray 40)) := (Below.refl _ _).alloc (Nat.le_refl _) _
  refine ⟨s, rfl, ⟨?_, h.txt.keep fun k hk => hbel.block k (h.xlt k hk), h.gx, fun k hk => Nat.lt_of_lt_of_le (h.xlt k hk) hbel.size, fun hx => by have := h.xlt _ hx; omega, fun k hk => by rw [hev] at hk; simp [Value.ownBlock] at hk, by rw [hev]; simp [Value.ownBlock], heap_alloc_new w _,
    ⟨by rw [he]; rfl, .inl ⟨hev, by rw [he]; rfl⟩⟩, fun _ => hev, ip, ps, hf⟩, (Fr.refl X w).alloc h.xlt _⟩
  refine h.local h.txt h.gx (fun _ h => h) (fun k hk _ => hbel.block k hk) (fun _ h => .inl h) (fun k hk => ?_) (fun k hk => ?_)
  · rcases hk with h1 | h1 | h1
    · exact .inl h1
    · exact .inr (by omega)
    · rw [hev] at h1; simp [Value.ownBlock] at h1
  · rcases hk with h1 | h1 | h1
    · exact Nat.lt_of_lt_of_le (h.xlt k h1) hbel.size
    · subst h1; simp
    · rw [hev] at h1; simp [Value.ownBlock] at h1

/-- What begin leaves. -/
theorem begin_row {kind : Int} {k : Nat} (h : begin_ src kind st = .ok k st1) : k = st.items.length ∧ st1.items = st.items ++ [{ kind := kind, pos := st.at_ }] := by
  unfold begin_ at h
  split at h
  · change M.bind (next src) _ _ = _ at h
    unfold M.bind at h
    split at h
    · rename_i a st2 hn
      injection h with h1 h2
      exact ⟨h1.symm, by rw [← h2, next_items hn]⟩
    · cases h
  · cases h

/-- The k-th item, in memory. -/
theorem RdOK.item_at {k : Nat} (h : RdOK X H w r sv src st) (hk : st.items[k]? = some x) : ∃ (g cap : Nat) (cs : List Value), w.cell? ⟨r, 17, none⟩ = some (.slice (some ⟨g, 0, none⟩) st.items.length cap) ∧ ItemR H x cs ∧ cs.length = 21 ∧ ∀ j v, cs[j]? = some v → w.cell? ⟨g, k * 21 + j, none⟩ = some v := by
  obtain ⟨v, ic, nc, h⟩ := h
  have hlt : k < st.items.length := (List.getElem?_eq_some_iff.1 hk).1
  obtain ⟨hlen, h2⟩ := h.items
  rcases h2 with ⟨_, h0⟩ | ⟨g, cap, cur, hiv, hb, hg, h4, h5, h6, h7⟩
  · omega
  · obtain ⟨c, hc, ha⟩ := RowsR.at (k := 21) (fun a c hc => by obtain ⟨s, rfl, _⟩ := hc; rfl) k x h.irel hk
    have hcl : c.length = 21 := by obtain ⟨s, rfl, _⟩ := hc; rfl
    refine ⟨g, cap, c, by rw [← hiv]; exact cell_of_blk h.blk 17, hc, hcl, fun j u hj => ?_⟩
    have hj21 : j < 21 := by rw [← hcl]; exact (List.getElem?_eq_some_iff.1 hj).1
    rw [cell_of_blk (cs := cur.toList) hg (k * 21 + j)]
    have e := ha j hj21
    rw [← h7, List.getElem?_take, if_pos (by omega)] at e
    rw [e, hj]
end
end Go.Proofs.YtkaeceedofmhbaaGreatDoor
namespace Go.Proofs.YtkaeceedofmhbaaGreatDoor
open Go.RowKit Bk
attribute [local go_sem ↓] Go.wp_at_zero Go.wp_at_succ

theorem setCells_new (w : World) (z : Array Value) (cs : List Value) (hz : z.size = cs.length) (hc : cs.length = 21) (h1 : ∀ v ∈ cs, v.oneCell' = true) :
    (w.alloc (.cells z 40)).setCells w.heap.size 0 cs = w.alloc (.cells cs.toArray 40) := by
  have hb : (w.alloc (.cells z 40)).heap[w.heap.size]? = some (.cells z.toList.toArray 40 (0, 0)) := heap_alloc_new w _
  have a := run_storeCells_cells (P := Tryz.prog) w.heap.size 0 cs 0 (w.alloc (.cells z 40)) (fun j hj => by
    rw [cell_of_blk hb, List.getElem?_eq_getElem (by rw [Array.length_toList]; omega)]; rfl) (fun j _ => free_of_blk hb _) h1
  have b := run_storeCells_new (P := Tryz.prog) w 40 z cs.toArray (by
    have := infoItem
    cases h : Tryz.prog.info? 40 with
    | none => rw [h] at this; cases this
    | some i => rw [h] at this; simp only [Option.map_some, Option.some.injEq, Prod.mk.injEq] at this; simp [this.2.1, hc]) (by simpa using hz) (by simpa using h1)
  rw [show cs.toArray.toList = cs by simp, a] at b
  injection b

section
variable {X : Nat → Prop} {H : Frozen} {r : Nat} {sv : Value} {src : Bytes} {st : St} {w w1 : World}

theorem ItemR.one {x : ItemV} {cs : List Value} (h : ItemR H x cs) : ∀ v ∈ cs, v.oneCell' = true := by
  obtain ⟨a0, a1, b2, a3, p4, l4, k4, b5, a6, p7, l7, k7, b8, a9, p10, l10, k10, b11, a12, p13, l13, k13, p14, l14, k14, p15, l15, k15, a16, a17, b18, p19, l19, k19, p20, l20, k20, rfl⟩ := h.form
  intro u hu
  simp only [List.mem_cons, List.not_mem_nil, or_false] at hu
  rcases hu with rfl | rfl | rfl | rfl | rfl | rfl | rfl | rfl | rfl | rfl | rfl | rfl | rfl | rfl | rfl | rfl | rfl | rfl | rfl | rfl | rfl <;> rfl
end
end Go.Proofs.YtkaeceedofmhbaaGreatDoor
namespace Go.Proofs.YtkaeceedofmhbaaGreatDoor
open Go.RowKit Bk

/-- X, and a row's block. -/
def Own (X : Nat → Prop) (v : Value) : Nat → Prop := fun k => X k ∨ v.ownBlock = some k

structure RwP (X : Nat → Prop) (H : Frozen) (w : World) (r : Nat) (sv : Value) (src : Bytes) (st : St) (l : List Int) (iv : Value) : Prop where
  rd : RdOK (Own X iv) H w r sv src st
  txt : Txt X w sv src
  gx : ∀ k, k < low → X k
  xlt : ∀ k, X k → k < w.heap.size
  xe : ∀ k, iv.ownBlock = some k → ¬ X k
  erow : w.ownsRow 0 3 1 iv l.length (ints l)
  enil : l = [] → iv = .slice none 0 0

section
variable {X : Nat → Prop} {H H1 : Frozen} {w w1 : World} {r : Nat} {sv : Value} {src : Bytes} {st st1 : St} {l : List Int} {iv v' : Value}

theorem Fr.unown {v : Value} (h : Fr (Own X v) w w1) : Fr X w w1 := h.mono fun _ h => .inl h
theorem RwP.start (h : RdOK X H w r sv src st) : RwP X H w r sv src st [] (.slice none 0 0) :=
  ⟨h.local h.txt h.gx (fun _ h => h) (fun _ _ _ => rfl) (fun _ h => .inl h) (fun k hk => by rcases hk with h1 | h1; exact .inl h1; simp [Value.ownBlock] at h1) (fun k hk => by rcases hk with h1 | h1; exact h.xlt k h1; simp [Value.ownBlock] at h1),
    h.txt, h.gx, h.xlt, fun k hk => by simp [Value.ownBlock] at hk, ⟨rfl, .inl ⟨rfl, rfl⟩⟩, fun _ => rfl⟩
theorem RwP.call (h : RwP X H w r sv src st l iv) (hR : RdOK (Own X iv) H1 w1 r sv src st1) (fr : Fr (Own X iv) w w1) : RwP X H1 w1 r sv src st1 l iv :=
  ⟨hR, h.txt.keep fr.unown.block, h.gx, fun k hk => Nat.lt_of_lt_of_le (h.xlt k hk) fr.size, h.xe, ownsRow_block h.erow fun k hk => fr.block k (.inr hk), h.enil⟩
theorem RwP.drew (h : RwP X H w r sv src st l iv) : RwP X H w.drew r sv src st l iv := h.call h.rd.drew (Fr.drewOn _ _)
theorem RwP.alloc (h : RwP X H w r sv src st l iv) (o : Obj) : RwP X H (w.alloc o) r sv src st l iv := h.call (h.rd.alloc o) ((Fr.refl _ _).alloc h.rd.xlt o)
theorem RwP.grow {k : Int} (h : RwP X H w r sv src st l iv) (hg : w.grownBy w1 iv.ownBlock) (ho : w1.ownsRow 0 3 1 v' (l.length + 1) (ints l ++ [.int .i64 k])) (hat : v'.ownBlock = iv.ownBlock ∨ ∃ K, w.heap.size ≤ K ∧ v'.ownBlock = some K) :
    RwP X H w1 r sv src st (l ++ [k]) v' ∧ Fr X w w1 := by
  have hs : w.heap.size ≤ w1.heap.size := hg.size
  have hb : ∀ k, k < w.heap.size → iv.ownBlock ≠ some k → w1.heap[k]? = w.heap[k]? := fun k hk h2 => hg.block k hk (fun e => h2 e.symm)
  have fr : Fr X w w1 := ⟨hg.os, hg.tape, hg.output, hs, fun k hk => hb k (h.xlt k hk) (fun e => h.xe k e hk)⟩
  have xe' : ∀ k, v'.ownBlock = some k → ¬ X k := fun k hk => by
    rcases hat with e | ⟨K, hK, e⟩
    · exact h.xe k (by rw [← e]; exact hk)
    · rw [e] at hk; obtain rfl : K = k := by simpa using hk
      exact fun hx => by have := h.xlt _ hx; omega
  have e : ints l ++ [.int .i64 k] = ints (l ++ [k]) := by simp [ints]
  refine ⟨⟨?_, h.txt.keep fr.block, h.gx, fun k hk => Nat.lt_of_lt_of_le (h.xlt k hk) hs, xe', ?_, fun e => absurd e (by simp)⟩, fr⟩
  · refine h.rd.local h.txt h.gx (fun _ hk => .inl hk) (fun k hk hx => hb k hk ?_) (fun _ hk => .inl hk) (fun k hk => ?_) (fun k hk => ?_)
    · intro e
      rcases hx with hx | hx
      · exact h.xe k e hx
      · exact hx (.inr e)
    · rcases hk with h1 | h1
      · exact .inl (.inl h1)
      · rcases hat with e | ⟨K, hK, e⟩
        · exact .inl (.inr (by rw [← e]; exact h1))
        · rw [e] at h1
          obtain rfl : K = k := by simpa using h1
          exact .inr hK
    · rcases hk with h1 | h1
      · exact Nat.lt_of_lt_of_le (h.xlt k h1) hs
      · exact (ho.lt k h1).2
  · rw [← e]
    simpa using ho

/-- The list, done with. -/
theorem RwP.done (h : RwP X H w r sv src st l iv) : ∃ H1, Le H H1 ∧ RdOK X H1 w r sv src st ∧ FInts H1 iv l := by
  by_cases he : l = []
  · exact ⟨H, Le.refl H, h.rd.back h.txt h.gx (fun _ hk => .inl hk), .inl ⟨h.enil he, by rw [he]; rfl, by rw [he]; rfl⟩⟩
  · have hpos : 0 < l.length := List.length_pos_iff.2 he
    obtain ⟨hlen, h2⟩ := h.erow
    rcases h2 with ⟨_, h0⟩ | ⟨g, cap, cur, e, _, hg, h1, h2, h3, h4⟩
    · omega
    · have hz := h.rd.freeze h.txt h.gx (fun _ hk => .inl hk) (g := g) (.inr (by rw [e]; rfl)) (h.xe g (by rw [e]; rfl)) hg (cs := ints l) (by rw [hlen]; exact h4)
      exact ⟨_, hz.2, hz.1, .inr ⟨g, cap, e, hpos, h1, h2, Frozen.put_self _ _ _ _⟩⟩
end
end Go.Proofs.YtkaeceedofmhbaaGreatDoor
namespace Go.Proofs.YtkaeceedofmhbaaGreatDoor
open Go.RowKit Bk

section
variable {X : Nat → Prop} {H H1 : Frozen} {w w1 : World} {r : Nat} {sv : Value} {src : Bytes} {st st1 : St} {b : Nat} {x : ItemV} {s : ItemS}

theorem ItP.lay {cs z : List Value} (h : RdOK (Loc X b (.slice none 0 0)) H w r sv src st) (ht : Txt X w sv src) (gx : ∀ k, k < low → X k) (xlt : ∀ k, X k → k < w.heap.size) (xb : ¬ X b)
    (hb : w.heap[b]? = some (.cells z.toArray 40 (0, 0))) (hz : z.length = 21) (hx : ItemR H x cs) (hl : cs.length = 21) (he : x.e = []) (hf : 0 ≤ x.flags ∧ x.flags < 9223372036854775808) :
    ∃ s, cs = itemCells x s ∧ ItP X H (w.setCells b 0 cs) r sv src st b x s ∧ Fr X w (w.setCells b 0 cs) := by
  obtain ⟨s1, s2, s3, s4, s5⟩ := setCells_same b cs 0 w
  have hh := setCells_heap cs 0 w z hb (by omega)
  obtain ⟨s, rfl, ip, ps, ev⟩ := hx
  have hev : s.ev = .slice none 0 0 := by
    rcases ev with ⟨e, _⟩ | ⟨g, cap, _, hp, _⟩
    · exact e
    · rw [he] at hp; simp at hp
  have fr : Fr X w (w.setCells b 0 (itemCells x s)) := ⟨s1, s2, s3, by rw [s4]; exact Nat.le_refl _, fun k hk => s5 k (fun e => xb (e ▸ hk))⟩
  refine ⟨s, rfl, ⟨?_, ht.keep fr.block, gx, fun k hk => by rw [s4]; exact xlt k hk, xb, fun k hk => by rw [hev] at hk; simp [Value.ownBlock] at hk, by rw [hev]; simp [Value.ownBlock], ?_,
    ⟨by rw [he]; rfl, .inl ⟨hev, by rw [he]; rfl⟩⟩, fun _ => hev, ip, ps, hf⟩, fr⟩
  · rw [hev]
    refine h.local ht gx (fun _ hk => .inl hk) (fun k _ hx => s5 k ?_) (fun _ hk => .inl hk) (fun _ hk => .inl hk) (fun k hk => by rw [s4]; exact h.xlt k hk)
    rintro rfl
    rcases hx with hx | hx
    · exact xb hx
    · exact hx (.inr (.inl rfl))
  · rw [hh, hl, List.drop_eq_nil_of_le (by omega)]; simp

theorem ItP.put_kids {l : List Int} {i : Value} (h : ItP X H w r sv src st b x s) (hi : FInts H i l) : ItP X H (w.setCell ⟨b, 19, none⟩ i) r sv src st b { x with kids := l } { s with kv := i } ∧ Fr X w (w.setCell ⟨b, 19, none⟩ i) :=
  h.put 19 i { x with kids := l } { s with kv := i } rfl rfl rfl ⟨h.ip.nv, h.ip.fv, h.ip.tv, h.ip.ov, hi, h.ip.lv⟩ h.ps h.fl
theorem ItP.put_els {l : List Int} {i : Value} (h : ItP X H w r sv src st b x s) (hi : FInts H i l) : ItP X H (w.setCell ⟨b, 20, none⟩ i) r sv src st b { x with els := l } { s with lv := i } ∧ Fr X w (w.setCell ⟨b, 20, none⟩ i) :=
  h.put 20 i { x with els := l } { s with lv := i } rfl rfl rfl ⟨h.ip.nv, h.ip.fv, h.ip.tv, h.ip.ov, h.ip.kv, hi⟩ h.ps h.fl
end
end Go.Proofs.YtkaeceedofmhbaaGreatDoor
namespace Go.Proofs.YtkaeceedofmhbaaGreatDoor
open Go.RowKit Bk
attribute [local go_sem ↓] Go.wp_at_zero Go.wp_at_succ

/-- The rules' functions. -/
def ruleFn : Rule → Nat
  | .own => 28
  | .item => 51
  | .reach => 153
  | .part => 154
  | .lane => 156
  | .run => 186
  | .need => 185
/-- What one rule does. -/
def OneC (n : Nat) (u : Rule) : Prop := ∀ (X : Nat → Prop) (H : Frozen) (r : Nat) (sv : Value) (src : Bytes) (st : St) (w : World), RdOK X H w r sv src st → one src n u st ≠ .bad .fuel →
  Calls Tryz.prog (ruleFn u) #[.pointer (some ⟨r, 0, none⟩)] w (Post X w (one src n u st) (Good rI X H r sv src))
def ruleV (u : Rule) (r : Nat) : Value := .func (Fn.func (ruleFn u)) #[.pointer (some ⟨r, 0, none⟩)] #[]

theorem rule_bodied (u : Rule) : (match Tryz.prog.funcs[ruleFn u]? with | some fn => !(fn.name == "runtime.NumGoroutine") && !fn.body.isNone | none => false) = true := by cases u <;> kernel_rfl
theorem enter_of {P : Program} {f : FuncId} {fn : Func} (hf : P.funcs[f]? = some fn) (hn : (fn.name == "runtime.NumGoroutine") = false) (hb : fn.body.isNone = false) (args : Array Value) (w : World) : (callFunc f args).run P w = .ok (.enter f args) w := by
  have hn' : fn.name ≠ "runtime.NumGoroutine" := by simpa using hn
  have hb' : fn.body ≠ none := fun e => by rw [e] at hb; cases hb
  simp [callFunc, hf, hn', hb']
theorem rule_enter (u : Rule) (args : Array Value) (w : World) : (callFunc (ruleFn u) args).run Tryz.prog w = .ok (.enter (ruleFn u) args) w := by
  have h := rule_bodied u
  generalize hf : Tryz.prog.funcs[ruleFn u]? = o at h
  cases o with
  | none => cases h
  | some fn =>
    simp only [Bool.and_eq_true, Bool.not_eq_true'] at h
    exact enter_of hf h.1 h.2 args w

section
variable {X : Nat → Prop} {H : Frozen} {r : Nat} {sv : Value} {src : Bytes} {st : St} {w w1 : World}

/-- Behind the question. -/
def blockIn (src : Bytes) (n : Nat) (u : Rule) (l : List Int) : Bool → M (List Int) := fun q => if q = true then pure l else M.bind (one src n u) fun k => if l.length < most then blockOn src n u (l ++ [k]) else fuelOut
theorem blockOn_zero (u : Rule) (l : List Int) (st : St) : blockOn src 0 u l st = .bad .fuel := by rw [blockOn]; rfl
theorem blockOn_on (n : Nat) (u : Rule) (l : List Int) : blockOn src (n + 1) u l = M.bind (see 5) (blockIn src n u l) := by rw [blockOn]; rfl

set_option maxRecDepth 100000 in
set_option maxHeartbeats 4000000 in
theorem block_c (n : Nat) (u : Rule) (ho : ∀ m, m < n → OneC m u) (h : RdOK X H w r sv src st) (hf : block src (n + 1) u st ≠ .bad .fuel) :
    Calls Tryz.prog 27 #[.pointer (some ⟨r, 0, none⟩), .func (Fn.func (ruleFn u)) #[.pointer (some ⟨r, 0, none⟩)] #[]] w (Post X w (block src (n + 1) u st) (Good rInts X H r sv src)) := by
  obtain ⟨T, hT⟩ : ∃ T, T = block src (n + 1) u st := ⟨_, rfl⟩
  rw [← hT]
  have FU := Lib.hid (show T ≠ .bad .fuel by rw [hT]; exact hf)
  rw [block] at hT
  have EQ0 := Lib.hid hT
  have NX := Lib.hid next_c
  have FL := Lib.hid fail_c
  have RD0 := Lib.hid h
  have HO := Lib.hid ho
  clear h hf hT ho
  obtain ⟨fu, hfu⟩ : ∃ f, f = ruleFn u := ⟨_, rfl⟩
  rw [← hfu]
  have HFU := Lib.hid hfu
  clear hfu
  go_enter Tryz.func27, Tryz.ntmps27
  go_wp2_with fail
  refine (open_c NX FL 4 RD0.out (fun e => FU.out (EQ0.out.trans (bind_bad e)))).mono ?_
  intro e w1 hp
  rcases hp.elimG with ⟨a1, st1, v1, H1, hr, rfl, le, hR, hv, hfr⟩ | ⟨p, why, hr, rfl, hfr⟩
  rotate_left
  · have EQp := Lib.hid (EQ0.out.trans (bind_bad hr))
    have FRp := Lib.hid hfr
    clear hfr hr hp
    go_wp2_with fail
    exact ⟨rfl, Post.stop EQp.out FRp.out⟩
  obtain rfl : v1 = .tuple #[] := hv
  obtain ⟨F1, hF, hE⟩ := bind_name (EQ0.out.trans (bind_ok hr))
  have EQ1 := Lib.hid hE
  have HF1 := Lib.hid hF
  have RW1 := Lib.hid (RwP.start hR)
  have FR1 := Lib.hid hfr
  have LE1 := Lib.hid le
  clear hr hp hR hfr le hF hE
  go_wp2_with fail
  go_loopg [5] (n + 1) (fun g s5 wr => ∃ (m : Nat) (l : List Int) (stj : St) (Hj : Frozen), m ≤ n ∧ m < g ∧ l.length ≤ 1073741824 ∧ Hid (RwP X Hj wr r sv src stj l s5 ∧ Fr X w wr ∧ Le H Hj ∧ T = M.bind (blockOn src m u l) F1 stj))
  case atStart => exact ⟨n, [], st1, H1, Nat.le_refl _, by omega, by simp, Lib.hid ⟨RW1.out, FR1.out, LE1.out, EQ1.out⟩⟩
  case round =>
    obtain ⟨m, l, st2, H2, hmn, hmg, hll, hrel⟩ := hrel
    obtain ⟨hR, hF, hL, hE⟩ := hrel.out
    cases m with
    | zero => exact absurd (hE.trans (bind_bad (blockOn_zero _ _ _))) FU.out
    | succ m =>
    rw [blockOn_on, bind_flat] at hE
    have RW2 := Lib.hid hR
    have FR2 := Lib.hid hF
    have LE2 := Lib.hid hL
    have EQ2 := Lib.hid hE
    clear hrel hR hF hL hE
    go_wp2_with fail
    refine (see_g 5 RW2.out.rd (fun e => FU.out (EQ2.out.trans (bind_bad e)))).mono ?_
    intro e w3 hp
    rcases hp.elimG with ⟨q, st3, v3, H3, hr, rfl, le, hR, hv, hfr⟩ | ⟨p, why, hr, rfl, hfr⟩
    rotate_left
    · have EQp := Lib.hid (EQ2.out.trans (bind_bad hr))
      have FRp := Lib.hid (FR2.out.trans hfr.unown)
      clear hfr hr hp
      go_wp2_with fail
      exact ⟨rfl, Post.stop EQp.out FRp.out⟩
    obtain rfl : v3 = .bool q := hv
    have RW3 := Lib.hid (RW2.out.call hR hfr)
    have FR3 := Lib.hid (FR2.out.trans hfr.unown)
    have LE3 := Lib.hid (LE2.out.trans le)
    have EQ3 := Lib.hid (EQ2.out.trans (bind_ok hr))
    clear hR hfr le hr hp
    cases q with
    | true =>
      have hE := EQ3.out
      have EQ4 := Lib.hid (hE.trans (show M.bind (blockIn src m u l true) F1 st3 = F1 l st3 from rfl))
      clear hE
      obtain ⟨H4, hl4, hR4, hi4⟩ := RW3.out.done
      have RD4 := Lib.hid hR4
      have HI4 := Lib.hid hi4
      have LE4 := Lib.hid (LE3.out.trans hl4)
      have EQ5 := Lib.hid (show T = (M.bind (shut src 5) fun _ => pure l) st3 from by rw [EQ4.out, HF1.out]; rfl)
      clear hl4 hR4 hi4
      go_wp2_with fail
      refine (shut_c NX FL 5 RD4.out (fun e => FU.out (EQ5.out.trans (bind_bad e)))).mono ?_
      intro e w5 hp
      rcases hp.elimG with ⟨a5, st5, v5, H5, hr, rfl, le, hR, hv, hfr⟩ | ⟨p, why, hr, rfl, hfr⟩
      rotate_left
      · have EQp := Lib.hid (EQ5.out.trans (bind_bad hr))
        have FRp := Lib.hid (FR3.out.trans hfr)
        clear hfr hr hp
        go_wp2_with fail
        exact ⟨rfl, Post.stop EQp.out FRp.out⟩
      obtain rfl : v5 = .tuple #[] := hv
      have FIN := Lib.hid (show Post X w T (Good rInts X H r sv src) (.returned u5) w5 from Post.ok (EQ5.out.trans (bind_ok hr)) ⟨H5, LE4.out.trans le, hR, HI4.out.mono le⟩ (FR3.out.trans hfr))
      clear hR hfr le hr hp
      go_wp2_with fail
      go_ret
      exact FIN.out
    | false =>
      have EQ4 := Lib.hid (EQ3.out.trans (show M.bind (blockIn src m u l false) F1 st3 = M.bind (one src m u) (fun k => M.bind (if l.length < most then blockOn src m u (l ++ [k]) else fuelOut) F1) st3 from bind_flat _ _ _ _))
      have HC := Lib.hid (HO.out m (by omega) _ _ _ _ _ _ w3 RW3.out.rd (fun e => FU.out (EQ4.out.trans (bind_bad e))))
      rw [← HFU.out] at HC
      have hcf : ∀ w, (callFunc fu #[.pointer (some ⟨r, 0, none⟩)]).run Tryz.prog w = .ok (.enter fu #[.pointer (some ⟨r, 0, none⟩)]) w := fun w => by rw [HFU.out]; exact rule_enter u _ w
      go_wp2_with fail
      clear hcf
      refine HC.out.mono ?_
      intro e w4 hp
      rcases hp.elimG with ⟨k, st4, v4, H4, hr, rfl, le, hR, hv, hfr⟩ | ⟨p, why, hr, rfl, hfr⟩
      rotate_left
      · have EQp := Lib.hid (EQ4.out.trans (bind_bad hr))
        have FRp := Lib.hid (FR3.out.trans hfr.unown)
        clear hfr hr hp
        go_wp2_with fail
        exact ⟨rfl, Post.stop EQp.out FRp.out⟩
      obtain rfl : v4 = .int .i64 k := hv
      have RW4 := Lib.hid (RW3.out.call hR hfr)
      have FR4 := Lib.hid (FR3.out.trans hfr.unown)
      have LE4 := Lib.hid (LE3.out.trans le)
      have EQ5 := Lib.hid (EQ4.out.trans (bind_ok hr))
      clear hR hfr le hr hp
      by_cases hl : l.length < most
      rotate_left
      · exact absurd (EQ5.out.trans (by rw [if_neg hl]; rfl)) FU.out
      have EQ6 := Lib.hid (show T = M.bind (blockOn src m u (l ++ [k])) F1 st4 from EQ5.out.trans (by rw [if_pos hl]))
      have hl' : l.length < 1073741824 := hl
      obtain ⟨i0, hi, hz0, hz1, hz2⟩ := info_parts info3
      have hown := RW4.out.erow
      clear hl
      go_wp2_with (at_builtin; refine wpList_append_own_at _ rfl (.tmp 11) (.tmp 14) 22 rfl 0 3 i0 (.int .i64 0) 1 8 Tryz.underlying22 hi hz0 hz1 hz2 rfl (by decide) _ _ _ rfl (hown.alloc _) ⟨w4.heap.size, 0, none⟩ 1 1 [.int .i64 k] rfl rfl (cell_one_new _ _ _) ?c2 ?c3 ?c4 ?c5 ?_)
      case c2 => intro u hu; simp at hu; subst hu; rfl
      case c3 => unfold maxLen; omega
      case c4 => omega
      case c5 => simp
      intro v' w5 hown1 hgrow1 _ hat1
      have fin := (RW4.out.alloc (.cells #[.int .i64 k] 3)).grow (k := k) hgrow1 hown1 (hat1.imp id fun e => ⟨_, by simp, e⟩)
      have RW6 := Lib.hid fin.1
      have FR6 := Lib.hid (FR4.out.trans (((Fr.refl X w4).alloc RW4.out.xlt (.cells #[.int .i64 k] 3)).trans fin.2))
      obtain ⟨gg, cap, rfl⟩ := own_shows hown1 (by omega)
      clear fin hown1 hgrow1 hat1 hown
      go_wp2_with fail
      go_roundg (m + 1)
      case measure => omega
      case rel => exact ⟨m, l ++ [k], st4, H4, by omega, by omega, by simp; omega, Lib.hid ⟨RW6.out, FR6.out, LE4.out, EQ6.out⟩⟩
end
end Go.Proofs.YtkaeceedofmhbaaGreatDoor
namespace Go.Proofs.YtkaeceedofmhbaaGreatDoor
open Go.RowKit Bk
attribute [local go_sem ↓] Go.wp_at_zero Go.wp_at_succ

def GroupC (n : Nat) : Prop := ∀ (X : Nat → Prop) (H : Frozen) (r : Nat) (sv : Value) (src : Bytes) (st : St) (w : World), RdOK X H w r sv src st → group src n st ≠ .bad .fuel →
  Calls Tryz.prog 50 #[.pointer (some ⟨r, 0, none⟩)] w (Post X w (group src n st) (Good rI X H r sv src))

set_option maxRecDepth 100000 in
set_option maxHeartbeats 4000000 in
theorem own_c (n : Nat) (hg : GroupC n) (hi : OneC n .item) : OneC (n + 1) .own := by
  intro X H r sv src st w h hf
  obtain ⟨T, hT⟩ : ∃ T, T = one src (n + 1) .own st := ⟨_, rfl⟩
  rw [← hT]
  have FU := Lib.hid (show T ≠ .bad .fuel by rw [hT]; exact hf)
  rw [one] at hT
  have EQ0 := Lib.hid (show T = M.bind (see 37) (fun q => if q = true then group src n else one src n .item) st from hT)
  have RD0 := Lib.hid h
  have HG := Lib.hid hg
  have HI := Lib.hid hi
  clear h hf hT hg hi
  show Calls Tryz.prog 28 _ w _
  go_enter Tryz.func28, Tryz.ntmps28
  go_wp2_with fail
  refine (see_g 37 RD0.out (fun e => FU.out (EQ0.out.trans (bind_bad e)))).mono ?_
  intro e w1 hp
  rcases hp.elimG with ⟨q, st1, v1, H1, hr, rfl, le, hR, hv, hfr⟩ | ⟨p, why, hr, rfl, hfr⟩
  rotate_left
  · have EQp := Lib.hid (EQ0.out.trans (bind_bad hr))
    have FRp := Lib.hid hfr
    clear hfr hr hp
    go_wp2_with fail
    exact ⟨rfl, Post.stop EQp.out FRp.out⟩
  obtain rfl : v1 = .bool q := hv
  have EQ1 := Lib.hid (EQ0.out.trans (bind_ok hr))
  have RD1 := Lib.hid hR
  have FR1 := Lib.hid hfr
  have LE1 := Lib.hid le
  clear hr hp hR hfr le
  cases q with
  | true =>
    have EQ2 := Lib.hid (show T = group src n st1 from EQ1.out)
    go_wp2_with fail
    refine (HG.out _ _ _ _ _ _ _ RD1.out (fun e => FU.out (EQ2.out.trans e))).mono ?_
    intro e w2 hp
    rcases hp.elimG with ⟨k, st2, v2, H2, hr, rfl, le, hR, hv, hfr⟩ | ⟨p, why, hr, rfl, hfr⟩
    rotate_left
    · have EQp := Lib.hid (EQ2.out.trans hr)
      have FRp := Lib.hid (FR1.out.trans hfr)
      clear hfr hr hp
      go_wp2_with fail
      exact ⟨rfl, Post.stop EQp.out FRp.out⟩
    obtain rfl : v2 = .int .i64 k := hv
    have FIN := Lib.hid (show Post X w T (Good rI X H r sv src) (.returned (.int .i64 k)) w2 from Post.ok (EQ2.out.trans hr) ⟨H2, LE1.out.trans le, hR, rfl⟩ (FR1.out.trans hfr))
    clear hfr hr hp hR le
    go_wp2_with fail
    go_ret
    exact FIN.out
  | false =>
    have EQ2 := Lib.hid (show T = one src n .item st1 from EQ1.out)
    have HC := Lib.hid (show Calls Tryz.prog 51 #[.pointer (some ⟨r, 0, none⟩)] w1 (Post X w1 (one src n .item st1) (Good rI X H1 r sv src)) from HI.out _ _ _ _ _ _ _ RD1.out (fun e => FU.out (EQ2.out.trans e)))
    go_wp2_with fail
    refine HC.out.mono ?_
    intro e w2 hp
    rcases hp.elimG with ⟨k, st2, v2, H2, hr, rfl, le, hR, hv, hfr⟩ | ⟨p, why, hr, rfl, hfr⟩
    rotate_left
    · have EQp := Lib.hid (EQ2.out.trans hr)
      have FRp := Lib.hid (FR1.out.trans hfr)
      clear hfr hr hp
      go_wp2_with fail
      exact ⟨rfl, Post.stop EQp.out FRp.out⟩
    obtain rfl : v2 = .int .i64 k := hv
    have FIN := Lib.hid (show Post X w T (Good rI X H r sv src) (.returned (.int .i64 k)) w2 from Post.ok (EQ2.out.trans hr) ⟨H2, LE1.out.trans le, hR, rfl⟩ (FR1.out.trans hfr))
    clear hfr hr hp hR le
    go_wp2_with fail
    go_ret
    exact FIN.out
end Go.Proofs.YtkaeceedofmhbaaGreatDoor
