/-
  An item at a block of its own while it is read: its fields, its growing row of expressions.
  syntax: ref.
  An item while it is read: the names stored, its flags, one expression more.
-/
import Derived.Test.YtkaeceedofmhbaaGreatDoorGSy14
import Derived.Deep.RegionLaw
import Derived.Deep.DeepCutAuto
namespace Go.Proofs.YtkaeceedofmhbaaGreatDoor
open Go.RowKit Bk

/-- X, a block, and a row. -/
def Loc (X : Nat → Prop) (b : Nat) (v : Value) : Nat → Prop := fun k => X k ∨ k = b ∨ v.ownBlock = some k

structure ItP (X : Nat → Prop) (H : Frozen) (w : World) (r : Nat) (sv : Value) (src : Bytes) (st : St) (b : Nat) (x : ItemV) (s : ItemS) : Prop where
  rd : RdOK (Loc X b s.ev) H w r sv src st
  txt : Txt X w sv src
  gx : ∀ k, k < low → X k
  xlt : ∀ k, X k → k < w.heap.size
  xb : ¬ X b
  xe : ∀ k, s.ev.ownBlock = some k → ¬ X k
  eb : s.ev.ownBlock ≠ some b
  blk : w.heap[b]? = some (.cells (itemCells x s).toArray 40 (0, 0))
  erow : w.ownsRow 0 3 1 s.ev x.e.length (ints x.e)
  enil : x.e = [] → s.ev = .slice none 0 0
  ip : ItemP H x s
  ps : FRefs H s.pv x.params
  fl : 0 ≤ x.flags ∧ x.flags < 9223372036854775808

def ItOK (X : Nat → Prop) (H : Frozen) (w : World) (r : Nat) (sv : Value) (src : Bytes) (st : St) (b : Nat) (x : ItemV) : Prop := ∃ s, ItP X H w r sv src st b x s

section
variable {X : Nat → Prop} {H H1 : Frozen} {w w1 : World} {r : Nat} {sv : Value} {src : Bytes} {st st1 : St} {b : Nat} {x x' : ItemV} {s s' : ItemS} {v' : Value}

theorem Fr.unloc {v : Value} (h : Fr (Loc X b v) w w1) : Fr X w w1 := h.mono fun _ h => .inl h
theorem ItP.lt (h : ItP X H w r sv src st b x s) : b < w.heap.size := lt_of_block h.blk

/-- A call that leaves the item alone. -/
theorem ItP.call (h : ItP X H w r sv src st b x s) (hR : RdOK (Loc X b s.ev) H1 w1 r sv src st1) (le : Le H H1) (fr : Fr (Loc X b s.ev) w w1) : ItP X H1 w1 r sv src st1 b x s :=
  ⟨hR, h.txt.keep fr.unloc.block, h.gx, fun k hk => Nat.lt_of_lt_of_le (h.xlt k hk) fr.size, h.xb, h.xe, h.eb, by rw [fr.block b (.inr (.inl rfl))]; exact h.blk, ownsRow_block h.erow fun k hk => fr.block k (.inr (.inr hk)), h.enil, h.ip.mono le, h.ps.mono le, h.fl⟩

/-- A field written. -/
theorem ItP.put (h : ItP X H w r sv src st b x s) (i : Nat) (u : Value) (x' : ItemV) (s' : ItemS) (he : (itemCells x s).set i u = itemCells x' s') (hev : s'.ev = s.ev) (hxe : x'.e = x.e) (ip : ItemP H x' s') (ps : FRefs H s'.pv x'.params) (fl : 0 ≤ x'.flags ∧ x'.flags < 9223372036854775808) :
    ItP X H (w.setCell ⟨b, i, none⟩ u) r sv src st b x' s' ∧ Fr X w (w.setCell ⟨b, i, none⟩ u) := by
  have fr : Fr X w (w.setCell ⟨b, i, none⟩ u) := (Fr.refl X w).setCell h.xb u
  have hk : ∀ k, k ≠ b → (w.setCell ⟨b, i, none⟩ u).heap[k]? = w.heap[k]? := fun k hk => Below.heap_setCell _ _ _ _ hk
  have hb := blk_set h.blk i u
  rw [he] at hb
  refine ⟨⟨?_, h.txt.keep fr.block, h.gx, fun k hk => Nat.lt_of_lt_of_le (h.xlt k hk) fr.size, h.xb, by rw [hev]; exact h.xe, by rw [hev]; exact h.eb, hb, ?_, by rw [hev, hxe]; exact h.enil, ip, ps, fl⟩, fr⟩
  · rw [hev]
    refine h.rd.local h.txt h.gx (fun _ hk => .inl hk) (fun k _ hx => hk k ?_) (fun _ hk => .inl hk) (fun _ hk => .inl hk) (fun k hk => Nat.lt_of_lt_of_le (h.rd.xlt k hk) fr.size)
    rintro rfl
    rcases hx with hx | hx
    · exact h.xb hx
    · exact hx (.inr (.inl rfl))
  · rw [hev, hxe]; exact ownsRow_block h.erow fun k hk' => hk k (fun e => h.eb (by rw [← e]; exact hk'))

/-- One expression more. -/
theorem ItP.grow {k : Int} (h : ItP X H w r sv src st b x s) (hg : w.grownBy w1 s.ev.ownBlock) (ho : w1.ownsRow 0 3 1 v' (x.e.length + 1) (ints x.e ++ [.int .i64 k])) (hat : v'.ownBlock = s.ev.ownBlock ∨ ∃ K, w.heap.size ≤ K ∧ v'.ownBlock = some K) :
    ItP X H (w1.setCell ⟨b, 15, none⟩ v') r sv src st b { x with e := x.e ++ [k] } { s with ev := v' } ∧ Fr X w (w1.setCell ⟨b, 15, none⟩ v') := by
  have hlt := h.lt
  have hs : w.heap.size ≤ (w1.setCell ⟨b, 15, none⟩ v').heap.size := by have := hg.size; simpa [World.setCell] using this
  have hb : ∀ k, k < w.heap.size → k ≠ b → s.ev.ownBlock ≠ some k → (w1.setCell ⟨b, 15, none⟩ v').heap[k]? = w.heap[k]? := fun k hk h1 h2 => (Below.heap_setCell _ _ _ _ h1).trans (hg.block k hk (fun e => h2 e.symm))
  have fr : Fr X w (w1.setCell ⟨b, 15, none⟩ v') := ⟨hg.os, hg.tape, hg.output, hs, fun k hk => hb k (h.xlt k hk) (fun e => h.xb (e ▸ hk)) (fun e => h.xe k e hk)⟩
  have hw1 : w1.heap[b]? = w.heap[b]? := hg.block b hlt (fun e => h.eb e.symm)
  have xe' : ∀ k, v'.ownBlock = some k → ¬ X k := fun k hk => by
    rcases hat with e | ⟨K, hK, e⟩
    · exact h.xe k (by rw [← e]; exact hk)
    · rw [e] at hk; obtain rfl : K = k := by simpa using hk
      exact fun hx => by have := h.xlt _ hx; omega
  have eb' : v'.ownBlock ≠ some b := fun e' => by
    rcases hat with e | ⟨K, hK, e⟩
    · exact h.eb (by rw [← e]; exact e')
    · rw [e] at e'; obtain rfl : K = b := by simpa using e'
      omega
  have e : ints x.e ++ [.int .i64 k] = ints (x.e ++ [k]) := by simp [ints]
  refine ⟨⟨?_, h.txt.keep fr.block, h.gx, fun k hk => Nat.lt_of_lt_of_le (h.xlt k hk) hs, h.xb, xe', eb', ?_, ?_, fun e => absurd e (by simp), ⟨h.ip.nv, h.ip.fv, h.ip.tv, h.ip.ov, h.ip.kv, h.ip.lv⟩, h.ps, h.fl⟩, fr⟩
  · refine h.rd.local h.txt h.gx (fun _ hk => .inl hk) (fun k hk hx => hb k hk ?_ ?_) (fun _ hk => .inl hk) (fun k hk => ?_) (fun k hk => ?_)
    · rintro rfl
      rcases hx with hx | hx
      · exact h.xb hx
      · exact hx (.inr (.inl rfl))
    · intro e
      rcases hx with hx | hx
      · exact h.xe k e hx
      · exact hx (.inr (.inr e))
    · rcases hk with h1 | h1 | h1
      · exact .inl (.inl h1)
      · exact .inl (.inr (.inl h1))
      · rcases hat with e | ⟨K, hK, e⟩
        · exact .inl (.inr (.inr (by rw [← e]; exact h1)))
        · rw [show ({ s with ev := v' } : ItemS).ev = v' from rfl, e] at h1
          obtain rfl : K = k := by simpa using h1
          exact .inr hK
    · rcases hk with h1 | h1 | h1
      · exact Nat.lt_of_lt_of_le (h.xlt k h1) hs
      · subst h1; omega
      · have := (ho.lt k h1).2; simpa [World.setCell] using this
  · have := blk_set (w := w1) (by rw [hw1]; exact h.blk) 15 v'
    simpa [itemCells] using this
  · rw [← e]
    simpa using ownsRow_setCell_other ho (a := ⟨b, 15, none⟩) eb' v'

/-- What is handed back beside an item. -/
def GoodI {α : Type} (R : α → ItemV → Value → Prop) (X : Nat → Prop) (H : Frozen) (r : Nat) (sv : Value) (src : Bytes) (b : Nat) (a : α) (st : St) (v : Value) (w : World) : Prop :=
  ∃ H' x, Le H H' ∧ ItOK X H' w r sv src st b x ∧ R a x v
def iU : ItemV → ItemV → Value → Prop := fun a x v => a = x ∧ v = .tuple #[]
def iB : Bool × ItemV → ItemV → Value → Prop := fun a x v => a.2 = x ∧ v = .bool a.1

theorem Post.elimI {α : Type} {R : α → ItemV → Value → Prop} {w' : World} {res : Res α} {e : Ending} (h : Post X w res (GoodI R X H r sv src b) e w') :
    (∃ a st1 v H1 x, res = .ok a st1 ∧ e = .returned v ∧ Le H H1 ∧ ItOK X H1 w' r sv src st1 b x ∧ R a x v ∧ Fr X w w') ∨ (∃ p why, res = .bad (.stop p why) ∧ e = .panicked [{ v := haltV p why, recovered := false }] ∧ Fr X w w') := by
  rcases h.elim with ⟨a, st1, v, h1, h2, ⟨H1, x, h3, h4, h5⟩, h6⟩ | h
  · exact .inl ⟨a, st1, v, H1, x, h1, h2, h3, h4, h5, h6⟩
  · exact .inr h
/-- One ending alone, where it is known which. -/
theorem Post.okG {α : Type} {R : Frozen → α → Value → Prop} {w' : World} {a : α} {st1 : St} {e : Ending} (h : Post X w (.ok a st1) (Good R X H r sv src) e w') :
    ∃ v H1, e = .returned v ∧ Le H H1 ∧ RdOK X H1 w' r sv src st1 ∧ R H1 a v ∧ Fr X w w' := by
  obtain ⟨v, h1, ⟨H1, h3, h4, h5⟩, h6⟩ := h
  exact ⟨v, H1, h1, h3, h4, h5, h6⟩
theorem Post.badG {α : Type} {R : Frozen → α → Value → Prop} {w' : World} {p : Nat} {why : Int} {e : Ending} (h : Post X w (.bad (.stop p why) : Res α) (Good R X H r sv src) e w') :
    e = .panicked [{ v := haltV p why, recovered := false }] ∧ Fr X w w' := h
end
end Go.Proofs.YtkaeceedofmhbaaGreatDoor
namespace Go.Proofs.YtkaeceedofmhbaaGreatDoor
open Go.RowKit Bk
attribute [local go_sem ↓] Go.wp_at_zero Go.wp_at_succ

/-- A name at a block of its own, while its indices are read. -/
structure RfP (X : Nat → Prop) (H : Frozen) (w : World) (r : Nat) (sv : Value) (src : Bytes) (st : St) (b : Nat) (f : RefV) (iv : Value) : Prop where
  rd : RdOK (Loc X b iv) H w r sv src st
  txt : Txt X w sv src
  gx : ∀ k, k < low → X k
  xlt : ∀ k, X k → k < w.heap.size
  xb : ¬ X b
  xe : ∀ k, iv.ownBlock = some k → ¬ X k
  eb : iv.ownBlock ≠ some b
  blk : w.heap[b]? = some (.cells #[str f.word, .int .i64 f.at_, iv] 24 (0, 0))
  erow : w.ownsRow 0 3 1 iv f.index.length (ints f.index)
  enil : f.index = [] → iv = .slice none 0 0

section
variable {X : Nat → Prop} {H H1 : Frozen} {w w1 : World} {r : Nat} {sv : Value} {src : Bytes} {st st1 : St} {b : Nat} {f : RefV} {iv v' : Value}

theorem RfP.lt (h : RfP X H w r sv src st b f iv) : b < w.heap.size := lt_of_block h.blk
theorem RfP.call (h : RfP X H w r sv src st b f iv) (hR : RdOK (Loc X b iv) H1 w1 r sv src st1) (fr : Fr (Loc X b iv) w w1) : RfP X H1 w1 r sv src st1 b f iv :=
  ⟨hR, h.txt.keep fr.unloc.block, h.gx, fun k hk => Nat.lt_of_lt_of_le (h.xlt k hk) fr.size, h.xb, h.xe, h.eb, by rw [fr.block b (.inr (.inl rfl))]; exact h.blk, ownsRow_block h.erow fun k hk => fr.block k (.inr (.inr hk)), h.enil⟩
theorem RfP.drew (h : RfP X H w r sv src st b f iv) : RfP X H w.drew r sv src st b f iv := h.call h.rd.drew ⟨rfl, rfl, rfl, Nat.le_refl _, fun _ _ => rfl⟩
theorem RfP.grow {k : Int} (h : RfP X H w r sv src st b f iv) (hg : w.grownBy w1 iv.ownBlock) (ho : w1.ownsRow 0 3 1 v' (f.index.length + 1) (ints f.index ++ [.int .i64 k])) (hat : v'.ownBlock = iv.ownBlock ∨ ∃ K, w.heap.size ≤ K ∧ v'.ownBlock = some K) :
    RfP X H (w1.setCell ⟨b, 2, none⟩ v') r sv src st b { f with index := f.index ++ [k] } v' ∧ Fr X w (w1.setCell ⟨b, 2, none⟩ v') := by
  have hlt := h.lt
  have hs : w.heap.size ≤ (w1.setCell ⟨b, 2, none⟩ v').heap.size := by have := hg.size; simpa [World.setCell] using this
  have hb : ∀ k, k < w.heap.size → k ≠ b → iv.ownBlock ≠ some k → (w1.setCell ⟨b, 2, none⟩ v').heap[k]? = w.heap[k]? := fun k hk h1 h2 => (Below.heap_setCell _ _ _ _ h1).trans (hg.block k hk (fun e => h2 e.symm))
  have fr : Fr X w (w1.setCell ⟨b, 2, none⟩ v') := ⟨hg.os, hg.tape, hg.output, hs, fun k hk => hb k (h.xlt k hk) (fun e => h.xb (e ▸ hk)) (fun e => h.xe k e hk)⟩
  have hw1 : w1.heap[b]? = w.heap[b]? := hg.block b hlt (fun e => h.eb e.symm)
  have xe' : ∀ k, v'.ownBlock = some k → ¬ X k := fun k hk => by
    rcases hat with e | ⟨K, hK, e⟩
    · exact h.xe k (by rw [← e]; exact hk)
    · rw [e] at hk; obtain rfl : K = k := by simpa using hk
      exact fun hx => by have := h.xlt _ hx; omega
  have eb' : v'.ownBlock ≠ some b := fun e' => by
    rcases hat with e | ⟨K, hK, e⟩
    · exact h.eb (by rw [← e]; exact e')
    · rw [e] at e'; obtain rfl : K = b := by simpa using e'
      omega
  have e : ints f.index ++ [.int .i64 k] = ints (f.index ++ [k]) := by simp [ints]
  refine ⟨⟨?_, h.txt.keep fr.block, h.gx, fun k hk => Nat.lt_of_lt_of_le (h.xlt k hk) hs, h.xb, xe', eb', ?_, ?_, fun e => absurd e (by simp)⟩, fr⟩
  · refine h.rd.local h.txt h.gx (fun _ hk => .inl hk) (fun k hk hx => hb k hk ?_ ?_) (fun _ hk => .inl hk) (fun k hk => ?_) (fun k hk => ?_)
    · rintro rfl
      rcases hx with hx | hx
      · exact h.xb hx
      · exact hx (.inr (.inl rfl))
    · intro e
      rcases hx with hx | hx
      · exact h.xe k e hx
      · exact hx (.inr (.inr e))
    · rcases hk with h1 | h1 | h1
      · exact .inl (.inl h1)
      · exact .inl (.inr (.inl h1))
      · rcases hat with e | ⟨K, hK, e⟩
        · exact .inl (.inr (.inr (by rw [← e]; exact h1)))
        · rw [e] at h1
          obtain rfl : K = k := by simpa using h1
          exact .inr hK
    · rcases hk with h1 | h1 | h1
      · exact Nat.lt_of_lt_of_le (h.xlt k h1) hs
      · subst h1; omega
      · have := (ho.lt k h1).2; simpa [World.setCell] using this
  · have := blk_set (w := w1) (cs := [str f.word, .int .i64 f.at_, iv]) (by rw [hw1]; exact h.blk) 2 v'
    simpa using this
  · rw [← e]
    simpa using ownsRow_setCell_other ho (a := ⟨b, 2, none⟩) eb' v'

theorem Fr.drewOn (X : Nat → Prop) (w : World) : Fr X w w.drew := ⟨rfl, rfl, rfl, Nat.le_refl _, fun _ _ => rfl⟩
theorem RfP.alloc (h : RfP X H w r sv src st b f iv) (o : Obj) : RfP X H (w.alloc o) r sv src st b f iv := h.call (h.rd.alloc o) ((Fr.refl _ _).alloc h.rd.xlt o)

/-- The name, done with. -/
theorem RfP.done (h : RfP X H w r sv src st b f iv) : ∃ H1, Le H H1 ∧ RdOK X H1 w r sv src st ∧ FInts H1 iv f.index := by
  by_cases he : f.index = []
  · exact ⟨H, Le.refl H, h.rd.back h.txt h.gx (fun _ hk => .inl hk), .inl ⟨h.enil he, by rw [he]; rfl, by rw [he]; rfl⟩⟩
  · have hpos : 0 < f.index.length := List.length_pos_iff.2 he
    obtain ⟨hlen, h2⟩ := h.erow
    rcases h2 with ⟨_, h0⟩ | ⟨g, cap, cur, e, _, hg, h1, h2, h3, h4⟩
    · omega
    · have hz := h.rd.freeze h.txt h.gx (fun _ hk => .inl hk) (g := g) (.inr (.inr (by rw [e]; rfl))) (h.xe g (by rw [e]; rfl)) hg (cs := ints f.index) (by rw [hlen]; exact h4)
      exact ⟨_, hz.2, hz.1, .inr ⟨g, cap, e, hpos, h1, h2, Frozen.put_self _ _ _ _⟩⟩

theorem word_index {f : RefV} {st1 : St} (h : word src st = .ok f st1) : f.index = [] := by
  unfold word at h
  dsimp only at h
  split at h
  · generalize hs : ({ st with name := true } : St) = st0 at h
    change M.bind (next src) _ st0 = _ at h
    unfold M.bind at h
    split at h
    · injection h with h1 h2
      rw [← h1]
    · cases h
  · cases h

/-- Behind a bracket that stands here. -/
def refIn (src : Bytes) (m : Nat) (f : RefV) : Bool → M RefV := fun b =>
  if b then (open_ src 6 >>= fun _ => expr src m 0 >>= fun k => shut src 7 >>= fun _ => if f.index.length < most then refOn src m { f with index := f.index ++ [k] } else fuelOut) else pure f
theorem refOn_on (m : Nat) (f : RefV) (st : St) : refOn src (m + 1) f st = (see 6 >>= refIn src m f) st := by rw [refOn]; rfl

set_option maxRecDepth 100000 in
set_option maxHeartbeats 4000000 in
theorem ref_c (n : Nat) (h : RdOK X H w r sv src st) (hf : ref src n st ≠ .bad .fuel) :
    Calls Tryz.prog 151 #[.pointer (some ⟨r, 0, none⟩)] w (Post X w (ref src n st) (Good rRef X H r sv src)) := by
  obtain ⟨T, hT⟩ : ∃ T, T = ref src n st := ⟨_, rfl⟩
  rw [← hT]
  have FU := Lib.hid (show T ≠ .bad .fuel by rw [hT]; exact hf)
  have EQ0 := Lib.hid (show T = (word src >>= fun f => refOn src n f) st from hT)
  have NX := Lib.hid next_c
  have FL := Lib.hid fail_c
  -- the result's own block
  obtain ⟨o0, ho0⟩ : ∃ o0 : Obj, o0 = .cells #[.string ⟨#[]⟩, .int .i64 0, .slice none 0 0] 24 := ⟨_, rfl⟩
  have HO0 := Lib.hid ho0
  have hbel : Below w.heap.size w (w.alloc o0) := (Below.refl _ _).alloc (Nat.le_refl _) o0
  have RD0 := Lib.hid (h.fence hbel)
  have FR0 := Lib.hid ((Fr.refl X w).alloc h.xlt o0)
  have RDW := Lib.hid h
  have hblk0 : (w.alloc o0).heap[w.heap.size]? = some o0 := heap_alloc_new w o0
  have hsz0 : (w.alloc o0).heap.size = w.heap.size + 1 := by simp
  clear h hf hT hbel ho0
  go_enter Tryz.func151, Tryz.ntmps151
  go_wp2_with fail
  rw [← HO0.out]
  obtain ⟨W, hW⟩ : ∃ W, W = w.alloc o0 := ⟨_, rfl⟩
  rw [← hW] at RD0 FR0 hblk0 hsz0 ⊢
  obtain ⟨B, hB⟩ : ∃ B, B = w.heap.size := ⟨_, rfl⟩
  rw [← hB] at RD0 hblk0 hsz0 ⊢
  have HB := Lib.hid hB
  have HBLK := Lib.hid hblk0
  have HSZ := Lib.hid hsz0
  clear hW hB hblk0 hsz0
  go_wp2_with fail
  refine (rword_c NX FL RD0.out).mono ?_
  intro e w1 hp
  rcases hp.elimG with ⟨f1, st1, v1, H1, hr, rfl, le, hR, hv, hfr⟩ | ⟨p, why, hr, rfl, hfr⟩
  rotate_left
  · have EQp := Lib.hid (EQ0.out.trans (bind_bad hr))
    have FRp := Lib.hid (FR0.out.trans hfr.unfence)
    clear hfr hr hp
    go_wp2_with fail
    exact ⟨rfl, Post.stop EQp.out FRp.out⟩
  obtain ⟨i1, rfl, hi1⟩ := hv
  have hidx := word_index hr
  have hin : i1 = .slice none 0 0 := by
    rcases hi1 with ⟨e, _⟩ | ⟨g, cap, _, hp, _⟩
    · exact e
    · rw [hidx] at hp; simp at hp
  subst hin
  have EQ1 := Lib.hid (EQ0.out.trans (bind_ok hr))
  have LE1 := Lib.hid le
  obtain ⟨X0, hX0⟩ : ∃ X0, X0 = Fence X B W.heap.size := ⟨_, rfl⟩
  rw [← hX0] at hR hfr
  have hx0 : ∀ k, X k → X0 k := fun k hk => by rw [hX0]; exact .inl hk
  have hx0' : ∀ k, X0 k → X k ∨ k = B := fun k hk => by
    rw [hX0] at hk
    rcases hk with hk | hk
    · exact .inl hk
    · exact .inr (by have := HSZ.out; omega)
  have hx0B : X0 B := by rw [hX0]; exact .inr ⟨Nat.le_refl _, by have := HSZ.out; omega⟩
  obtain ⟨o1, ho1⟩ : ∃ o1 : Obj, o1 = .cells #[str f1.word, .int .i64 f1.at_, .slice none 0 0] 24 := ⟨_, rfl⟩
  have hrf : RfP X0 H1 (w1.alloc o1) r sv src st1 w1.heap.size f1 (.slice none 0 0) := by
    have hbel : Below w1.heap.size w1 (w1.alloc o1) := (Below.refl _ _).alloc (Nat.le_refl _) o1
    refine ⟨?_, hR.txt.keep fun k hk => hbel.block k (hR.xlt k hk), hR.gx, fun k hk => Nat.lt_of_lt_of_le (hR.xlt k hk) hbel.size, fun hx => by have := hR.xlt _ hx; omega, fun k hk => by simp [Value.ownBlock] at hk, by simp [Value.ownBlock], ?_, ⟨by rw [hidx]; rfl, .inl ⟨rfl, by rw [hidx]; rfl⟩⟩, fun _ => rfl⟩
    · refine hR.local hR.txt hR.gx (fun _ h => h) (fun k hk _ => hbel.block k hk) (fun _ h => .inl h) (fun k hk => ?_) (fun k hk => ?_)
      · rcases hk with h1 | h1 | h1
        · exact .inl h1
        · exact .inr (by omega)
        · simp [Value.ownBlock] at h1
      · rcases hk with h1 | h1 | h1
        · exact Nat.lt_of_lt_of_le (hR.xlt k h1) hbel.size
        · subst h1; simp
        · simp [Value.ownBlock] at h1
    · rw [← ho1]; exact heap_alloc_new w1 o1
  have HIDX := Lib.hid hidx
  have FR1 := Lib.hid (show Fr X0 W (w1.alloc o1) from hfr.alloc hR.xlt o1)
  have HRF := Lib.hid hrf
  have HO1 := Lib.hid ho1
  have HX0 := Lib.hid hx0
  have HX0' := Lib.hid hx0'
  have HXB := Lib.hid hx0B
  clear hR hfr hr hp le hi1 hidx hX0 hx0 hx0' hx0B hrf ho1
  go_wp2_with fail
  rw [← HO1.out]
  obtain ⟨W1, hW1⟩ : ∃ W1, W1 = w1.alloc o1 := ⟨_, rfl⟩
  rw [← hW1] at HRF FR1 ⊢
  obtain ⟨b, hb⟩ : ∃ b, b = w1.heap.size := ⟨_, rfl⟩
  rw [← hb] at HRF ⊢
  clear hW1 hb
  go_loopg [] (n + 1) (fun g wr => ∃ (m : Nat) (f : RefV) (iv : Value) (stk : St) (Hk : Frozen), m ≤ n ∧ m < g ∧ f.index.length ≤ 1073741824 ∧ Hid (RfP X0 Hk wr r sv src stk b f iv ∧ Fr X0 W wr ∧ Le H Hk ∧ T = refOn src m f stk))
  case atStart => exact ⟨n, f1, _, st1, H1, Nat.le_refl _, by omega, by rw [HIDX.out]; simp, Lib.hid ⟨HRF.out, FR1.out, LE1.out, EQ1.out⟩⟩
  case round =>
    obtain ⟨m, f, iv, stk, Hk, hmn, hmg, hfl, hrel⟩ := hrel
    obtain ⟨hR, hF, hL, hE⟩ := hrel.out
    cases m with
    | zero => exact absurd hE FU.out
    | succ m =>
    rw [refOn_on] at hE
    have RFK := Lib.hid hR
    have FRK := Lib.hid hF
    have LEK := Lib.hid hL
    have EQK := Lib.hid hE
    clear hrel hR hF hL hE
    go_wp2_with fail
    refine (see_g 6 RFK.out.rd (fun e => FU.out (EQK.out.trans (bind_bad e)))).mono ?_
    intro e w2 hp
    rcases hp.elimG with ⟨q, st2, v2, H2, hr, rfl, le, hR, hv, hfr⟩ | ⟨p, why, hr, rfl, hfr⟩
    rotate_left
    · have EQp := Lib.hid (EQK.out.trans (bind_bad hr))
      have FRp := Lib.hid (FR0.out.trans ((FRK.out.trans hfr.unloc).mono HX0.out))
      clear hfr hr hp
      go_wp2_with fail
      exact ⟨rfl, Post.stop EQp.out FRp.out⟩
    obtain rfl : v2 = .bool q := hv
    have RF2 := Lib.hid (RFK.out.call hR hfr)
    have FR2 := Lib.hid (FRK.out.trans hfr.unloc)
    have LE2 := Lib.hid (LEK.out.trans le)
    have EQ2 := Lib.hid (EQK.out.trans (bind_ok hr))
    clear hR hfr le hr hp
    cases q with
    | false =>
      have d0 : w2.cell? ⟨b, 0, none⟩ = some (str f.word) := cell_of_blk (cs := [str f.word, .int .i64 f.at_, iv]) RF2.out.blk 0
      have d1 : w2.cell? ⟨b, 1, none⟩ = some (.int .i64 f.at_) := cell_of_blk (cs := [str f.word, .int .i64 f.at_, iv]) RF2.out.blk 1
      have d2 : w2.cell? ⟨b, 2, none⟩ = some iv := cell_of_blk (cs := [str f.word, .int .i64 f.at_, iv]) RF2.out.blk 2
      have hBb : w2.heap[B]? = some o0 := (FR2.out.block B HXB.out).trans HBLK.out
      rw [HO0.out] at hBb
      have g0 : w2.cell? ⟨B, 0, none⟩ = some (.string ⟨#[]⟩) := cell_of_blk (cs := [.string ⟨#[]⟩, .int .i64 0, .slice none 0 0]) hBb 0
      have g1 : w2.cell? ⟨B, 1, none⟩ = some (.int .i64 0) := cell_of_blk (cs := [.string ⟨#[]⟩, .int .i64 0, .slice none 0 0]) hBb 1
      have g2 : w2.cell? ⟨B, 2, none⟩ = some (.slice none 0 0) := cell_of_blk (cs := [.string ⟨#[]⟩, .int .i64 0, .slice none 0 0]) hBb 2
      have q0 := free_of_blk hBb 0
      have q1 := free_of_blk hBb 1
      have q2 := free_of_blk hBb 2
      have hend : Post X w T (Good rRef X H r sv src) (.returned (.agg #[str f.word, .int .i64 f.at_, iv])) (((w2.setCell ⟨B, 0, none⟩ (str f.word)).setCell ⟨B, 1, none⟩ (.int .i64 f.at_)).setCell ⟨B, 2, none⟩ iv) := by
        have hXB : ¬ X B := fun hx => by have := RDW.out.xlt _ hx; have := HB.out; omega
        have same : ∀ k, k ≠ B → (((w2.setCell ⟨B, 0, none⟩ (str f.word)).setCell ⟨B, 1, none⟩ (.int .i64 f.at_)).setCell ⟨B, 2, none⟩ iv).heap[k]? = w2.heap[k]? := fun k hk => by
          rw [Below.heap_setCell _ _ _ _ hk, Below.heap_setCell _ _ _ _ hk, Below.heap_setCell _ _ _ _ hk]
        obtain ⟨H3, hl3, hr3, hi3⟩ := RF2.out.done
        have frx : Fr X w w2 := FR0.out.trans (FR2.out.mono HX0.out)
        refine Post.ok EQ2.out ⟨H3, LE2.out.trans hl3, hr3.local (X := X) (RDW.out.txt.keep frx.block) RDW.out.gx HX0.out (fun k hk h => same k ?_) (fun _ h => h) (fun k hk => .inl (HX0.out k hk)) (fun k hk => by simpa [World.setCell] using hr3.xlt k (HX0.out k hk)), ⟨iv, rfl, hi3⟩⟩ (((frx.setCell (p := ⟨B, 0, none⟩) hXB _).setCell (p := ⟨B, 1, none⟩) hXB _).setCell (p := ⟨B, 2, none⟩) hXB _)
        rintro rfl
        rcases h with h | h
        · exact hXB h
        · exact h HXB.out
      have HEND := Lib.hid hend
      have hone : iv.oneCell' = true := by
        rcases RF2.out.erow.2 with ⟨e, _⟩ | ⟨g, cap, cur, e, _⟩ <;> rw [e] <;> rfl
      obtain ⟨ia, ic, hiv⟩ : ∃ ia ic, iv = .slice ia f.index.length ic := by
        rcases RF2.out.erow.2 with ⟨e, h0⟩ | ⟨g, cap, cur, e, _⟩
        · exact ⟨none, 0, by rw [e, h0]⟩
        · exact ⟨_, _, e⟩
      subst hiv
      clear hend hBb hone
      go_wp2_with fail
      exact bodyPost_ret (v := .agg #[str f.word, .int .i64 f.at_, .slice ia f.index.length ic]) (by simp [results, Tryz.results151, go_sem, g0, g1, g2]) rfl HEND.out
    | true =>
      go_wp2_with fail
      refine (open_c NX FL 6 RF2.out.rd (fun e => FU.out (EQ2.out.trans (bind_bad e)))).mono ?_
      intro e w3 hp
      rcases hp.elimG with ⟨q, st3, v3, H3, hr, rfl, le, hR, hv, hfr⟩ | ⟨p, why, hr, rfl, hfr⟩
      rotate_left
      · have EQp := Lib.hid (EQ2.out.trans (bind_bad hr))
        have FRp := Lib.hid (FR0.out.trans ((FR2.out.trans hfr.unloc).mono HX0.out))
        clear hfr hr hp
        go_wp2_with fail
        exact ⟨rfl, Post.stop EQp.out FRp.out⟩
      obtain rfl : v3 = .tuple #[] := hv
      have RF3 := Lib.hid (RF2.out.call hR hfr)
      have FR3 := Lib.hid (FR2.out.trans hfr.unloc)
      have LE3 := Lib.hid (LE2.out.trans le)
      have EQ3 := Lib.hid (EQ2.out.trans (bind_ok hr))
      clear hR hfr le hr hp
      go_upto_region 4 with (fail)
      have EQ4 := Lib.hid (show T = (expr src m 0 >>= fun k => shut src 7 >>= fun _ => if f.index.length < most then refOn src m { f with index := f.index ++ [k] } else fuelOut) st3 from EQ3.out)
      have HEX := Lib.hid (expr_c m _ _ _ _ _ _ w3.drew 0 RF3.out.rd.drew (fun e => FU.out (EQ4.out.trans (bind_bad e))))
      have e2 : w3.cell? ⟨b, 2, none⟩ = some iv := cell_of_blk (cs := [str f.word, .int .i64 f.at_, iv]) RF3.out.blk 2
      cases hre : expr src m 0 st3 with
      | bad hb =>
        cases hb with
        | fuel => exact absurd (EQ4.out.trans (bind_bad hre)) FU.out
        | stop p why =>
        have HEXP := Lib.hid (HEX.out.mono (R' := fun e w' => e = .panicked [{ v := haltV p why, recovered := false }] ∧ Fr X0 W w') (fun e w' hp => by
          rw [hre] at hp
          exact ⟨hp.1, FR3.out.trans ((Fr.drewOn X0 w3).trans hp.2.unloc)⟩))
        have EQp := Lib.hid (EQ4.out.trans (bind_bad hre))
        clear hre HEX
        refine wp_region_any (by kernel_rfl) ?_
        try (change wpAny _ _ _ _ _ _ _ (World.drew _))
        refine wpAny_take (i := 0) (v := ?_) rfl (by kernel_rfl) (by kernel_rfl) (by kernel_rfl) (fun _ _ _ h => h) (Or.inl ⟨by rfl, by intro w; go_simp; with_reducible rfl⟩) ?_
        refine wpAny_take (i := 2) (v := ?_) rfl (by kernel_rfl) (by kernel_rfl) (by kernel_rfl) (fun _ _ _ h => h) (Or.inl ⟨by rfl, by intro w; go_simp; with_reducible rfl⟩) ?_
        refine wpAny_ready (rs := [1, 3]) (by kernel_rfl) (by simp) ?_
        refine AllReady.cons rfl (fun K hK => ?_) (AllReady.cons rfl (fun K hK => ?_) AllReady.nil)
        · go_simp
          refine hK _ _ ?_
          clear hK K
          refine wpAny_ready (rs := [3]) (by kernel_rfl) (by simp) ?_
          refine AllReady.cons rfl (fun K hK => ?_) AllReady.nil
          go_simp
          go_at_call 110
          refine HEXP.out.mono ?_
          rintro e w5 ⟨rfl, FRp⟩
          exact ⟨rfl, Post.stop EQp.out (FR0.out.trans (FRp.mono HX0.out))⟩
        · go_simp
          go_at_call 110
          refine HEXP.out.mono ?_
          rintro e w5 ⟨rfl, FRp⟩
          exact ⟨rfl, Post.stop EQp.out (FR0.out.trans (FRp.mono HX0.out))⟩
      | ok k st4 =>
        have HEX2 := Lib.hid (HEX.out.mono (R' := fun e w' => ∃ H5, e = .returned (.int .i64 k) ∧ Le H3 H5 ∧ RdOK (Loc X0 b iv) H5 w' r sv src st4 ∧ Fr (Loc X0 b iv) w3.drew w') (fun e w' hp => by
          rw [hre] at hp
          obtain ⟨v, H5, h1, h2, h3, h4, h5⟩ := Post.okG hp
          obtain rfl : v = .int .i64 k := h4
          exact ⟨H5, h1, h2, h3, h5⟩))
        have EQ5 := Lib.hid (EQ4.out.trans (bind_ok hre))
        have HBL := Lib.hid (Nat.lt_of_lt_of_le RF3.out.lt (Nat.le_refl _))
        obtain ⟨i0, hi0, hz0, hz1, hz2⟩ := info_parts info3
        have hlb : b < w3.heap.size := RF3.out.lt
        clear hre HEX
        go_cut [] (fun wx => ∃ H5 iv5, RfP X0 H5 wx r sv src st4 b { f with index := f.index ++ [k] } iv5 ∧ Fr X0 w3 wx ∧ Le H3 H5)
        case first =>
          go_region_law (first
            | (go_simp; go_at_call 110; refine HEX2.out.mono ?_; rintro e w5 ⟨H5, rfl, hle5, hR5, hfr5⟩; have e2' : w5.cell? ⟨b, 2, none⟩ = some iv := (World.cell?_of_block (w := w3) (a := ⟨b, 2, none⟩) (hfr5.block b (.inr (.inl rfl)))).trans e2; have hl5 : b < w5.heap.size := Nat.lt_of_lt_of_le hlb hfr5.size; have e2'' : (w5.alloc (Obj.cells #[.int .i64 k] 3)).cell? ⟨b, 2, none⟩ = some iv := (World.cell?_of_block (w := w5) (a := ⟨b, 2, none⟩) (heap_alloc_old w5 _ hl5)).trans e2')
            | (refine step_append_lies _ (by rfl) _ _ _ (by rfl) 0 3 i0 _ 1 8 Tryz.underlying22 hi0 hz0 hz1 hz2 rfl (by omega) iv f.index.length (ints f.index) (by rfl) (((RF3.out.drew.call hR5 hfr5).erow).alloc _)
                ⟨w5.heap.size, 0, none⟩ 1 1 [.int .i64 k] (by rfl) (by rfl) (World.news_of_block (cs := #[.int .i64 k]) (t := 3) (fr := (0, 0)) (heap_alloc_new w5 _)) (by simp [Value.oneCell'])
                (by omega) (by unfold maxLen; omega) (by omega) (by simp) (w5.heap.size + 1) (by simp) ?_; intro gg cap w6 hown6 hgrow hat hlt6;
                have g2 : w6.frozen? ⟨b, 2, none⟩ = false := (World.frozen?_of_block (w := w5) (a := ⟨b, 2, none⟩) (grown_block hgrow (RF3.out.drew.call hR5 hfr5).lt (RF3.out.drew.call hR5 hfr5).eb)).trans (free_of_blk (RF3.out.drew.call hR5 hfr5).blk 2);
                have k2 : w6.cell? ⟨b, 2, none⟩ = some iv := (World.cell?_of_block (w := w5) (a := ⟨b, 2, none⟩) (grown_block hgrow (RF3.out.drew.call hR5 hfr5).lt (RF3.out.drew.call hR5 hfr5).eb)).trans e2'))
          all_goals
            have RF5 := (RF3.out.drew.call hR5 hfr5).alloc (.cells #[.int .i64 k] 3)
            obtain ⟨RF6, f6⟩ := RF5.grow (k := k) hgrow hown6 (by
              rcases hat with e | e
              · exact .inl (by rw [e]; rfl)
              · exact .inr ⟨gg, by simp; omega, rfl⟩)
            go_wp2_with fail
            go_meet
            exact ⟨H5, _, RF6, (((Fr.drewOn X0 w3).trans hfr5.unloc).trans ((Fr.refl X0 w5).alloc (RF3.out.drew.call hR5 hfr5).xlt _)).trans f6, hle5⟩
        case rest =>
          obtain ⟨H5, iv5, RF5', fr5, le5⟩ := hcut
          have RF5 := Lib.hid RF5'
          have FR5 := Lib.hid (FR3.out.trans fr5)
          have LE5 := Lib.hid (LE3.out.trans le5)
          clear RF5' fr5 le5 hlb e2 HBL
          go_wp2_with fail
          refine (shut_c NX FL 7 RF5.out.rd (fun e => FU.out (EQ5.out.trans (bind_bad e)))).mono ?_
          intro e w7 hp
          rcases hp.elimG with ⟨q, st6, v6, H6, hr, rfl, le, hR, hv, hfr⟩ | ⟨p, why, hr, rfl, hfr⟩
          rotate_left
          · have EQp := Lib.hid (EQ5.out.trans (bind_bad hr))
            have FRp := Lib.hid (FR0.out.trans ((FR5.out.trans hfr.unloc).mono HX0.out))
            clear hfr hr hp
            go_wp2_with fail
            exact ⟨rfl, Post.stop EQp.out FRp.out⟩
          obtain rfl : v6 = .tuple #[] := hv
          have RF6 := Lib.hid (RF5.out.call hR hfr)
          have FR6 := Lib.hid (FR5.out.trans hfr.unloc)
          have LE6 := Lib.hid (LE5.out.trans le)
          have EQ6 := Lib.hid (EQ5.out.trans (bind_ok hr))
          clear hR hfr le hr hp
          by_cases hm : f.index.length < most
          · have EQ7 := Lib.hid (show T = refOn src m { f with index := f.index ++ [k] } st6 by rw [EQ6.out]; simp only [hm, if_true])
            have hm' : f.index.length < 1073741824 := hm
            clear hm
            go_wp2_with fail
            go_roundg (m + 1)
            case measure => omega
            case rel => exact ⟨m, _, iv5, st6, H6, by omega, by omega, by simp; omega, Lib.hid ⟨RF6.out, FR6.out, LE6.out, EQ7.out⟩⟩
          · exact absurd (show T = .bad .fuel by rw [EQ6.out]; simp only [hm, if_false]; rfl) FU.out
end
end Go.Proofs.YtkaeceedofmhbaaGreatDoor
namespace Go.Proofs.YtkaeceedofmhbaaGreatDoor
open Go.RowKit Bk

section
variable {X : Nat → Prop} {H H1 : Frozen} {w w1 : World} {r : Nat} {sv : Value} {src : Bytes} {st st1 : St} {b : Nat} {x x' : ItemV} {s s' : ItemS} {v' : Value} {f : RefV} {i : Value}

theorem ItP.drew (h : ItP X H w r sv src st b x s) : ItP X H w.drew r sv src st b x s := h.call h.rd.drew (Le.refl H) (Fr.drewOn _ _)
theorem ItP.alloc (h : ItP X H w r sv src st b x s) (o : Obj) : ItP X H (w.alloc o) r sv src st b x s := h.call (h.rd.alloc o) (Le.refl H) ((Fr.refl _ _).alloc h.rd.xlt o)

theorem ItP.put_name (h : ItP X H w r sv src st b x s) (hi : FInts H i f.index) :
    ItP X H (((w.setCell ⟨b, 2, none⟩ (str f.word)).setCell ⟨b, 3, none⟩ (.int .i64 f.at_)).setCell ⟨b, 4, none⟩ i) r sv src st b { x with name := f } { s with nv := i } ∧ Fr X w (((w.setCell ⟨b, 2, none⟩ (str f.word)).setCell ⟨b, 3, none⟩ (.int .i64 f.at_)).setCell ⟨b, 4, none⟩ i) := by
  have p := h.ip
  have h1 := h.put 2 (str f.word) { x with name := { x.name with word := f.word } } s rfl rfl rfl ⟨p.nv, p.fv, p.tv, p.ov, p.kv, p.lv⟩ h.ps h.fl
  have h2 := h1.1.put 3 (.int .i64 f.at_) { x with name := { x.name with word := f.word, at_ := f.at_ } } s rfl rfl rfl ⟨p.nv, p.fv, p.tv, p.ov, p.kv, p.lv⟩ h.ps h.fl
  have h3 := h2.1.put 4 i { x with name := f } { s with nv := i } rfl rfl rfl ⟨hi, p.fv, p.tv, p.ov, p.kv, p.lv⟩ h.ps h.fl
  exact ⟨h3.1, h1.2.trans (h2.2.trans h3.2)⟩
theorem ItP.put_frm (h : ItP X H w r sv src st b x s) (hi : FInts H i f.index) :
    ItP X H (((w.setCell ⟨b, 5, none⟩ (str f.word)).setCell ⟨b, 6, none⟩ (.int .i64 f.at_)).setCell ⟨b, 7, none⟩ i) r sv src st b { x with frm := f } { s with fv := i } ∧ Fr X w (((w.setCell ⟨b, 5, none⟩ (str f.word)).setCell ⟨b, 6, none⟩ (.int .i64 f.at_)).setCell ⟨b, 7, none⟩ i) := by
  have p := h.ip
  have h1 := h.put 5 (str f.word) { x with frm := { x.frm with word := f.word } } s rfl rfl rfl ⟨p.nv, p.fv, p.tv, p.ov, p.kv, p.lv⟩ h.ps h.fl
  have h2 := h1.1.put 6 (.int .i64 f.at_) { x with frm := { x.frm with word := f.word, at_ := f.at_ } } s rfl rfl rfl ⟨p.nv, p.fv, p.tv, p.ov, p.kv, p.lv⟩ h.ps h.fl
  have h3 := h2.1.put 7 i { x with frm := f } { s with fv := i } rfl rfl rfl ⟨p.nv, hi, p.tv, p.ov, p.kv, p.lv⟩ h.ps h.fl
  exact ⟨h3.1, h1.2.trans (h2.2.trans h3.2)⟩
theorem ItP.put_to_ (h : ItP X H w r sv src st b x s) (hi : FInts H i f.index) :
    ItP X H (((w.setCell ⟨b, 8, none⟩ (str f.word)).setCell ⟨b, 9, none⟩ (.int .i64 f.at_)).setCell ⟨b, 10, none⟩ i) r sv src st b { x with to_ := f } { s with tv := i } ∧ Fr X w (((w.setCell ⟨b, 8, none⟩ (str f.word)).setCell ⟨b, 9, none⟩ (.int .i64 f.at_)).setCell ⟨b, 10, none⟩ i) := by
  have p := h.ip
  have h1 := h.put 8 (str f.word) { x with to_ := { x.to_ with word := f.word } } s rfl rfl rfl ⟨p.nv, p.fv, p.tv, p.ov, p.kv, p.lv⟩ h.ps h.fl
  have h2 := h1.1.put 9 (.int .i64 f.at_) { x with to_ := { x.to_ with word := f.word, at_ := f.at_ } } s rfl rfl rfl ⟨p.nv, p.fv, p.tv, p.ov, p.kv, p.lv⟩ h.ps h.fl
  have h3 := h2.1.put 10 i { x with to_ := f } { s with tv := i } rfl rfl rfl ⟨p.nv, p.fv, hi, p.ov, p.kv, p.lv⟩ h.ps h.fl
  exact ⟨h3.1, h1.2.trans (h2.2.trans h3.2)⟩
theorem ItP.put_over (h : ItP X H w r sv src st b x s) (hi : FInts H i f.index) :
    ItP X H (((w.setCell ⟨b, 11, none⟩ (str f.word)).setCell ⟨b, 12, none⟩ (.int .i64 f.at_)).setCell ⟨b, 13, none⟩ i) r sv src st b { x with over := f } { s with ov := i } ∧ Fr X w (((w.setCell ⟨b, 11, none⟩ (str f.word)).setCell ⟨b, 12, none⟩ (.int .i64 f.at_)).setCell ⟨b, 13, none⟩ i) := by
  have p := h.ip
  have h1 := h.put 11 (str f.word) { x with over := { x.over with word := f.word } } s rfl rfl rfl ⟨p.nv, p.fv, p.tv, p.ov, p.kv, p.lv⟩ h.ps h.fl
  have h2 := h1.1.put 12 (.int .i64 f.at_) { x with over := { x.over with word := f.word, at_ := f.at_ } } s rfl rfl rfl ⟨p.nv, p.fv, p.tv, p.ov, p.kv, p.lv⟩ h.ps h.fl
  have h3 := h2.1.put 13 i { x with over := f } { s with ov := i } rfl rfl rfl ⟨p.nv, p.fv, p.tv, hi, p.kv, p.lv⟩ h.ps h.fl
  exact ⟨h3.1, h1.2.trans (h2.2.trans h3.2)⟩
theorem ItP.put_flags (h : ItP X H w r sv src st b x s) (n : Int) (hn : 0 ≤ n ∧ n < 9223372036854775808) : ItP X H (w.setCell ⟨b, 16, none⟩ (.int .i64 n)) r sv src st b { x with flags := n } s ∧ Fr X w (w.setCell ⟨b, 16, none⟩ (.int .i64 n)) :=
  h.put 16 (.int .i64 n) { x with flags := n } s rfl rfl rfl ⟨h.ip.nv, h.ip.fv, h.ip.tv, h.ip.ov, h.ip.kv, h.ip.lv⟩ h.ps hn
theorem ItP.put_how (h : ItP X H w r sv src st b x s) (n : Int) : ItP X H (w.setCell ⟨b, 17, none⟩ (.int .i64 n)) r sv src st b { x with how := n } s ∧ Fr X w (w.setCell ⟨b, 17, none⟩ (.int .i64 n)) :=
  h.put 17 (.int .i64 n) { x with how := n } s rfl rfl rfl ⟨h.ip.nv, h.ip.fv, h.ip.tv, h.ip.ov, h.ip.kv, h.ip.lv⟩ h.ps h.fl
theorem ItP.put_text (h : ItP X H w r sv src st b x s) (n : Bytes) : ItP X H (w.setCell ⟨b, 18, none⟩ (str n)) r sv src st b { x with text := n } s ∧ Fr X w (w.setCell ⟨b, 18, none⟩ (str n)) :=
  h.put 18 (str n) { x with text := n } s rfl rfl rfl ⟨h.ip.nv, h.ip.fv, h.ip.tv, h.ip.ov, h.ip.kv, h.ip.lv⟩ h.ps h.fl

theorem FInts.slice {l : List Int} (h : FInts H i l) : ∃ a n c, i = .slice a n c := by
  rcases h with ⟨e, _⟩ | ⟨g, cap, e, _⟩
  · exact ⟨_, _, _, e⟩
  · exact ⟨_, _, _, e⟩

theorem orF_fits {a b : Int} (ha : 0 ≤ a ∧ a < 9223372036854775808) (hb : 0 ≤ b ∧ b < 9223372036854775808) : 0 ≤ orF a b ∧ orF a b < 9223372036854775808 := by
  unfold orF
  have h := Nat.or_lt_two_pow (x := a.toNat) (y := b.toNat) (n := 63) (by omega) (by omega)
  omega
theorem bits_orF {a b : Int} (ha : 0 ≤ a ∧ a < 9223372036854775808) (hb : 0 ≤ b ∧ b < 9223372036854775808) : bits .or .i64 a b = orF a b := by
  obtain ⟨m, rfl⟩ : ∃ m : Nat, a = m := ⟨a.toNat, by omega⟩
  obtain ⟨n, rfl⟩ : ∃ n : Nat, b = n := ⟨b.toNat, by omega⟩
  have h := Nat.or_lt_two_pow (x := m) (y := n) (n := 63) (by omega) (by omega)
  have e1 : m % 2 ^ 64 = m := Nat.mod_eq_of_lt (by omega)
  have e2 : n % 2 ^ 64 = n := Nat.mod_eq_of_lt (by omega)
  unfold bits orF
  show IntKind.i64.wrap ((BitVec.ofInt 64 (m : Int) ||| BitVec.ofInt 64 (n : Int)).toNat : Int) = _
  rw [BitVec.ofInt_natCast, BitVec.ofInt_natCast, BitVec.toNat_or, BitVec.toNat_ofNat, BitVec.toNat_ofNat, e1, e2, Int.toNat_natCast, Int.toNat_natCast]
  exact IntWalk.i64_in _ ⟨by omega, by omega⟩

theorem bind_name {α β : Type} {m : M α} {F : α → M β} {T : Res β} (h : T = M.bind m F st) : ∃ F', F' = F ∧ T = M.bind m F' st := ⟨F, rfl, h⟩
theorem ite_name {α β : Type} {c : Prop} [Decidable c] {A B : M α} {F : α → M β} {T : Res β} (h : T = (if c then M.bind A F else M.bind B F) st) : ∃ F', F' = F ∧ T = M.bind (if c then A else B) F' st :=
  ⟨F, rfl, by rw [h]; split <;> rfl⟩
theorem sw_name {α β : Type} {m : M Bool} {A B : M α} {F : α → M β} {T : Res β} (h : T = M.bind m (fun b => if b = true then M.bind A F else M.bind B F) st) : ∃ F', F' = F ∧ T = M.bind m (fun b => if b = true then M.bind A F' else M.bind B F') st :=
  ⟨F, rfl, h⟩
theorem bind_flat {α β γ : Type} (m : M α) (G : α → M β) (F : β → M γ) (st : St) : M.bind (M.bind m G) F st = M.bind m (fun a => M.bind (G a) F) st := by
  unfold M.bind
  cases m st <;> rfl

/-- 'more' by what the expression gives. -/
theorem more_bad {n : Nat} {h : Bk.Halt} (hr : expr src n 0 st = .bad h) : more src n x st = .bad h := by
  show M.bind (expr src n 0) _ st = _
  unfold M.bind; rw [hr]
theorem more_ok {n : Nat} {k : Int} (hr : expr src n 0 st = .ok k st1) (hl : x.e.length < most) : more src n x st = .ok { x with e := x.e ++ [k] } st1 := by
  show M.bind (expr src n 0) _ st = _
  unfold M.bind; rw [hr]
  simp only [hl, if_true]; rfl
theorem more_few {n : Nat} {k : Int} (hr : expr src n 0 st = .ok k st1) (hl : ¬ x.e.length < most) : more src n x st = .bad .fuel := by
  show M.bind (expr src n 0) _ st = _
  unfold M.bind; rw [hr]
  simp only [hl, if_false]; rfl
end
end Go.Proofs.YtkaeceedofmhbaaGreatDoor
